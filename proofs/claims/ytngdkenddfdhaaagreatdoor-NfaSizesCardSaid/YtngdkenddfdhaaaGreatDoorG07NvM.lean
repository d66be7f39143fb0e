/- Soundness of the abstract layer: what it says of a function's code holds of every run. -/
import Derived.Laws.ResultCell
import Derived.Test.YtngdkenddfdhaaaGreatDoorG06NvL4
import Derived.Laws.Externs
set_option linter.unusedVariables false
set_option linter.unusedSimpArgs false
namespace Nv
open Go
def wfDst (N:Nat):Option Nat→Bool
 | some d=>Nat.blt d N
 | none=>true
def wfGuard (N:Nat) (ops:Array Oper):Option (Nat × Bool)→Bool
 | some (g,_)=>match (ops[g]?).bind (·.dst) with
  | some d=>Nat.blt d N
  | none=>false
 | none=>true
def wfOp (N:Nat) (ops:Array Oper) (o:Oper):Bool:=wfDst N o.dst && wfGuard N ops o.guard
def wfC (N:Nat):Code→Bool
 | .region _ ops false=>ops.toList.all fun o=>wfOp N ops o
 | .region _ ops true=>(ops.toList.all fun o=>wfOp N ops o) && drawOK ops
 | .seq a b=>wfC N a && wfC N b
 | .cond _ x y=>wfC N x && wfC N y
 | .block _ b=>wfC N b
 | .loop b=>wfC N b
 | _=>true
structure Env where
 ρ:RHO
 I:Nat→Prop
 w:World
 σ:ST
 D:List Deferred:=[]
structure At (P:Program) (E:Env) (N:Nat) (fr:FR) (σ:ST) (ρ:RHO) (I:Nat→Prop) (a:Act) (w:World):Prop where
 step:Step E.ρ E.I E.w E.σ ρ I w σ
 rs:RS P ρ I w σ
 vf:VF ρ σ I w fr a
 size:a.tmps.size=N
 defers:a.defers=E.D
def exitIs (ρ:RHO) (σ:ST) (I:Nat→Prop) (w:World):Exit→AExit→Prop
 | .normal,.normal=>True
 | .exit i,.exit j=>i=j
 | .ret,.ret=>True
 | .panic ch,.panic x=>∃ v,ch=[{ v,recovered:=false }]∧V ρ σ I w x v
 | _,_=>False
def lift (P:Program) (E:Env) (N:Nat) (Q:Post):Exit→Act→World→Prop:=fun e a w =>
 ∃ ρ I fr σ ae,At P E N fr σ ρ I a w∧exitIs ρ σ I w e ae∧Q ae fr σ
section
variable {P:Program} {h:Nat→Hint} {E:Env} {N:Nat}
theorem VF.put {ρ:RHO} {σ:ST} {I:Nat→Prop} {w:World} {fr:FR} {a:Act} {x:AV} {v:Value} {d:Option Nat} (hf:VF ρ σ I w fr a) (hv:V ρ σ I w x v) (hd:wfDst a.tmps.size d=true) :
  VF ρ σ I w (Nv.put fr d x) (a.put d v):=by
 cases d with
 | none=>exact hf
 | some d =>
  intro i
  simp only [Nv.put,Act.put]
  have hlt:d<a.tmps.size:=by simpa [wfDst] using hd
  by_cases hi:i=d
  ·subst hi
   have:Nat.beq i i=true:=by simp
   rw [this,getD_set_arr _ _ _ _ hlt,if_pos rfl]
   exact hv
  ·have:Nat.beq i d=false:=by cases hb:Nat.beq i d;rfl;exact absurd (Nat.eq_of_beq_eq_true hb) hi
   rw [this,getD_set_arr _ _ _ _ hlt,if_neg hi]
   exact hf i
theorem VF.step {ρ ρ':RHO} {σ σ':ST} {I I':Nat→Prop} {w w':World} {fr:FR} {a:Act} (hr:RS P ρ I w σ) (hs:Step ρ I w σ ρ' I' w' σ') (hf:VF ρ σ I w fr a):VF ρ' σ' I' w' fr a :=
 fun i=>hs.v hr (hf i)
theorem put_size (a:Act) (d:Option Nat) (v:Value):(a.put d v).tmps.size=a.tmps.size:=by cases d <;> simp [Act.put]
theorem put_defers (a:Act) (d:Option Nat) (v:Value):(a.put d v).defers=a.defers:=by cases d <;> rfl
theorem run_callFunc {g:FuncId} {args:Array Value} {w:World} (hp:plainFn P g=true):(callFunc g args).run P w=.ok (.enter g args) w:=by
 unfold plainFn at hp
 split at hp
 ·rename_i fn hf
  simp only [Bool.and_eq_true,Bool.not_eq_true'] at hp
  have hb:fn.body.isNone=false:=by cases hbd:fn.body <;> simp_all
  simp only [callFunc,Sem.run_bind,run_program,Result.andThen_ok,hf,hp.1,Bool.false_eq_true,if_false,hb]
  rfl
 ·cases hp
theorem AOp_sound {o:Oper} {po:POp} (hop:po.op=o.op) (hdst:po.dst=o.dst) (hty:po.type=o.type) {K Ep:AV→ST→Prop} {fr:FR} {σ:ST} {ρ:RHO} {I:Nat→Prop} {a:Act} {w:World} (hat:At P E N fr σ ρ I a w)
  (hd:wfDst N o.dst=true) (hh:AOp P h po K Ep fr σ) (next:Act→World→Prop) (Q:Exit→Act→World→Prop)
  (hn:∀ v σ',K v σ'→∀ ρ' I' w' u,At P E N (put fr o.dst v) σ' ρ' I' (a.put o.dst u) w'→next (a.put o.dst u) w')
  (hp:∀ x σ',Ep x σ'→∀ ρ' I' w' v,At P E N fr σ' ρ' I' a w'→V ρ' σ' I' w' x v→Q (.panic [{ v,recovered:=false }]) a w'):o.wp P a w next Q:=by
 unfold AOp at hh
 split at hh
 ·rename_i x hpan
  rw [hop] at hpan
  have hv:=hat.vf.eval x
  have key:∀ (t:TypeId) (u:Value),a.eval x=.iface t u→(execOp a.eval o).run P w=.halt (.panic (a.eval x)) w:=by
   intro t u hu
   simp only [execOp,hpan,Instr.panic,hu]
   rfl
  unfold panicA at hh
  unfold Oper.wp
  split at hh
  ·rename_i t y he
   rw [he] at hv
   obtain ⟨u,hu⟩:∃ u,a.eval x=.iface t u:=by
    generalize a.eval x=vv at hv ⊢
    cases hv;exact ⟨_,rfl⟩
   rw [key t u hu,Oper.upon_panic]
   exact hp _ σ hh ρ I w _ hat (by rw [he];exact hv)
  ·rename_i t y he
   rw [he] at hv
   obtain ⟨u,hu⟩:∃ u,a.eval x=.iface t u:=by
    have hd:=hv.d_inv
    generalize a.eval x=vv at hd ⊢
    cases hd;exact ⟨_,rfl⟩
   rw [key t u hu,Oper.upon_panic]
   exact hp _ σ hh ρ I w _ hat (by rw [he];exact hv)
  ·exact hh.elim
 ·rename_i s d x hcv
  rw [hop] at hcv
  obtain ⟨nx,v,av,w',ρ',I',σ',h1,h2,h3,h4,h5,h6⟩:=convA_sound (P:=P) hat.rs hat.vf o hcv K hh
  have hat':At P E N (put fr o.dst av) σ' ρ' I' (a.put o.dst v) w':=⟨hat.step.trans h3,h4,(hat.vf.step hat.rs h3).put h5 (by rw [hat.size];exact hd),by rw [put_size];exact hat.size,by rw [put_defers];exact hat.defers⟩
  unfold Oper.wp
  rw [h1]
  rcases h2 with rfl | ⟨rfl,rfl⟩
  ·rw [Oper.upon_value];exact hn av σ' h6 ρ' I' w' v hat'
  ·rw [Oper.upon_skip];exact hn av σ' h6 ρ' I' w' undef hat'
 ·rename_i f args ts hcall
  rw [hop] at hcall
  unfold callA at hh
  split at hh
  ·rename_i g first cap hc
   have hfv:=hat.vf.eval f
   have hvl:=hat.vf.vl args
   have hex:∃ (vf vc:Array Value),a.eval f=.func (.func g) vf vc∧VL ρ σ I w first vf∧VL ρ σ I w cap vc:=by
    unfold calleeOf at hc
    split at hc
    ·rename_i g' he
     simp only [Option.some.injEq,Prod.mk.injEq] at hc
     obtain ⟨rfl,rfl,rfl⟩:=hc
     rw [he] at hfv
     have hd:=hfv.d_inv
     generalize a.eval f=vv at hd
     cases hd
     exact ⟨#[],#[],rfl,⟨rfl,by simp⟩,⟨rfl,by simp⟩⟩
    ·rename_i g' fs cs he
     simp only [Option.some.injEq,Prod.mk.injEq] at hc
     obtain ⟨rfl,rfl,rfl⟩:=hc
     rw [he] at hfv
     generalize a.eval f=vv at hfv
     cases hfv with | func h1 h2 h3 h4=>exact ⟨_,_,rfl,⟨h1,h2⟩,⟨h3,h4⟩⟩
    ·cases hc
   obtain ⟨vf,vc,he,hvf,hvc⟩:=hex
   have hall:VL ρ σ I w (first++args.toList.map (aeval fr)++cap) (vf++args.map a.eval++vc):=by
    have app:∀ {avl bs:List AV} {us vs:Array Value},VL ρ σ I w avl us→VL ρ σ I w bs vs→VL ρ σ I w (avl++bs) (us++vs):=by
     intro avl bs us vs h1 h2
     refine ⟨by simp [h1.1,h2.1],fun j c hj=>?_⟩
     rcases Nat.lt_or_ge j avl.length with hlt | hge
     ·rw [List.getElem?_append_left hlt] at hj
      have:=h1.2 j c hj
      rw [Array.getD_eq_getD_getElem?,Array.getElem?_append_left (by rw [← h1.1];exact hlt),← Array.getD_eq_getD_getElem?]
      exact this
     ·rw [List.getElem?_append_right hge] at hj
      have:=h2.2 _ c hj
      rw [Array.getD_eq_getD_getElem?,Array.getElem?_append_right (by rw [← h1.1];exact hge),← h1.1,← Array.getD_eq_getD_getElem?]
      exact this
    exact app (app hvf hvl) hvc
   unfold callB at hh
   cases hpl:plainFn P g
   ·rw [hpl] at hh
    obtain ⟨⟨fn,e1,e2,e3,e4,e5⟩,hesc⟩:=hh
    generalize hA:first++args.toList.map (aeval fr)++cap=avl at *
    generalize hV:vf++args.map a.eval++vc=us at *
    unfold escA at hesc
    split at hesc
    ·rename_i x
     obtain ⟨us⟩:=us
     match us,hall with
     | [v],hall =>
      have hv:V ρ σ I w x v:=by simpa using hall.2 0 _ rfl
      have hrun:(execOp a.eval o).run P w=.ok (.value v) w:=by
       simp only [execOp,hcall,Sem.run_bind,resolve,he,Deferred.ofValue,Sem.run_pure,Result.andThen_ok,invoke]
       rw [hV,run_callFunc_extern e1 e2 e3 e4 e5]
       rfl
      unfold Oper.wp
      rw [hrun,Oper.upon_value]
      exact hn x σ hesc ρ I w v ⟨hat.step,hat.rs,hat.vf.put hv (by rw [hat.size];exact hd),by rw [put_size];exact hat.size,by rw [put_defers];exact hat.defers⟩
    ·exact hesc.elim
   ·rw [hpl] at hh
    simp only [cond_true] at hh
    have hrun:(execOp a.eval o).run P w=.ok (.enter g (vf++args.map a.eval++vc)) w:=by
     simp only [execOp,hcall,Sem.run_bind,resolve,he,Deferred.ofValue,Sem.run_pure,Result.andThen_ok,invoke]
     rw [run_callFunc hpl]
    unfold Oper.wp
    rw [hrun,Oper.upon_enter]
    refine (hh ρ I w _ hat.rs hall).mono fun e w' ⟨ρ',I',σ',oc,h1,h2,h3,h4⟩=>?_
    have hat':At P E N fr σ' ρ' I' a w':=⟨hat.step.trans h1,h2,hat.vf.step hat.rs h1,hat.size,hat.defers⟩
    cases e with
    | returned v =>
     cases oc with
     | ret av=>exact hn av σ' h4 ρ' I' w' v ⟨hat'.step,h2,hat'.vf.put h3 (by rw [hat.size];exact hd),by rw [put_size];exact hat.size,by rw [put_defers];exact hat.defers⟩
     | panic x=>exact h3.elim
    | panicked ch =>
     cases oc with
     | ret av=>exact h3.elim
     | panic x =>
      obtain ⟨v,rfl,hv⟩:=h3
      exact hp x σ' h4 ρ' I' w' v hat' hv
    | outgrown=>cases oc <;> exact h3.elim
  ·exact hh.elim
 ·rename_i hnc
  rw [hop,hty] at hh
  obtain ⟨nx,v,av,w',ρ',I',σ',h1,h2,h3,h4,h5,h6⟩:=evalOp_sound (P:=P) hat.rs hat.vf (hintOf h po.dst) o K hh
  have hat':At P E N (put fr o.dst av) σ' ρ' I' (a.put o.dst v) w':=⟨hat.step.trans h3,h4,(hat.vf.step hat.rs h3).put h5 (by rw [hat.size];exact hd),by rw [put_size];exact hat.size,by rw [put_defers];exact hat.defers⟩
  unfold Oper.wp
  rw [h1]
  rcases h2 with rfl | ⟨rfl,rfl⟩
  ·rw [Oper.upon_value];exact hn av σ' h6 ρ' I' w' v hat'
  ·rw [Oper.upon_skip];exact hn av σ' h6 ρ' I' w' undef hat'
theorem V.skipped {ρ:RHO} {σ:ST} {I:Nat→Prop} {w:World}:V ρ σ I w (.tuple []) undef:=.tuple rfl (fun j c hj=>by simp at hj)
theorem yielded_un {ops:Array Oper} {fr:FR} {σ:ST} {ρ:RHO} {I:Nat→Prop} {a:Act} {w:World} (hat:At P E N fr σ ρ I a w) {g d:Nat} (hd:d<a.tmps.size)
  (hd1:(ops[g]?).bind (·.dst)=some d) (hc:fr ((some d).getD 0)=.tuple []):yielded ops a.tmps g=none:=by
 have hv:=hat.vf d
 simp only [Option.getD_some] at hc
 rw [hc] at hv
 unfold yielded
 rw [hd1]
 simp only [Option.bind_some]
 rw [Array.getD_eq_getD_getElem?,Array.getElem?_eq_getElem hd] at hv
 rw [Array.getElem?_eq_getElem hd]
 simp only [Option.getD_some] at hv
 generalize a.tmps[d]=v at *
 cases hv
 rfl
theorem AOps_sound {ops:Array Oper} {Q:Post}:∀ (l:List Oper),(∀ o,o∈l→wfOp N ops o=true)→∀ (fr:FR) (σ:ST) (ρ:RHO) (I:Nat→Prop) (a:Act) (w:World),At P E N fr σ ρ I a w →
  AOps P h Q (l.map (prepOp ops)) fr σ→wpList P ops (lift P E N Q) l a w:=by
 intro l
 induction l with
 | nil=>intro _ fr σ ρ I a w hat hh;exact ⟨ρ,I,fr,σ,.normal,hat,trivial,hh⟩
 | cons o l ih =>
  intro hwf fr σ ρ I a w hat hh
  have hwo:=hwf o (by simp)
  simp only [wfOp,Bool.and_eq_true] at hwo
  have hd:=hwo.1
  have ih':=ih (fun x hx=>hwf x (by simp [hx]))
  have run:AOp P h (prepOp ops o) (fun v σ'=>AOps P h Q (l.map (prepOp ops)) (put fr o.dst v) σ') (fun x σ'=>Q (.panic x) fr σ') fr σ→o.wp P a w (wpList P ops (lift P E N Q) l) (lift P E N Q):=fun h1 =>
   AOp_sound rfl rfl rfl hat hd h1 _ _ (fun v σ' hk ρ' I' w' u hat'=>ih' _ _ ρ' I' _ w' hat' hk) (fun x σ' hk ρ' I' w' v hat' hv=>⟨ρ',I',fr,σ',.panic x,hat',⟨v,rfl,hv⟩,hk⟩)
  unfold wpList
  simp only [List.map_cons,AOps] at hh
  cases hg:o.guard with
  | none =>
   have hpg:(prepOp ops o).guard=none:=by simp [prepOp,hg]
   rw [hpg] at hh
   have hw:Region.wanted o (yielded ops a.tmps)=true:=by simp [Region.wanted,hg]
   rw [if_pos hw]
   exact .inl (run hh)
  | some gb =>
   obtain ⟨g,b⟩:=gb
   have hpg:(prepOp ops o).guard=some (((ops[g]?).bind (·.dst)).getD 0,b):=by simp [prepOp,hg]
   rw [hpg] at hh
   simp only at hh
   unfold gateA at hh
   split at hh
   ·rename_i c hc
    have hv:=hat.vf (((ops[g]?).bind (·.dst)).getD 0)
    rw [hc] at hv
    have hb:=hv.d_inv.bool_inv
    have hpd:(prepOp ops o).dst=o.dst:=rfl
    by_cases hdd:∃ d,(ops[g]?).bind (·.dst)=some d∧d<a.tmps.size
    ·obtain ⟨d,hd1,hd2⟩:=hdd
     rw [hd1] at hb
     simp only [Option.getD_some] at hb
     have hy:yielded ops a.tmps g=some c:=by
      unfold yielded
      rw [hd1]
      simp only [Option.bind_some]
      rw [Array.getD_eq_getD_getElem?,Array.getElem?_eq_getElem hd2] at hb
      rw [Array.getElem?_eq_getElem hd2]
      simp only [Option.getD_some] at hb
      rw [hb]
     cases hcb:c == b
     ·rw [hcb] at hh
      have hw:Region.wanted o (yielded ops a.tmps)=false:=by
       simp only [Region.wanted,hg,hy]
       revert hcb;cases c <;> cases b <;> simp
      rw [hw]
      simp only [Bool.false_eq_true,if_false]
      exact ih' _ _ ρ I _ w ⟨hat.step,hat.rs,hat.vf.put V.skipped (by rw [hat.size];exact hd),by rw [put_size];exact hat.size,by rw [put_defers];exact hat.defers⟩ hh
     ·rw [hcb] at hh
      have hw:Region.wanted o (yielded ops a.tmps)=true:=by
       simp only [Region.wanted,hg,hy]
       revert hcb;cases c <;> cases b <;> simp
      rw [if_pos hw]
      exact .inl (run hh)
    ·have hwg:=hwo.2
     rw [hg] at hwg
     simp only [wfGuard] at hwg
     split at hwg
     ·rename_i d hd1
      exact absurd ⟨d,hd1,by rw [hat.size];simpa using hwg⟩ hdd
     ·cases hwg
   ·rename_i hc
    have hwg:=hwo.2
    rw [hg] at hwg
    simp only [wfGuard] at hwg
    split at hwg
    ·rename_i d hd1
     have hy:=yielded_un hat (by rw [hat.size];simpa using hwg) hd1 (by rw [hd1] at hc;exact hc)
     have hw:Region.wanted o (yielded ops a.tmps)=false:=by
      simp only [Region.wanted,hg,hy]
      cases b <;> rfl
     rw [hw]
     simp only [Bool.false_eq_true,if_false]
     exact ih' _ _ ρ I _ w ⟨hat.step,hat.rs,hat.vf.put V.skipped (by rw [hat.size];exact hd),by rw [put_size];exact hat.size,by rw [put_defers];exact hat.defers⟩ hh
    ·cases hwg
   ·exact hh.elim
theorem wanted_of {ops:Array Oper} {o:Oper} {fr:FR} {σ:ST} {ρ:RHO} {I:Nat→Prop} {a:Act} {w:World} (hat:At P E N fr σ ρ I a w) (hwg:wfGuard N ops o.guard=true) {b:Bool} (hg:Gate (prepOp ops o) fr b) :
  Region.wanted o (yielded ops a.tmps)=b:=by
 cases hg with
 | opn hn =>
  simp only [prepOp] at hn
  cases hgd:o.guard with
  | none=>simp [Region.wanted,hgd]
  | some gb=>rw [hgd] at hn;simp at hn
 | @att g b c hs hc =>
  simp only [prepOp] at hs
  cases hgd:o.guard with
  | none=>rw [hgd] at hs;simp at hs
  | some gb =>
   obtain ⟨g',b'⟩:=gb
   rw [hgd] at hs
   simp only [Option.some.injEq,Prod.mk.injEq] at hs
   obtain ⟨rfl,rfl⟩:=hs
   rw [hgd] at hwg
   simp only [wfGuard] at hwg
   split at hwg
   ·rename_i d hd1
    have hd2:d<a.tmps.size:=by rw [hat.size];simpa using hwg
    have hv:=hat.vf (((ops[g']?).bind (·.dst)).getD 0)
    rw [hc] at hv
    have hb:=hv.d_inv.bool_inv
    rw [hd1] at hb
    simp only [Option.getD_some] at hb
    have hy:yielded ops a.tmps g'=some c:=by
     unfold yielded
     rw [hd1]
     simp only [Option.bind_some]
     rw [Array.getD_eq_getD_getElem?,Array.getElem?_eq_getElem hd2] at hb
     rw [Array.getElem?_eq_getElem hd2]
     simp only [Option.getD_some] at hb
     rw [hb]
    simp only [Region.wanted,hgd,hy]
    cases c <;> cases b' <;> simp
   ·cases hwg
 | @un g b hs hc =>
  simp only [prepOp] at hs
  cases hgd:o.guard with
  | none=>rw [hgd] at hs;simp at hs
  | some gb =>
   obtain ⟨g',b'⟩:=gb
   rw [hgd] at hs
   simp only [Option.some.injEq,Prod.mk.injEq] at hs
   obtain ⟨rfl,rfl⟩:=hs
   rw [hgd] at hwg
   simp only [wfGuard] at hwg
   split at hwg
   ·rename_i d hd1
    have hy:=yielded_un hat (by rw [hat.size];simpa using hwg) hd1 (by rw [hd1] at hc;exact hc)
    simp only [Region.wanted,hgd,hy]
    cases b' <;> rfl
   ·cases hwg
theorem Gate.fr {po:POp} {fr fr':FR} {b:Bool} (hx:∀ g c,po.guard=some (g,c)→fr g=fr' g) (hg:Gate po fr b):Gate po fr' b:=by
 cases hg with
 | opn hn=>exact .opn hn
 | att hs hc=>exact .att hs (by rw [← hx _ _ hs];exact hc)
 | un hs hc=>exact .un hs (by rw [← hx _ _ hs];exact hc)
theorem blt_false {a b:Nat} (h:b≤a):Nat.blt a b=false:=by
 cases hb:Nat.blt a b
 ·rfl
 ·have:a<b:=by simpa using hb
  omega
theorem draw_sound {ops:Array Oper} {Q:Post} (hwf:∀ o,o∈ops.toList→wfOp N ops o=true) (hed:edgesOK ops=true) (hpr:pairsOK ops (masks ops.toList [])=true)
  {fr:FR} {vs:Nat→AV} {ss:Nat→ST} (hK:Q .normal (frS ops vs fr (fun j=>Nat.blt j ops.size)) (ss ops.size))
  (hs:∀ i o,ops[i]? = some o→Says P h ops.size (dpAt ops (masks ops.toList []) i o) (frS ops vs fr (fun j=>Nat.blt j i)) vs ss [] i) :
  ∀ (fuel:Nat) (listed:Array Bool) (m:Nat) (ρ:RHO) (I:Nat→Prop) (a:Act) (w:World),listed.size=ops.size→unl listed ops.size≤fuel→ClosedL ops listed→m≤ops.size →
   (∀ j,effAt ops j=true→(listed.getD j false=true↔j<m))→At P E N (frS ops vs fr (fun j=>listed.getD j false)) (ss m) ρ I a w→wpAny P .any ops (lift P E N Q) fuel listed a w:=by
 have stay:∀ d i,i+d≤ops.size→(∀ j,i≤j→j<i+d→effAt ops j=false)→ss (i+d)=ss i:=by
  intro d
  induction d with
  | zero=>intro i _ _;rfl
  | succ d ih =>
   intro i hi hno
   have hlt:i+d<ops.size:=by omega
   have ho:ops[i+d]? = some ops[i+d]:=Array.getElem?_eq_getElem hlt
   have hne:=hno (i+d) (by omega) (by omega)
   have h1:ss (i+d+1)=ss (i+d):=by
    rcases hs _ _ ho with ⟨_,f⟩ | ⟨_,_,h⟩
    ·refine f.still ?_
     unfold effAt at hne;rw [ho] at hne;exact hne
    ·exact h
   rw [← Nat.add_assoc,h1]
   exact ih i (by omega) (fun j h1 h2=>hno j h1 (by omega))
 have stay':∀ i k,i≤k→k≤ops.size→(∀ j,i≤j→j<k→effAt ops j=false)→ss k=ss i:=by
  intro i k hik hk hno
  obtain ⟨d,rfl⟩:=Nat.exists_eq_add_of_le hik
  exact stay d i hk hno
 have done:∀ (listed:Array Bool) (m:Nat) (ρ:RHO) (I:Nat→Prop) (a:Act) (w:World),listed.size=ops.size→m≤ops.size →
   (∀ j,effAt ops j=true→(listed.getD j false=true↔j<m))→At P E N (frS ops vs fr (fun j=>listed.getD j false)) (ss m) ρ I a w→Region.ready .any ops listed=[]→lift P E N Q .normal a w:=by
  intro listed m ρ I a w hsz hm hef hat hr
  have hall:=all_listed hed hsz hr
  have hfr:frS ops vs fr (fun j=>listed.getD j false)=frS ops vs fr (fun j=>Nat.blt j ops.size):=by
   funext t
   unfold frS
   split
   ·rename_i j hw
    obtain ⟨o',ho',_⟩:=wr_some hw
    have hlt:=(Array.getElem?_eq_some_iff.1 ho').1
    show (bif listed.getD j false then vs j else fr t)=bif Nat.blt j ops.size then vs j else fr t
    rw [hall j hlt]
    have:Nat.blt j ops.size=true:=by simpa using hlt
    rw [this]
   ·rfl
  have hss:ss ops.size=ss m:=by
   refine stay' m ops.size hm (Nat.le_refl _) (fun j h1 h2=>?_)
   cases he:effAt ops j
   ·rfl
   ·have:=(hef j he).1 (hall j h2);omega
  rw [hfr] at hat
  exact ⟨ρ,I,_,_,.normal,hat,trivial,by rw [← hss];exact hK⟩
 intro fuel
 induction fuel with
 | zero =>
  intro listed m ρ I a w hsz hun hcl hm hef hat
  have hr:Region.ready .any ops listed=[]:=by
   cases hr:Region.ready .any ops listed with
   | nil=>rfl
   | cons i l =>
    exfalso
    have hi:i∈Region.ready .any ops listed:=by rw [hr];exact List.mem_cons_self
    obtain ⟨h0,o,ho,_⟩:=mem_ready.1 hi
    have:=unl_set hsz (Array.getElem?_eq_some_iff.1 ho).1 h0
    omega
  exact ⟨hr,done listed m ρ I a w hsz hm hef hat hr⟩
 | succ fuel ih =>
  intro listed m ρ I a w hsz hun hcl hm hef hat
  refine ⟨fun hr=>done listed m ρ I a w hsz hm hef hat hr,fun i hi=>?_⟩
  obtain ⟨h0,o,ho,hall⟩:=mem_ready.1 hi
  have hlt:i<ops.size:=(Array.getElem?_eq_some_iff.1 ho).1
  have hli:listed.getD i false=false:=by
   have:i<listed.size:=by omega
   simp [this] at h0 ⊢;exact h0
  have hwo:=hwf o (by rw [← Array.getElem?_toList] at ho;exact List.mem_of_getElem? ho)
  simp only [wfOp,Bool.and_eq_true] at hwo
  have later:∀ j,forced (masks ops.toList []) i j=true→listed.getD j false=false:=fun j hf=>by
   cases hj:listed.getD j false
   ·rfl
   ·rw [forced_spec hcl hf hj] at hli;cases hli
  have look:∀ t,t∈o.looksAt ops→frS ops vs fr (fun j=>Nat.blt j i) t=frS ops vs fr (fun j=>listed.getD j false) t:=by
   intro t ht
   unfold frS
   split
   ·rename_i j hw
    obtain ⟨o',ho',hd'⟩:=wr_some hw
    have e:Nat.blt j i=listed.getD j false:=by
     rcases Nat.lt_trichotomy j i with h | h | h
     ·have:=(pair_spec hpr ho' ho h).2.1 t hd' ht
      rw [forced_ready hcl hsz hi this (by omega)]
      simpa using h
     ·subst h;rw [hli];exact blt_false (Nat.le_refl _)
     ·have:=(pair_spec hpr ho ho' h).2.2.1 t hd' ht
      rw [later j this]
      exact blt_false (Nat.le_of_lt h)
    show (bif Nat.blt j i then vs j else fr t)=bif listed.getD j false then vs j else fr t
    rw [e]
   ·rfl
  have hops:∀ x,x∈o.op.operands→aeval (frS ops vs fr (fun j=>Nat.blt j i)) x=aeval (frS ops vs fr (fun j=>listed.getD j false)) x:=by
   intro x hx
   cases x with
   | tmp t=>exact look t (List.mem_append_left _ (List.mem_filterMap.2 ⟨.tmp t,by simpa using hx,rfl⟩))
   | _=>rfl
  have hgd:∀ b,Gate (prepOp ops o) (frS ops vs fr (fun j=>Nat.blt j i)) b→Gate (prepOp ops o) (frS ops vs fr (fun j=>listed.getD j false)) b:=by
   intro b hg
   refine hg.fr (fun g c hgc=>look _ (List.mem_append_right _ ?_))
   simp only [prepOp] at hgc
   cases hog:o.guard with
   | none=>rw [hog] at hgc;simp at hgc
   | some gb =>
    obtain ⟨g',b'⟩:=gb
    rw [hog] at hgc
    simp only [Option.some.injEq,Prod.mk.injEq] at hgc
    obtain ⟨rfl,rfl⟩:=hgc
    have hwg:=hwo.2
    rw [hog] at hwg
    simp only [wfGuard] at hwg
    split at hwg
    ·rename_i d hd;simp only [hog,hd];simp
    ·cases hwg
  have frame:frS ops vs fr (fun j=>(listed.setIfInBounds i true).getD j false)=put (frS ops vs fr (fun j=>listed.getD j false)) o.dst (vs i):=by
   refine frS_put (pairs0_of hpr) ho (fun k=>?_)
   by_cases hk:k=i
   ·subst hk;simp [hsz,hlt]
   ·rw [getD_set_ne false (Ne.symm hk)]
    have:(k == i)=false:=by simp [hk]
    rw [this,Bool.or_false]
  have hsz':(listed.setIfInBounds i true).size=ops.size:=by simp [hsz]
  have hun':unl (listed.setIfInBounds i true) ops.size≤fuel:=by have:=unl_set hsz hlt h0;omega
  have hcl':=closed_set hcl hi
  have next:∀ (eff:Bool),isEff o.op=eff→∃ m',m'≤ops.size∧(∀ j,effAt ops j=true→((listed.setIfInBounds i true).getD j false=true↔j<m')) ∧
    (∀ f:Fact P h ops.size (dpAt ops (masks ops.toList []) i o) (frS ops vs fr (fun j=>Nat.blt j i)) vs ss [] i,Does P h (prepOp ops o) (frS ops vs fr (fun j=>Nat.blt j i)) (ss m) (vs i) (ss m'))∧(ss (i+1)=ss i→ss m'=ss m):=by
   intro eff heff
   have hother:∀ j,j≠i→(listed.setIfInBounds i true).getD j false=listed.getD j false:=fun j hj=>getD_set_ne false (Ne.symm hj)
   cases eff with
   | true =>
    have hei:effAt ops i=true:=by unfold effAt;rw [ho];exact heff
    have before:∀ j,effAt ops j=true→j<i→listed.getD j false=true:=fun j he hj=>by
     unfold effAt at he
     split at he
     ·rename_i oj hoj
      exact forced_ready hcl hsz hi ((pair_spec hpr hoj ho hj).2.2.2 he heff) (by omega)
     ·cases he
    have after:∀ j,effAt ops j=true→i<j→listed.getD j false=false:=fun j he hj=>by
     unfold effAt at he
     split at he
     ·rename_i oj hoj
      exact later j ((pair_spec hpr ho hoj hj).2.2.2 heff he)
     ·cases he
    have hmi:m≤i:=by
     rcases Nat.lt_or_ge i m with h | h
     ·rw [(hef i hei).2 h] at hli;cases hli
     ·exact h
    have hsm:ss i=ss m:=stay' m i hmi (Nat.le_of_lt hlt) (fun j h1 h2=>by
     cases he:effAt ops j
     ·rfl
     ·have:=(hef j he).1 (before j he h2);omega)
    refine ⟨i+1,hlt,fun j he=>?_,fun f=>?_,fun h=>h.trans hsm⟩
    ·rcases Nat.lt_trichotomy j i with h | h | h
     ·rw [hother j (by omega),before j he h];simp;omega
     ·subst h;simp [hsz,hlt]
     ·rw [hother j (by omega),after j he h];simp;omega
    ·rw [← hsm];exact f.does
   | false =>
    refine ⟨m,hm,fun j he=>?_,fun f=>?_,fun _=>rfl⟩
    ·have hji:j≠i:=fun e=>by
      subst e;unfold effAt at he;rw [ho] at he;simp only at he;rw [heff] at he;cases he
     rw [hother j hji];exact hef j he
    ·have base:Does P h (prepOp ops o) (frS ops vs fr (fun j=>Nat.blt j i)) (ss i) (vs i) (ss i):=by
      have:=f.does
      rw [f.still heff] at this
      exact this
     rcases Nat.lt_or_ge i m with him | hmi
     ·cases hfw:(dpAt ops (masks ops.toList []) i o).fwd
      ·have hsm:ss m=ss i:=stay' i m (Nat.le_of_lt him) hm (fun j h1 h2=>by
        cases he:effAt ops j
        ·rfl
        ·exfalso
         have hji:j≠i:=fun e=>by
          subst e;unfold effAt at he;rw [ho] at he;simp only at he;rw [heff] at he;cases he
         have hlj:=(hef j he).2 h2
         have h3:=List.any_eq_false.1 hfw j (List.mem_range.2 (by omega))
         rw [he] at h3
         have hb:Nat.blt i j=true:=by simp;omega
         rw [hb] at h3
         simp only [Bool.true_and,Bool.not_eq_true,Bool.not_eq_false'] at h3
         rw [later j h3] at hlj;cases hlj)
       rw [hsm];exact base
      ·exact f.fwd heff hfw m him hm
     ·cases hbk:(dpAt ops (masks ops.toList []) i o).back
      ·have hsm:ss i=ss m:=stay' m i hmi (Nat.le_of_lt hlt) (fun j h1 h2=>by
        cases he:effAt ops j
        ·rfl
        ·exfalso
         have h3:=List.any_eq_false.1 hbk j (List.mem_range.2 h2)
         rw [he] at h3
         simp only [Bool.true_and,Bool.not_eq_true,Bool.not_eq_false'] at h3
         have:=(hef j he).1 (forced_ready hcl hsz hi h3 (by omega))
         omega)
       rw [← hsm];exact base
      ·exact (f.back heff hbk).2 m hmi
  obtain ⟨m',hm',hef',hdo,hsk⟩:=next _ rfl
  unfold wpOp
  rw [ho]
  simp only
  rcases hs i o ho with ⟨hg,f⟩ | ⟨hg,hv,hst⟩
  ·rw [wanted_of hat hwo.2 (hgd _ hg),if_pos rfl]
   refine .inl (AOp_sound (po:=prepOp ops o) rfl rfl rfl hat hwo.1 ((hdo f).fr hops) _ _ ?_ (fun _ _ hf=>hf.elim))
   rintro v σ' ⟨rfl,rfl⟩ ρ' I' w' u hat'
   rw [← frame] at hat'
   exact ih _ m' ρ' I' _ w' hsz' hun' hcl' hm' hef' hat'
  ·rw [wanted_of hat hwo.2 (hgd _ hg)]
   simp only [Bool.false_eq_true,if_false]
   have hat':At P E N (put (frS ops vs fr (fun j=>listed.getD j false)) o.dst (vs i)) (ss m') ρ I (a.put o.dst undef) w:=by
    rw [hsk hst,hv]
    exact ⟨hat.step,hat.rs,hat.vf.put V.skipped (by rw [hat.size];exact hwo.1),by rw [put_size];exact hat.size,by rw [put_defers];exact hat.defers⟩
   rw [← frame] at hat'
   exact ih _ m' ρ I _ w hsz' hun' hcl' hm' hef' hat'
theorem draw_one {ops:Array Oper} {Q:Post} (hwf:∀ o,o∈ops.toList→wfOp N ops o=true) (hed:edgesOK ops=true) (hpr:pairsOK ops (masks ops.toList [])=true)
  {fr:FR} {vs:Nat→AV} {σ σ1:ST} {k:Nat} (hk:k<ops.size) (hK:Q .normal (frS ops vs fr (fun j=>Nat.blt j ops.size)) σ1)
  (hs:∀ i o,ops[i]? = some o→SaysOne P h σ σ1 (prepOp ops o) (frS ops vs fr (fun j=>Nat.blt j i)) (vs i) (k=i)) :
  ∀ (fuel:Nat) (listed:Array Bool) (ρ:RHO) (I:Nat→Prop) (a:Act) (w:World),listed.size=ops.size→unl listed ops.size≤fuel→ClosedL ops listed →
   At P E N (frS ops vs fr (fun j=>listed.getD j false)) (bif listed.getD k false then σ1 else σ) ρ I a w→wpAny P .any ops (lift P E N Q) fuel listed a w:=by
 have done:∀ (listed:Array Bool) (ρ:RHO) (I:Nat→Prop) (a:Act) (w:World),listed.size=ops.size →
   At P E N (frS ops vs fr (fun j=>listed.getD j false)) (bif listed.getD k false then σ1 else σ) ρ I a w→Region.ready .any ops listed=[]→lift P E N Q .normal a w:=by
  intro listed ρ I a w hsz hat hr
  have hall:=all_listed hed hsz hr
  have hfr:frS ops vs fr (fun j=>listed.getD j false)=frS ops vs fr (fun j=>Nat.blt j ops.size):=by
   funext t
   unfold frS
   split
   ·rename_i j hw
    obtain ⟨o',ho',_⟩:=wr_some hw
    have hlt:=(Array.getElem?_eq_some_iff.1 ho').1
    show (bif listed.getD j false then vs j else fr t)=bif Nat.blt j ops.size then vs j else fr t
    rw [hall j hlt]
    have:Nat.blt j ops.size=true:=by simpa using hlt
    rw [this]
   ·rfl
  rw [hfr,hall k hk] at hat
  exact ⟨ρ,I,_,_,.normal,hat,trivial,hK⟩
 intro fuel
 induction fuel with
 | zero =>
  intro listed ρ I a w hsz hun hcl hat
  have hr:Region.ready .any ops listed=[]:=by
   cases hr:Region.ready .any ops listed with
   | nil=>rfl
   | cons i l =>
    exfalso
    have hi:i∈Region.ready .any ops listed:=by rw [hr];exact List.mem_cons_self
    obtain ⟨h0,o,ho,_⟩:=mem_ready.1 hi
    have:=unl_set hsz (Array.getElem?_eq_some_iff.1 ho).1 h0
    omega
  exact ⟨hr,done listed ρ I a w hsz hat hr⟩
 | succ fuel ih =>
  intro listed ρ I a w hsz hun hcl hat
  refine ⟨fun hr=>done listed ρ I a w hsz hat hr,fun i hi=>?_⟩
  obtain ⟨h0,o,ho,hall⟩:=mem_ready.1 hi
  have hlt:i<ops.size:=(Array.getElem?_eq_some_iff.1 ho).1
  have hli:listed.getD i false=false:=by
   have:i<listed.size:=by omega
   simp [this] at h0 ⊢;exact h0
  have hwo:=hwf o (by rw [← Array.getElem?_toList] at ho;exact List.mem_of_getElem? ho)
  simp only [wfOp,Bool.and_eq_true] at hwo
  have later:∀ j,forced (masks ops.toList []) i j=true→listed.getD j false=false:=fun j hf=>by
   cases hj:listed.getD j false
   ·rfl
   ·rw [forced_spec hcl hf hj] at hli;cases hli
  have look:∀ t,t∈o.looksAt ops→frS ops vs fr (fun j=>Nat.blt j i) t=frS ops vs fr (fun j=>listed.getD j false) t:=by
   intro t ht
   unfold frS
   split
   ·rename_i j hw
    obtain ⟨o',ho',hd'⟩:=wr_some hw
    have e:Nat.blt j i=listed.getD j false:=by
     rcases Nat.lt_trichotomy j i with h | h | h
     ·have:=(pair_spec hpr ho' ho h).2.1 t hd' ht
      rw [forced_ready hcl hsz hi this (by omega)]
      simpa using h
     ·subst h;rw [hli];exact blt_false (Nat.le_refl _)
     ·have:=(pair_spec hpr ho ho' h).2.2.1 t hd' ht
      rw [later j this]
      exact blt_false (Nat.le_of_lt h)
    show (bif Nat.blt j i then vs j else fr t)=bif listed.getD j false then vs j else fr t
    rw [e]
   ·rfl
  have hops:∀ x,x∈o.op.operands→aeval (frS ops vs fr (fun j=>Nat.blt j i)) x=aeval (frS ops vs fr (fun j=>listed.getD j false)) x:=by
   intro x hx
   cases x with
   | tmp t=>exact look t (List.mem_append_left _ (List.mem_filterMap.2 ⟨.tmp t,by simpa using hx,rfl⟩))
   | _=>rfl
  have hgd:∀ b,Gate (prepOp ops o) (frS ops vs fr (fun j=>Nat.blt j i)) b→Gate (prepOp ops o) (frS ops vs fr (fun j=>listed.getD j false)) b:=by
   intro b hg
   refine hg.fr (fun g c hgc=>look _ (List.mem_append_right _ ?_))
   simp only [prepOp] at hgc
   cases hog:o.guard with
   | none=>rw [hog] at hgc;simp at hgc
   | some gb =>
    obtain ⟨g',b'⟩:=gb
    rw [hog] at hgc
    simp only [Option.some.injEq,Prod.mk.injEq] at hgc
    obtain ⟨rfl,rfl⟩:=hgc
    have hwg:=hwo.2
    rw [hog] at hwg
    simp only [wfGuard] at hwg
    split at hwg
    ·rename_i d hd;simp only [hog,hd];simp
    ·cases hwg
  have frame:frS ops vs fr (fun j=>(listed.setIfInBounds i true).getD j false)=put (frS ops vs fr (fun j=>listed.getD j false)) o.dst (vs i):=by
   refine frS_put (pairs0_of hpr) ho (fun k=>?_)
   by_cases hk:k=i
   ·subst hk;simp [hsz,hlt]
   ·rw [getD_set_ne false (Ne.symm hk)]
    have:(k == i)=false:=by simp [hk]
    rw [this,Bool.or_false]
  have hsz':(listed.setIfInBounds i true).size=ops.size:=by simp [hsz]
  have hun':unl (listed.setIfInBounds i true) ops.size≤fuel:=by have:=unl_set hsz hlt h0;omega
  have hcl':=closed_set hcl hi
  have hother:∀ j,j≠i→(listed.setIfInBounds i true).getD j false=listed.getD j false:=fun j hj=>getD_set_ne false (Ne.symm hj)
  have hself:(listed.setIfInBounds i true).getD i false=true:=by simp [hsz,hlt]
  have hdone:∀ (ρ':RHO) (I':Nat→Prop) (a':Act) (w':World),At P E N (put (frS ops vs fr (fun j=>listed.getD j false)) o.dst (vs i)) (bif (listed.setIfInBounds i true).getD k false then σ1 else σ) ρ' I' a' w' →
    wpAny P .any ops (lift P E N Q) fuel (listed.setIfInBounds i true) a' w':=fun ρ' I' a' w' hat'=>by
   rw [← frame] at hat'
   exact ih _ ρ' I' a' w' hsz' hun' hcl' hat'
  unfold wpOp
  rw [ho]
  simp only
  rcases hs i o ho with ⟨rfl,hg,hd⟩ | ⟨hne,hrest⟩
  ·have hgo:Gate (prepOp ops o) (frS ops vs fr (fun j=>Nat.blt j k)) true:=.opn hg
   rw [wanted_of hat hwo.2 (hgd _ hgo),if_pos rfl]
   rw [hli,cond_false] at hat
   refine .inl (AOp_sound (po:=prepOp ops o) rfl rfl rfl hat hwo.1 (hd.fr hops) _ _ ?_ (fun _ _ hf=>hf.elim))
   rintro v σ' ⟨rfl,rfl⟩ ρ' I' w' u hat'
   refine hdone ρ' I' _ w' ?_
   rw [hself,cond_true];exact hat'
  ·have hsame:(listed.setIfInBounds i true).getD k false=listed.getD k false:=hother k hne
   rcases hrest with ⟨hg,d0,d1⟩ | ⟨hg,hv⟩
   ·rw [wanted_of hat hwo.2 (hgd _ hg),if_pos rfl]
    have hd:Does P h (prepOp ops o) (frS ops vs fr (fun j=>Nat.blt j i)) (bif listed.getD k false then σ1 else σ) (vs i) (bif listed.getD k false then σ1 else σ):=by
     cases listed.getD k false
     ·exact d0
     ·exact d1
    refine .inl (AOp_sound (po:=prepOp ops o) rfl rfl rfl hat hwo.1 (hd.fr hops) _ _ ?_ (fun _ _ hf=>hf.elim))
    rintro v σ' ⟨rfl,rfl⟩ ρ' I' w' u hat'
    refine hdone ρ' I' _ w' ?_
    rw [hsame];exact hat'
   ·rw [wanted_of hat hwo.2 (hgd _ hg)]
    simp only [Bool.false_eq_true,if_false]
    refine hdone ρ I _ w ?_
    rw [hsame,hv]
    exact ⟨hat.step,hat.rs,hat.vf.put V.skipped (by rw [hat.size];exact hwo.1),by rw [put_size];exact hat.size,by rw [put_defers];exact hat.defers⟩
theorem draws_sound (hm:P.follows .mixedOrders=true) {id:Nat} {ops:Array Oper} {Q:Post} (hwf:∀ o,o∈ops.toList→wfOp N ops o=true) (hd:drawOK ops=true) (hok:ordOK ops (masks ops.toList [])=true) {fr:FR} {σ:ST} {ρ:RHO} {I:Nat→Prop} {a:Act} {w:World}
  (hat:At P E N fr σ ρ I a { w with drawn:=w.drawn+1 }) (hh:DOps P h (fun fr' σ'=>Q .normal fr' σ') (prepDraw ops) [] [] fr σ):(Code.region id ops true).wp P (lift P E N Q) a w:=by
 refine wp_region_any hm ?_
 simp only [drawOK,Bool.and_eq_true] at hd
 have hpr:=pairs_of hd.2 hok
 obtain ⟨vs,ss,h0,hK,_,hs⟩:=DOps.extract _ _ _ _ _ hh
 rw [prepDraw_length] at hK hs
 rw [frT_S hd.2 _ (Nat.le_refl _)] at hK
 refine draw_sound (h:=h) (fr:=fr) (vs:=vs) (ss:=ss) hwf hd.1 hpr hK (fun i o ho=>?_) ops.size _ 0 ρ I a _ (by simp) ?_ ?_ (Nat.zero_le _) ?_ ?_
 ·have:=hs i _ (prepDraw_get ops i o ho)
  rw [frT_S hd.2 i (Nat.le_of_lt (Array.getElem?_eq_some_iff.1 ho).1)] at this
  exact this
 ·exact Nat.le_trans List.countP_le_length (by simp)
 ·intro i o ho hl
  have hlt:=(Array.getElem?_eq_some_iff.1 ho).1
  simp [hlt] at hl
 ·intro j he
  constructor
  ·intro hl
   rcases Nat.lt_or_ge j ops.size with h | h
   ·simp [h] at hl
   ·simp [Array.getElem?_eq_none,h] at hl
  ·intro h;omega
 ·have e:(fun j=>(Array.replicate ops.size false).getD j false)=fun _=>false:=by
   funext j
   rcases Nat.lt_or_ge j ops.size with h | h
   ·simp [h]
   ·simp [Array.getElem?_eq_none,h]
  rw [e,frS_none,h0]
  exact hat
end
section
variable {P:Program} {h:Nat→Hint} {E:Env} {N:Nat}
theorem permPair_ne {pre:List (List Nat)} {ops:List DP} {i j:Nat} (hh:permPair pre ops i j=true):i≠j:=by
 unfold permPair at hh
 split at hh
 ·simp only [Bool.and_eq_true,Bool.not_eq_true',beq_eq_false_iff_ne] at hh;exact hh.1.1.1
 ·cases hh
theorem permPairs_split {pre:List (List Nat)} {ops:List DP}:∀ {l1:List Nat} {j:Nat} {l2:List Nat},permPairs pre ops (l1++j::l2)=true→(∀ i,i∈l1→permPair pre ops i j=true)∧(∀ k,k∈l2→permPair pre ops j k=true)∧(ops[j]?).isSome=true
 | [],j,l2,hh=>by
  simp only [List.nil_append,permPairs,Bool.and_eq_true,List.all_eq_true] at hh
  exact ⟨fun i hi=>(by cases hi),hh.1.2,hh.1.1⟩
 | x::l1,j,l2,hh=>by
  simp only [List.cons_append,permPairs,Bool.and_eq_true,List.all_eq_true] at hh
  obtain ⟨k1,k2,k3⟩:=permPairs_split hh.2
  refine ⟨fun i hi=>?_,k2,k3⟩
  rcases List.mem_cons.1 hi with rfl | hi
  ·exact hh.1.2 j (by simp)
  ·exact k1 i hi
theorem forcedP_forced {ops:Array Oper} {j i:Nat} (hh:forcedP (preOf ops) j i=true):forced (masks ops.toList []) j i=true:=by
 unfold forcedP preOf at hh
 rw [List.getD_eq_getElem?_getD,List.getElem?_map] at hh
 rcases Nat.lt_or_ge i ops.size with hi | hi
 ·rw [List.getElem?_range hi] at hh
  simp at hh
  exact hh.2
 ·rw [List.getElem?_eq_none (by simpa using hi)] at hh
  simp at hh
theorem forced_forcedP {ops:Array Oper} {j i:Nat} (hj:j<i) (hi:i<ops.size) (hh:forced (masks ops.toList []) j i=true):forcedP (preOf ops) j i=true:=by
 unfold forcedP preOf
 rw [List.getD_eq_getElem?_getD,List.getElem?_map,List.getElem?_range hi]
 simp [hj,hh]
theorem not_before {ops:Array Oper} {i j:Nat} (hh:permPair (preOf ops) (prepDraw ops) i j=true) (hj:j<i) (hf:forced (masks ops.toList []) j i=true):False:=by
 have hne:=hh
 unfold permPair at hh
 split at hh
 ·rename_i x y hx hy
  have hi:i<ops.size:=by rw [← prepDraw_length ops];exact (List.getElem?_eq_some_iff.1 hx).1
  rw [forced_forcedP hj hi hf] at hh
  simp at hh
 ·cases hh
theorem frS_congr {ops:Array Oper} {vs vs':Nat→AV} {fr:FR} {S:Nat→Bool} (hv:∀ k,S k=true→vs k=vs' k):frS ops vs fr S=frS ops vs' fr S:=by
 funext t
 unfold frS
 split
 ·rename_i j _
  cases hs:S j
  ·rfl
  ·exact hv j hs
 ·rfl
def updV (vs:Nat→AV) (i:Nat) (v:AV):Nat→AV:=fun k=>if k=i then v else vs k
theorem updV_same (vs:Nat→AV) (i:Nat) (v:AV):updV vs i v i=v:=by simp [updV]
theorem updV_ne {vs:Nat→AV} {i k:Nat} {v:AV} (hk:k≠i):updV vs i v k=vs k:=by simp [updV,hk]
def vC (l:List Nat) (vs:Nat→AV):Nat→AV:=fun k=>bif l.contains k then vs k else .any
theorem vC_upd {l:List Nat} {vs:Nat→AV} {i:Nat} {v:AV}:vC (l++[i]) (updV vs i v)=updV (vC l vs) i v:=by
 funext k
 unfold vC updV
 by_cases hk:k=i
 ·subst hk;simp
 ·simp [hk]
def inL (l:List Nat):Nat→Bool:=fun k=>l.contains k
theorem inL_iff {l:List Nat} {k:Nat}:inL l k=true↔k∈l:=by simp [inL]
theorem inL_not {l:List Nat} {k:Nat}:inL l k=false↔k ∉ l:=by simp [inL]
theorem put_put (fr:FR) (d:Option Nat) (x y:AV):put (put fr d x) d y=put fr d y:=by
 cases d with
 | none=>rfl
 | some d =>
  funext t
  simp only [put]
  cases Nat.beq t d <;> rfl
theorem frS_set {ops:Array Oper} {ms:List Nat} (hp:pairs0 ops ms=true) {vs:Nat→AV} {fr:FR} {S:Nat→Bool} {i:Nat} {o:Oper} {v:AV} (ho:ops[i]? = some o) (hS:S i=true) :
  frS ops (updV vs i v) fr S=put (frS ops vs fr S) o.dst v:=by
 have e1:=frS_put hp (vs:=updV vs i v) (fr:=fr) (S:=fun k=>S k && !(k == i)) (S':=S) ho (fun k=>by
  by_cases hk:k=i
  ·subst hk;simp [hS]
  ·show S k=((S k && !(k == i)) || k == i)
   have:(k == i)=false:=by simp [hk]
   rw [this];simp)
 have e2:=frS_put hp (vs:=vs) (fr:=fr) (S:=fun k=>S k && !(k == i)) (S':=S) ho (fun k=>by
  by_cases hk:k=i
  ·subst hk;simp [hS]
  ·show S k=((S k && !(k == i)) || k == i)
   have:(k == i)=false:=by simp [hk]
   rw [this];simp)
 rw [e1,e2,put_put,updV_same]
 congr 1
 exact frS_congr fun k hk=>updV_ne (by simp at hk;exact hk.2)
theorem frS_new {ops:Array Oper} {ms:List Nat} (hp:pairs0 ops ms=true) {vs:Nat→AV} {fr:FR} {S S':Nat→Bool} {i:Nat} {o:Oper} {v:AV} (ho:ops[i]? = some o) (hS:S i=false) (hS':∀ k,S' k=(S k || k == i)) :
  frS ops (updV vs i v) fr S'=put (frS ops vs fr S) o.dst v:=by
 rw [frS_put hp ho hS',updV_same]
 congr 1
 exact frS_congr fun k hk=>updV_ne fun e=>by subst e;rw [hS] at hk;cases hk
theorem frS_look {ops:Array Oper} {ms:List Nat} (hp:pairs0 ops ms=true) {vs vs':Nat→AV} {fr:FR} {S S':Nat→Bool} {i:Nat} {o:Oper} (ho:ops[i]? = some o)
  (hk:∀ k ok d,ops[k]? = some ok→ok.dst=some d→d∈o.looksAt ops→(k=i∨(k<i∧forced ms k i=true)∨(i<k∧forced ms i k=true))→S k=S' k∧(S k=true→vs k=vs' k)) :
  ∀ t,t∈o.looksAt ops→frS ops vs fr S t=frS ops vs' fr S' t:=by
 intro t ht
 unfold frS
 split
 ·rename_i k hw
  obtain ⟨ok,hok,hd⟩:=wr_some hw
  have hor:k=i∨(k<i∧forced ms k i=true)∨(i<k∧forced ms i k=true):=by
   rcases Nat.lt_trichotomy k i with hlt | heq | hgt
   ·exact .inr (.inl ⟨hlt,(pair_spec0 hp hok ho hlt).2.1 t hd ht⟩)
   ·exact .inl heq
   ·exact .inr (.inr ⟨hgt,(pair_spec0 hp ho hok hgt).2.2 t hd ht⟩)
  obtain ⟨h1,h2⟩:=hk k ok t hok hd ht hor
  show (bif S k then vs k else fr t)=bif S' k then vs' k else fr t
  rw [← h1]
  cases hs:S k
  ·rfl
  ·exact h2 hs
 ·rfl
theorem ops_of_look {ops:Array Oper} {o:Oper} {f g:FR} (hl:∀ t,t∈o.looksAt ops→f t=g t):∀ x,x∈o.op.operands→aeval f x=aeval g x:=by
 intro x hx
 cases x with
 | tmp t=>exact hl t (List.mem_append_left _ (List.mem_filterMap.2 ⟨.tmp t,by simpa using hx,rfl⟩))
 | _=>rfl
theorem gate_of_look {ops:Array Oper} {o:Oper} {f g:FR} (hwg:wfGuard N ops o.guard=true) (hl:∀ t,t∈o.looksAt ops→f t=g t) {b:Bool} (hg:Gate (prepOp ops o) f b):Gate (prepOp ops o) g b:=by
 refine hg.fr (fun gg c hgc=>hl _ (List.mem_append_right _ ?_))
 simp only [prepOp] at hgc
 cases hog:o.guard with
 | none=>rw [hog] at hgc;simp at hgc
 | some gb =>
  obtain ⟨g',b'⟩:=gb
  rw [hog] at hgc
  simp only [Option.some.injEq,Prod.mk.injEq] at hgc
  obtain ⟨rfl,rfl⟩:=hgc
  rw [hog] at hwg
  simp only [wfGuard] at hwg
  split at hwg
  ·rename_i d hd;simp only [hog,hd];simp
  ·cases hwg
theorem AOp.fr {o:POp} {fr fr':FR} {σ:ST} {K Ep:AV→ST→Prop} (hx:∀ x,x∈o.op.operands→aeval fr x=aeval fr' x) (hd:AOp P h o K Ep fr σ):AOp P h o K Ep fr' σ:=by
 unfold AOp at *
 split at hd
 ·rename_i x hop
  rw [hop] at hx
  rw [← hx x (by simp [Op.operands])]
  exact hd
 ·rename_i s d x hop
  rw [hop] at hx
  rw [← hx x (by simp [Op.operands])]
  exact hd
 ·rename_i f args ts hop
  rw [hop] at hx
  rw [← hx f (by simp [Op.operands,Call.operands]),← map_congr_mem fun x hm=>hx x (by simp [Op.operands,Call.operands,hm])]
  exact hd
 ·rw [← evalOp_fr hx];exact hd
theorem freshS_op {o:POp} (hf:freshS o=true):o.guard=none∧(∃ d,o.dst=some d)∧freshO o.op=true:=by
 unfold freshS at hf
 split at hf
 ·rename_i d h1 h2;exact ⟨h1,⟨d,h2⟩,hf⟩
 ·cases hf
theorem freshO_cases {op:Op} (hf:freshO op=true):(∃ u,op=.alloc u)∨∃ t n ps,op=.buildSlice t n ps:=by
 cases op <;> first | exact .inl ⟨_,rfl⟩ | exact .inr ⟨_,_,_,rfl⟩ | cases hf
theorem freshS_eff {o:POp} (hf:freshS o=true):effS o=true∧valCall o.op=false∧isEff o.op=true:=by
 obtain ⟨_,_,hf⟩:=freshS_op hf
 rcases freshO_cases hf with ⟨u,hu⟩ | ⟨t,n,ps,hu⟩ <;> rw [effS,hu] <;> exact ⟨rfl,rfl,rfl⟩
theorem DOp.fresh_fr {o:POp} (hf:freshS o=true) {fr fr':FR} {σ:ST} {K:AV→ST→Prop} (hx:∀ x,x∈o.op.operands→aeval fr x=aeval fr' x) (hd:DOp P h o K fr σ):DOp P h o K fr' σ:=by
 obtain ⟨_,_,hf⟩:=freshS_op hf
 have e:=evalOp_fr (P:=P) (hh:=hintOf h o.dst) (tt:=o.type) (σ:=σ) hx
 obtain ⟨d,op,ty,g⟩:=o
 rcases freshO_cases hf with ⟨u,rfl⟩ | ⟨t,n,ps,rfl⟩
 ·exact hd
 ·show (evalOp P (hintOf h d) ty fr' σ (.buildSlice t n ps)).dholds K
  rw [← e];exact hd
theorem AOp.of_fresh {o:POp} (hf:freshS o=true) {fr:FR} {σ:ST} {K Ep:AV→ST→Prop} (hd:(evalOp P (hintOf h o.dst) o.type fr σ o.op).holds K):AOp P h o K Ep fr σ:=by
 obtain ⟨_,_,hf⟩:=freshS_op hf
 obtain ⟨d,op,ty,g⟩:=o
 rcases freshO_cases hf with ⟨u,rfl⟩ | ⟨t,n,ps,rfl⟩ <;> exact hd
theorem looks_fresh {ops:Array Oper} {o:Oper} (hf:freshS (prepOp ops o)=true) {t:Nat} (ht:t∈o.looksAt ops):t∈looksF (prepOp ops o):=by
 obtain ⟨hg,_,hf⟩:=freshS_op hf
 have hg0:o.guard=none:=by
  cases hog:o.guard with
  | none=>rfl
  | some gb=>simp [prepOp,hog] at hg
 unfold Oper.looksAt at ht
 rw [hg0] at ht
 have hp:(prepOp ops o).op=o.op:=rfl
 rw [hp] at hf
 rcases freshO_cases hf with ⟨u,hu⟩ | ⟨t',n,ps,hu⟩
 ·rw [hu] at ht;simp [Op.operands] at ht
 ·unfold looksF
  rw [hp,hu]
  rw [hu] at ht
  simp only [Op.operands,List.append_nil,List.mem_filterMap] at ht ⊢
  obtain ⟨x,h1,h2⟩:=ht
  simp only [Array.toList_map,List.mem_map] at h1
  obtain ⟨p,h3,rfl⟩:=h1
  refine ⟨p,h3,?_⟩
  cases hp2:p.2 <;> rw [hp2] at h2 <;> first | exact h2 | cases h2
theorem permute_cons {ops:Array Oper} {i:Nat} {o:Oper} (ho:ops[i]? = some o) (l:List Nat):permute (prepDraw ops) (i::l)=(i,prepOp ops o)::permute (prepDraw ops) l:=by
 unfold permute
 rw [List.filterMap_cons,prepDraw_get ops i o ho]
 rfl
theorem permute_mem {ops:Array Oper} {i:Nat} {o:Oper} (ho:ops[i]? = some o) {l:List Nat} (hi:i∈l):(i,prepOp ops o)∈permute (prepDraw ops) l :=
 List.mem_filterMap.2 ⟨i,hi,by rw [prepDraw_get ops i o ho];rfl⟩
theorem seqEarly_mem {pre:List (List Nat)} {i:Nat} {fr:FR} {j:Nat} {y:POp}:∀ {rest:List (Nat × POp)},seqEarly P h pre i rest fr→(j,y)∈rest→freshS y=true→forcedP pre i j=false→frHint (hintOf h y.dst)=true∧DOp P h y (fun _ _=>True) fr []
 | [],_,hm,_,_=>by cases hm
 | (k,z)::rest,hh,hm,hf,hn=>by
  unfold seqEarly at hh
  rcases List.mem_cons.1 hm with he | hm
  ·cases he
   rw [hf,hn] at hh
   exact hh.1
  ·split at hh
   ·exact seqEarly_mem hh.2 hm hf hn
   ·exact seqEarly_mem hh hm hf hn
theorem dseq_eff {pre:List (List Nat)} {K:FR→ST→Prop} {i:Nat} {o:POp} {rest:List (Nat × POp)} {pend:List (Nat × PD)} {fr:FR} {σ:ST} (he:effS o=true) (hh:DSeq P h pre K ((i,o)::rest) pend fr σ) :
  o.guard=none∧seqEarly P h pre i rest fr∧AOp P h o (fun v σ'=>seqPend P h pre i pend σ'∧DSeq P h pre K rest pend (put fr o.dst v) σ') (fun _ _=>False) fr σ:=by
 unfold DSeq at hh
 split at hh
 ·rename_i hg
  refine ⟨hg,?_⟩
  split at hh
  ·exact hh
  ·rename_i hv
   have hi:isEff o.op=true:=by simpa [effS,hv] using he
   rw [hi] at hh
   simp only at hh
   refine ⟨hh.1,?_⟩
   obtain ⟨v,σ',h1,h2⟩:=DOp.split hh.2
   refine AOp_mono ?_ (fun _ _ h=>h) h1
   rintro v' σ'' ⟨rfl,rfl⟩
   exact h2
 ·rw [he] at hh;exact hh.elim
theorem dseq_fresh {pre:List (List Nat)} {K:FR→ST→Prop} {i:Nat} {o:POp} {rest:List (Nat × POp)} {pend:List (Nat × PD)} {fr:FR} {σ:ST} (he:freshS o=true) (hh:DSeq P h pre K ((i,o)::rest) pend fr σ) :
  DOp P h o (fun v σ'=>seqPend P h pre i pend σ'∧DSeq P h pre K rest pend (put fr o.dst v) σ') fr σ:=by
 unfold DSeq at hh
 rw [(freshS_op he).1,(freshS_eff he).2.1,(freshS_eff he).2.2] at hh
 exact hh.2
theorem dseq_pure {pre:List (List Nat)} {K:FR→ST→Prop} {i:Nat} {o:POp} {rest:List (Nat × POp)} {pend:List (Nat × PD)} {fr:FR} {σ:ST} (he:effS o=false) (hh:DSeq P h pre K ((i,o)::rest) pend fr σ) :
  (Gate o fr true∧∃ v,Does P h o fr σ v σ∧DSeq P h pre K rest ((i,⟨⟨o.dst,o.op,o.type,none⟩,fr,v⟩)::pend) (put fr o.dst v) σ)∨(Gate o fr false∧DSeq P h pre K rest pend (put fr o.dst (.tuple [])) σ):=by
 have run:DOp P h o (fun v σ'=>σ'=σ∧DSeq P h pre K rest ((i,⟨⟨o.dst,o.op,o.type,none⟩,fr,v⟩)::pend) (put fr o.dst v) σ) fr σ→∃ v,Does P h o fr σ v σ∧DSeq P h pre K rest ((i,⟨⟨o.dst,o.op,o.type,none⟩,fr,v⟩)::pend) (put fr o.dst v) σ:=fun h1=>by
  obtain ⟨v,σ',k1,rfl,k2⟩:=DOp.split h1
  exact ⟨v,k1,k2⟩
 unfold DSeq at hh
 split at hh
 ·rename_i hg
  have hv:valCall o.op=false:=by
   unfold effS at he
   simp only [Bool.or_eq_false_iff] at he;exact he.2
  have hi:isEff o.op=false:=by
   unfold effS at he
   simp only [Bool.or_eq_false_iff] at he;exact he.1
  rw [hv,hi] at hh
  exact .inl ⟨.opn hg,run hh⟩
 ·rename_i g b hg
  rw [he] at hh
  rcases gateA_split hg hh with ⟨h1,h2⟩ | ⟨h1,h2⟩
  ·exact .inl ⟨h1,run h2⟩
  ·exact .inr ⟨h1,h2⟩
end
structure SI (P:Program) (h:Nat→Hint) (E:Env) (N:Nat) (ops:Array Oper) (Q:Post) (π:List Nat) (fr:FR) (L:Array Bool) (pl:Nat→Place) (bk:Nat→Blk) (mk:Nat→Nat→AV)
  (done todo:List Nat) (pend:List (Nat × PD)) (vs:Nat→AV) (σ:ST) (ρ:RHO) (I:Nat→Prop) (a:Act) (w:World):Prop where
 split:π=done++todo
 size:L.size=ops.size
 closed:ClosedL ops L
 dseq:DSeq P h (preOf ops) (fun fr' σ'=>Q .normal fr' σ') (permute (prepDraw ops) todo) pend (frS ops vs fr (inL done)) σ
 at':At P E N (frS ops (vC done vs) fr (fun j=>L.getD j false)) σ ρ I a w
 effs:∀ j o,ops[j]? = some o→j∈done→effS (prepOp ops o)=true→L.getD j false=true
 pures:∀ j o,ops[j]? = some o→j∈done→L.getD j false=false→∃ d1 d2,done=d1++j::d2 ∧
  ((Gate (prepOp ops o) (frS ops vs fr (inL d1)) true∧Does P h (prepOp ops o) (frS ops vs fr (inL d1)) σ (vs j) σ∧(j,(⟨⟨o.dst,o.op,o.type,none⟩,frS ops vs fr (inL d1),vs j⟩:PD))∈pend) ∨
   (Gate (prepOp ops o) (frS ops vs fr (inL d1)) false∧vs j=.tuple []))
 fresh:∀ j o,ops[j]? = some o→L.getD j false=true→j ∉ done→freshS (prepOp ops o)=true∧(∀ τ K,DOp P h (prepOp ops o) K (frS ops vs fr (inL done)) τ→K (mk j τ.length) (τ++[bk j])) ∧
  (∀ d,o.dst=some d→Beside I w (pl j) (bk j) (mk j) (a.tmps.getD d undef))∧∀ B,(bk j).live→(pl j).blk=some B→¬ I B∧¬ Lives ρ σ B∧E.w.heap.size≤B∧B<w.heap.size
 apart:∀ i j,L.getD i false=true→i ∉ done→i<ops.size→L.getD j false=true→j ∉ done→j<ops.size→i≠j→(bk i).live→(bk j).live→∀ B,(pl i).blk=some B→(pl j).blk=some B→False
section
variable {P:Program} {h:Nat→Hint} {E:Env} {N:Nat} {ops:Array Oper} {Q:Post} {π:List Nat} {fr:FR} {L:Array Bool} {pl:Nat→Place} {bk:Nat→Blk} {mk:Nat→Nat→AV}
 {done todo:List Nat} {pend:List (Nat × PD)} {vs:Nat→AV} {σ:ST} {ρ:RHO} {I:Nat→Prop} {a:Act} {w:World}
theorem lt_of_op {i:Nat} {o:Oper} (ho:ops[i]? = some o):i<ops.size:=(Array.getElem?_eq_some_iff.1 ho).1
theorem look_grow (hp0:pairs0 ops (masks ops.toList [])=true) {e:Nat} {rest:List Nat} {oe:Oper} (hπ:permPairs (preOf ops) (prepDraw ops) (done++e::rest)=true) (hcl:ClosedL ops L) (hoe:ops[e]? = some oe) (heL:L.getD e false=false∨freshS (prepOp ops oe)=true)
  {j:Nat} {o:Oper} (ho:ops[j]? = some o) (hj:j∈rest) (hjL:L.getD j false=true) (hf:freshS (prepOp ops o)=true) (v:AV) :
  ∀ t,t∈o.looksAt ops→frS ops (updV vs e v) fr (inL (done++[e])) t=frS ops vs fr (inL done) t:=by
 obtain ⟨p1,p2,_⟩:=permPairs_split hπ
 have hed:e ∉ done:=fun hm=>permPair_ne (p1 e hm) rfl
 have pej:=p2 j hj
 refine frS_look hp0 ho (fun k ok d hok hd ht hor=>?_)
 by_cases hke:k=e
 ·subst hke
  exfalso
  rw [hoe] at hok;cases hok
  rcases hor with h1 | ⟨h1,h2⟩ | ⟨h1,h2⟩
  ·exact permPair_ne pej h1
  ·have hLe:=forced_spec hcl h2 hjL
   rcases heL with h3 | h3
   ·rw [hLe] at h3;cases h3
   · -- both make blocks of their own,and one looks at the other
    unfold permPair at pej
    rw [prepDraw_get ops k _ hoe,prepDraw_get ops j _ ho] at pej
    simp only [Bool.and_eq_true,Bool.not_eq_true'] at pej
    have h5:=pej.2
    have e1:(dpAt ops (masks ops.toList []) k oe).o=prepOp ops oe:=rfl
    have e2:(dpAt ops (masks ops.toList []) j o).o=prepOp ops o:=rfl
    rw [e1,e2,h3,hf] at h5
    simp only [Bool.true_and,List.any_eq_false] at h5
    have h6:=h5 d (looks_fresh hf ht)
    rw [show (prepOp ops oe).dst=oe.dst from rfl,hd] at h6
    simp at h6
  ·exact not_before pej h1 h2
 ·constructor
  ·unfold inL;simp [hke]
  ·intro hk
   exact updV_ne hke
theorem SI.norm (hp0:pairs0 ops (masks ops.toList [])=true) (hπ:permPairs (preOf ops) (prepDraw ops) π=true) (hall:∀ j,j<ops.size→j∈π) (hwf:∀ o,o∈ops.toList→wfOp N ops o=true):∀ (todo done:List Nat) (pend:List (Nat × PD)) (vs:Nat→AV) (σ:ST) (ρ:RHO),
  SI P h E N ops Q π fr L pl bk mk done todo pend vs σ ρ I a w→∃ done' todo' pend' vs' σ' ρ',SI P h E N ops Q π fr L pl bk mk done' todo' pend' vs' σ' ρ' I a w ∧
   (todo'=[]∨∃ e oe rest,todo'=e::rest∧ops[e]? = some oe∧effS (prepOp ops oe)=true∧L.getD e false=false)
 | [],done,pend,vs,σ,ρ,s=>⟨done,[],pend,vs,σ,ρ,s,.inl rfl⟩
 | e::rest,done,pend,vs,σ,ρ,s=>by
  have hπ':=hπ
  rw [s.split] at hπ'
  obtain ⟨p1,p2,p3⟩:=permPairs_split hπ'
  obtain ⟨dp,hdp⟩:=Option.isSome_iff_exists.1 p3
  have hlt:e<ops.size:=by rw [← prepDraw_length ops];exact (List.getElem?_eq_some_iff.1 hdp).1
  have hoe:ops[e]? = some ops[e]:=Array.getElem?_eq_getElem hlt
  generalize ops[e]=oe at hoe
  have hed:e ∉ done:=fun hm=>permPair_ne (p1 e hm) rfl
  have her:e ∉ rest:=fun hm=>permPair_ne (p2 e hm) rfl
  have hsplit:π=(done++[e])++rest:=by rw [s.split];simp
  have hds:=s.dseq
  rw [permute_cons hoe] at hds
  have hfrS:∀ v,frS ops (updV vs e v) fr (inL (done++[e]))=put (frS ops vs fr (inL done)) oe.dst v:=fun v =>
   frS_new hp0 hoe (inL_not.2 hed) (fun k=>by unfold inL;simp;rw [Bool.eq_iff_iff];simp)
  have hold:∀ v d1 (d2:List Nat) j,done=d1++j::d2→frS ops (updV vs e v) fr (inL d1)=frS ops vs fr (inL d1)∧updV vs e v j=vs j:=by
   intro v d1 d2 j hd
   refine ⟨frS_congr fun k hk=>updV_ne fun ek=>?_,updV_ne fun ej=>?_⟩
   ·subst ek;exact hed (by rw [hd];exact List.mem_append_left _ (inL_iff.1 hk))
   ·subst ej;exact hed (by rw [hd];simp)
  have hmem:∀ j,j∈done++[e]→j≠e→j∈done:=fun j hj hne=>by
   rcases List.mem_append.1 hj with hj | hj
   ·exact hj
   ·exact absurd (List.mem_singleton.1 hj) hne
  have hnot:∀ j,j ∉ done++[e]→j ∉ done∧j≠e:=fun j hj=>⟨fun hm=>hj (List.mem_append_left _ hm),fun he=>hj (by rw [he];simp)⟩
  have hrest:∀ j o,ops[j]? = some o→L.getD j false=true→j ∉ done++[e]→(L.getD e false=false∨freshS (prepOp ops oe)=true)→∀ v τ K,DOp P h (prepOp ops o) K (frS ops (updV vs e v) fr (inL (done++[e]))) τ→DOp P h (prepOp ops o) K (frS ops vs fr (inL done)) τ:=by
   intro j o ho hjL hj heL v τ K hd
   obtain ⟨hj1,hj2⟩:=hnot j hj
   have hjr:j∈rest:=by
    have:=hall j (lt_of_op ho)
    rw [s.split] at this
    rcases List.mem_append.1 this with h1 | h1
    ·exact absurd h1 hj1
    ·rcases List.mem_cons.1 h1 with h1 | h1
     ·exact absurd h1 hj2
     ·exact h1
   have hf:=(s.fresh j o ho hjL hj1).1
   exact DOp.fresh_fr hf (ops_of_look (look_grow hp0 hπ' s.closed hoe heL ho hjr hjL hf v)) hd
  cases he:effS (prepOp ops oe) with
  | true =>
   cases hL:L.getD e false with
   | false=>exact ⟨done,e::rest,pend,vs,σ,ρ,s,.inr ⟨e,oe,rest,rfl,hoe,he,hL⟩⟩
   | true =>
    obtain ⟨hf,hev,hbe,hB⟩:=s.fresh e oe hoe hL hed
    obtain ⟨hpnd,hseq⟩:=hev σ _ (dseq_fresh hf hds)
    obtain ⟨_,⟨dd,hdd⟩,_⟩:=freshS_op hf
    have hdd:oe.dst=some dd:=hdd
    have hbes:=hbe dd hdd
    have hdl:dd<N:=by
     have:=hwf oe (by rw [← Array.getElem?_toList] at hoe;exact List.mem_of_getElem? hoe)
     simp only [wfOp,Bool.and_eq_true,hdd,wfDst] at this
     simpa using this.1
    refine SI.norm hp0 hπ hall hwf rest (done++[e]) pend (updV vs e (mk e σ.length)) (σ++[bk e]) (updR ρ σ.length (pl e)) ⟨hsplit,s.size,s.closed,?_,?_,?_,?_,?_,?_⟩
    ·rw [hfrS];exact hseq
    · -- the store with the block
     have hrs:=RS.adopt s.at'.rs (hbes.rb _ _) (fun B hl hB'=>⟨(hB B hl hB').1,(hB B hl hB').2.1⟩)
     refine ⟨?_,hrs,?_,s.at'.size,s.at'.defers⟩
     ·have st:=s.at'.step
      refine ⟨st.keep,st.mono,st.inew,fun b hb=>?_,st.hsz,fun b blk hb=>?_,st.env⟩
      ·rcases lives_push hb with h1 | ⟨h1,h2⟩
       ·exact st.fpn b h1
       ·exact .inr (hB b h1 h2).2.2.1
      ·obtain ⟨blk',k1,k2⟩:=st.compat b blk hb
       obtain ⟨k3,k4⟩:=push_keeps (ρ:=ρ) (pl e) (bk e) b blk' k1
       exact ⟨blk',k3,by rw [k4];exact k2⟩
     ·rw [vC_upd,frS_set hp0 hoe hL,hdd]
      intro i
      simp only [put]
      by_cases hi:i=dd
      ·subst hi
       have:Nat.beq i i=true:=by simp
       rw [this]
       exact hbes.v _ _ σ.length (by simp) (updR_same _ _ _)
      ·have:Nat.beq i dd=false:=by cases hb:Nat.beq i dd;rfl;exact absurd (Nat.eq_of_beq_eq_true hb) hi
       rw [this]
       exact (s.at'.vf i).keepG (fun _ h=>h) (fun _ _=>rfl) (Nat.le_refl _) (push_keeps (pl e) (bk e))
    ·intro j o ho hj hje
     by_cases hne:j=e
     ·subst hne;exact hL
     ·exact s.effs j o ho (hmem j hj hne) hje
    ·intro j o ho hj hjL
     have hne:j≠e:=fun ej=>by subst ej;rw [hL] at hjL;cases hjL
     obtain ⟨d1,d2,hd,hc⟩:=s.pures j o ho (hmem j hj hne) hjL
     obtain ⟨k1,k2⟩:=hold (mk e σ.length) d1 d2 j hd
     refine ⟨d1,d2++[e],by rw [hd];simp,?_⟩
     rw [k1,k2]
     rcases hc with ⟨c1,c2,c3⟩ | hc
     ·refine .inl ⟨c1,?_,c3⟩
      have hok:=hpnd _ c3 (by
       cases hff:forcedP (preOf ops) j e
       ·rfl
       ·have:=forced_spec s.closed (forcedP_forced hff) hL
        rw [this] at hjL;cases hjL)
      exact Again.does hok
     ·exact .inr hc
    ·intro j o ho hjL hj
     obtain ⟨hj1,hj2⟩:=hnot j hj
     obtain ⟨f1,f2,f3,f4⟩:=s.fresh j o ho hjL hj1
     refine ⟨f1,fun τ K hd=>f2 τ K (hrest j o ho hjL hj (.inr hf) _ τ K hd),f3,fun B hl hB'=>?_⟩
     obtain ⟨g1,g2,g3,g4⟩:=f4 B hl hB'
     refine ⟨g1,fun hlv=>?_,g3,g4⟩
     rcases lives_push hlv with h1 | ⟨h1,h2⟩
     ·exact g2 h1
     ·exact s.apart j e hjL hj1 (lt_of_op ho) hL hed hlt hj2 hl h1 B hB' h2
    ·intro i j hi hi' hil hj hj' hjl
     exact s.apart i j hi (hnot i hi').1 hil hj (hnot j hj').1 hjl
  | false =>
   have hL:L.getD e false=false:=by
    cases hL:L.getD e false
    ·rfl
    ·have:=(freshS_eff (s.fresh e oe hoe hL hed).1).1
     rw [he] at this;cases this
   have common:∀ (v:AV) (pend':List (Nat × PD)),(∀ p,p∈pend→p∈pend')→DSeq P h (preOf ops) (fun fr' σ'=>Q .normal fr' σ') (permute (prepDraw ops) rest) pend' (put (frS ops vs fr (inL done)) oe.dst v) σ →
     ((Gate (prepOp ops oe) (frS ops vs fr (inL done)) true∧Does P h (prepOp ops oe) (frS ops vs fr (inL done)) σ v σ∧(e,(⟨⟨oe.dst,oe.op,oe.type,none⟩,frS ops vs fr (inL done),v⟩:PD))∈pend')∨(Gate (prepOp ops oe) (frS ops vs fr (inL done)) false∧v=.tuple [])) →
     SI P h E N ops Q π fr L pl bk mk (done++[e]) rest pend' (updV vs e v) σ ρ I a w:=by
    intro v pend' hsub hseq hsay
    refine ⟨hsplit,s.size,s.closed,?_,?_,?_,?_,?_,?_⟩
    ·rw [hfrS];exact hseq
    ·rw [vC_upd]
     have:frS ops (updV (vC done vs) e v) fr (fun j=>L.getD j false)=frS ops (vC done vs) fr (fun j=>L.getD j false):=frS_congr fun k hk=>updV_ne fun ek=>by subst ek;rw [hL] at hk;cases hk
     rw [this];exact s.at'
    ·intro j o ho hj hje
     by_cases hne:j=e
     ·subst hne;rw [hoe] at ho;cases ho;rw [he] at hje;cases hje
     ·exact s.effs j o ho (hmem j hj hne) hje
    ·intro j o ho hj hjL
     by_cases hne:j=e
     ·subst hne
      rw [hoe] at ho;cases ho
      refine ⟨done,[],rfl,?_⟩
      have:frS ops (updV vs j v) fr (inL done)=frS ops vs fr (inL done):=frS_congr fun k hk=>updV_ne fun ek=>by subst ek;exact hed (inL_iff.1 hk)
      rw [this,updV_same];exact hsay
     ·obtain ⟨d1,d2,hd,hc⟩:=s.pures j o ho (hmem j hj hne) hjL
      obtain ⟨k1,k2⟩:=hold v d1 d2 j hd
      refine ⟨d1,d2++[e],by rw [hd];simp,?_⟩
      rw [k1,k2]
      rcases hc with ⟨c1,c2,c3⟩ | hc
      ·exact .inl ⟨c1,c2,hsub _ c3⟩
      ·exact .inr hc
    ·intro j o ho hjL hj
     obtain ⟨hj1,hj2⟩:=hnot j hj
     obtain ⟨f1,f2,f3,f4⟩:=s.fresh j o ho hjL hj1
     exact ⟨f1,fun τ K hd=>f2 τ K (hrest j o ho hjL hj (.inl hL) _ τ K hd),f3,f4⟩
    ·intro i j hi hi' hil hj hj' hjl
     exact s.apart i j hi (hnot i hi').1 hil hj (hnot j hj').1 hjl
   rcases dseq_pure he hds with ⟨hg,v,hdo,hseq⟩ | ⟨hg,hseq⟩
   ·exact SI.norm hp0 hπ hall hwf rest _ _ _ _ _ (common v _ (fun p hm=>List.mem_cons_of_mem _ hm) hseq (.inl ⟨hg,hdo,List.mem_cons_self⟩))
   ·exact SI.norm hp0 hπ hall hwf rest _ _ _ _ _ (common (.tuple []) _ (fun p hm=>hm) hseq (.inr ⟨hg,rfl⟩))
theorem Beside.step {p:Place} {blk:Blk} {mkj:Nat→AV} {u:Value} {ρ':RHO} {I':Nat→Prop} {w':World} {σ':ST} (hr:RS P ρ I w σ) (hs:Step ρ I w σ ρ' I' w' σ') (hb:Beside I w p blk mkj u)
  (hB:∀ B,blk.live→p.blk=some B→¬ I B∧¬ Lives ρ σ B∧E.w.heap.size≤B∧B<w.heap.size) :
  Beside I' w' p blk mkj u∧∀ B,blk.live→p.blk=some B→¬ I' B∧¬ Lives ρ' σ' B∧E.w.heap.size≤B∧B<w'.heap.size:=by
 refine ⟨hb.keep hs.mono (hs.iheap hr) hs.hsz (fun B hl hB'=>hs.keep B (hB B hl hB').2.2.2 (hB B hl hB').2.1),fun B hl hB'=>?_⟩
 obtain ⟨g1,g2,g3,g4⟩:=hB B hl hB'
 refine ⟨fun hI=>?_,fun hl'=>?_,g3,Nat.lt_of_lt_of_le g4 hs.hsz⟩
 ·rcases hs.inew B hI with k | k | k
  ·exact g1 k
  ·exact g2 k
  ·omega
 ·rcases hs.fpn B hl' with k | k
  ·exact g2 k
  ·omega
theorem getD_put_ne {a:Act} {d dd:Nat} {d0:Option Nat} {u:Value} (hd:d0≠some d):(a.put d0 u).tmps.getD d undef=a.tmps.getD d undef:=by
 cases d0 with
 | none=>rfl
 | some k =>
  have:k≠d:=fun e=>hd (by rw [e])
  simp only [Act.put,Array.getD_eq_getD_getElem?]
  rw [Array.getElem?_setIfInBounds_ne this]
theorem dst_ne (hp0:pairs0 ops (masks ops.toList [])=true) {i j:Nat} {x y:Oper} (hi:ops[i]? = some x) (hj:ops[j]? = some y) (hne:i≠j) {d:Nat} (hd:y.dst=some d):x.dst≠some d:=by
 intro hx
 rcases Nat.lt_or_gt_of_ne hne with h1 | h1
 ·exact (pair_spec0 hp0 hi hj h1).1 d hx hd
 ·exact (pair_spec0 hp0 hj hi h1).1 d hd hx
theorem SI.run (hp0:pairs0 ops (masks ops.toList [])=true) (hed:edgesOK ops=true) (hπ:permPairs (preOf ops) (prepDraw ops) π=true) (hall:∀ j,j<ops.size→j∈π) (hwf:∀ o,o∈ops.toList→wfOp N ops o=true) :
  ∀ (fuel:Nat) (L:Array Bool) (pl:Nat→Place) (bk:Nat→Blk) (mk:Nat→Nat→AV) (done todo:List Nat) (pend:List (Nat × PD)) (vs:Nat→AV) (σ:ST) (ρ:RHO) (I:Nat→Prop) (a:Act) (w:World),
   unl L ops.size≤fuel→SI P h E N ops Q π fr L pl bk mk done todo pend vs σ ρ I a w→wpAny P .any ops (lift P E N Q) fuel L a w:=by
 have fin:∀ (L:Array Bool) (pl:Nat→Place) (bk:Nat→Blk) (mk:Nat→Nat→AV) (done todo:List Nat) (pend:List (Nat × PD)) (vs:Nat→AV) (σ:ST) (ρ:RHO) (I:Nat→Prop) (a:Act) (w:World),
   SI P h E N ops Q π fr L pl bk mk done todo pend vs σ ρ I a w→Region.ready .any ops L=[]→lift P E N Q .normal a w:=by
  intro L pl bk mk done todo pend vs σ ρ I a w s hr
  obtain ⟨done,todo,pend,vs,σ,ρ,s,hc⟩:=s.norm hp0 hπ hall hwf
  have hal:=all_listed hed s.size hr
  have htodo:todo=[]:=by
   rcases hc with h1 | ⟨e,oe,rest,_,h2,_,h3⟩
   ·exact h1
   ·rw [hal e (lt_of_op h2)] at h3;cases h3
  subst htodo
  have hdn:π=done:=by have:=s.split;simpa using this
  have hfr:frS ops (vC done vs) fr (fun j=>L.getD j false)=frS ops vs fr (inL done):=by
   funext t
   unfold frS
   split
   ·rename_i j hw
    obtain ⟨o',ho',_⟩:=wr_some hw
    have hlt:=lt_of_op ho'
    have hm:done.contains j=true:=by rw [← hdn];simpa using hall j hlt
    show (bif L.getD j false then vC done vs j else fr t)=bif inL done j then vs j else fr t
    rw [hal j hlt]
    unfold vC inL
    rw [hm];rfl
   ·rfl
  have hat:=s.at'
  rw [hfr] at hat
  exact ⟨ρ,I,_,_,.normal,hat,trivial,s.dseq⟩
 intro fuel
 induction fuel with
 | zero =>
  intro L pl bk mk done todo pend vs σ ρ I a w hun s
  have hr:Region.ready .any ops L=[]:=by
   cases hr:Region.ready .any ops L with
   | nil=>rfl
   | cons i l =>
    exfalso
    have hi:i∈Region.ready .any ops L:=by rw [hr];exact List.mem_cons_self
    obtain ⟨h0,o,ho,_⟩:=mem_ready.1 hi
    have:=unl_set s.size (lt_of_op ho) h0
    omega
  exact ⟨hr,fin L pl bk mk done todo pend vs σ ρ I a w s hr⟩
 | succ fuel ih =>
  intro L pl bk mk done todo pend vs σ ρ I a w hun s
  refine ⟨fun hr=>fin L pl bk mk done todo pend vs σ ρ I a w s hr,fun i hi=>?_⟩
  obtain ⟨done,todo,pend,vs,σ,ρ,s,hc⟩:=s.norm hp0 hπ hall hwf
  obtain ⟨h0,o,ho,hdep⟩:=mem_ready.1 hi
  have hlt:i<ops.size:=lt_of_op ho
  have hli:L.getD i false=false:=by
   have:i<L.size:=by rw [s.size];exact hlt
   simp [this] at h0 ⊢;exact h0
  have hwo:=hwf o (by rw [← Array.getElem?_toList] at ho;exact List.mem_of_getElem? ho)
  simp only [wfOp,Bool.and_eq_true] at hwo
  have later:∀ j,forced (masks ops.toList []) i j=true→L.getD j false=false:=fun j hf=>by
   cases hj:L.getD j false
   ·rfl
   ·rw [forced_spec s.closed hf hj] at hli;cases hli
  have first:∀ j,forced (masks ops.toList []) j i=true→j≠i→L.getD j false=true:=fun j hf hne=>forced_ready s.closed s.size hi hf hne
  have hsz':(L.setIfInBounds i true).size=ops.size:=by simp [s.size]
  have hun':unl (L.setIfInBounds i true) ops.size≤fuel:=by have:=unl_set s.size hlt h0;omega
  have hcl':=closed_set s.closed hi
  have hother:∀ j,j≠i→(L.setIfInBounds i true).getD j false=L.getD j false:=fun j hj=>getD_set_ne false (Ne.symm hj)
  have hself:(L.setIfInBounds i true).getD i false=true:=by simp [s.size,hlt]
  have hL':∀ k,(L.setIfInBounds i true).getD k false=(L.getD k false || k == i):=fun k=>by
   by_cases hk:k=i
   ·subst hk;simp [s.size,hlt]
   ·rw [hother k hk]
    have:(k == i)=false:=by simp [hk]
    rw [this,Bool.or_false]
  have hsz:=s.size
  let E0:Env:=⟨ρ,I,w,σ,E.D⟩
  have hat0:At P E0 N (frS ops (vC done vs) fr (fun j=>L.getD j false)) σ ρ I a w:=⟨Step.refl _ _ _ _,s.at'.rs,s.at'.vf,s.at'.size,s.at'.defers⟩
  have un:∀ j,(L.setIfInBounds i true).getD j false=false→j≠i∧L.getD j false=false:=fun j hj=>by
   have hne:j≠i:=fun e=>by subst e;rw [hself] at hj;cases hj
   exact ⟨hne,by rw [← hother j hne];exact hj⟩
  by_cases hid:i∈done
  · -- the plan knows what it comes to
   have hpu:effS (prepOp ops o)=false:=by
    cases he:effS (prepOp ops o)
    ·rfl
    ·rw [s.effs i o ho hid he] at hli;cases hli
   obtain ⟨d1,d2,hd,hsay⟩:=s.pures i o ho hid hli
   have hπ':=hπ
   rw [s.split,hd,List.append_assoc,List.cons_append] at hπ'
   obtain ⟨p1,p2,_⟩:=permPairs_split hπ'
   have hall':∀ k,k<ops.size→k∈d1∨k=i∨k∈d2++todo:=fun k hk=>by
    have:=hall k hk
    rw [s.split,hd,List.append_assoc,List.cons_append] at this
    rcases List.mem_append.1 this with h1 | h1
    ·exact .inl h1
    ·rcases List.mem_cons.1 h1 with h1 | h1
     ·exact .inr (.inl h1)
     ·exact .inr (.inr h1)
   have look:∀ t,t∈o.looksAt ops→frS ops vs fr (inL d1) t=frS ops (vC done vs) fr (fun j=>L.getD j false) t:=by
    refine frS_look hp0 ho (fun k ok d hok hdk ht hor=>?_)
    rcases hor with rfl | ⟨h1,h2⟩ | ⟨h1,h2⟩
    ·have:inL d1 k=false:=inL_not.2 fun hm=>permPair_ne (p1 k hm) rfl
     rw [this,hli];exact ⟨rfl,fun h=>by cases h⟩
    ·have hk:k∈d1:=by
      rcases hall' k (lt_of_op hok) with h3 | h3 | h3
      ·exact h3
      ·omega
      ·exact (not_before (p2 k h3) h1 h2).elim
     rw [inL_iff.2 hk,first k h2 (by omega)]
     refine ⟨rfl,fun _=>?_⟩
     unfold vC
     have:done.contains k=true:=by rw [hd];simp [hk]
     rw [this];rfl
    ·have hk:inL d1 k=false:=inL_not.2 fun hm=>not_before (p1 k hm) h1 h2
     rw [hk,later k h2];exact ⟨rfl,fun h=>by cases h⟩
   have hvi:vC done vs i=vs i:=by
    unfold vC
    have:done.contains i=true:=by simpa using hid
    rw [this];rfl
   have frame:frS ops (vC done vs) fr (fun j=>(L.setIfInBounds i true).getD j false)=put (frS ops (vC done vs) fr (fun j=>L.getD j false)) o.dst (vs i):=by
    rw [frS_put hp0 ho hL',hvi]
   have go:∀ (ρ':RHO) (I':Nat→Prop) (a':Act) (w':World),Step ρ I w σ ρ' I' w' σ→At P E0 N (put (frS ops (vC done vs) fr (fun j=>L.getD j false)) o.dst (vs i)) σ ρ' I' a' w'→(∀ d,o.dst≠some d→a'.tmps.getD d undef=a.tmps.getD d undef) →
     wpAny P .any ops (lift P E N Q) fuel (L.setIfInBounds i true) a' w':=by
    intro ρ' I' a' w' hst hat' htm
    refine ih _ pl bk mk done todo pend vs σ ρ' I' a' w' hun' ⟨s.split,hsz',hcl',s.dseq,?_,?_,?_,?_,?_⟩
    ·rw [frame];exact ⟨s.at'.step.trans hst,hat'.rs,hat'.vf,hat'.size,hat'.defers⟩
    ·intro j oj hoj hj hje
     have:=s.effs j oj hoj hj hje
     rw [hL',this];rfl
    ·intro j oj hoj hj hjL
     exact s.pures j oj hoj hj (un j hjL).2
    ·intro j oj hoj hjL hj
     have hne:j≠i:=fun e=>hj (by rw [e];exact hid)
     rw [hother j hne] at hjL
     obtain ⟨f1,f2,f3,f4⟩:=s.fresh j oj hoj hjL hj
     refine ⟨f1,f2,fun d hdj=>?_,?_⟩
     ·rw [htm d (dst_ne hp0 ho hoj (Ne.symm hne) hdj)]
      exact (Beside.step s.at'.rs hst (f3 d hdj) f4).1
     ·obtain ⟨_,⟨dd,hdd⟩,_⟩:=freshS_op f1
      exact (Beside.step s.at'.rs hst (f3 dd hdd) f4).2
    ·intro x y hx hx' hxl hy hy' hyl hxy
     have hnx:x≠i:=fun e=>hx' (by rw [e];exact hid)
     have hny:y≠i:=fun e=>hy' (by rw [e];exact hid)
     rw [hother x hnx] at hx
     rw [hother y hny] at hy
     exact s.apart x y hx hx' hxl hy hy' hyl hxy
   unfold wpOp
   rw [ho]
   simp only
   rcases hsay with ⟨hg,hdo,_⟩ | ⟨hg,hv⟩
   ·rw [wanted_of hat0 hwo.2 (gate_of_look hwo.2 look hg),if_pos rfl]
    refine .inl (AOp_sound (po:=prepOp ops o) rfl rfl rfl hat0 hwo.1 (hdo.fr (ops_of_look look)) _ _ ?_ (fun _ _ hf=>hf.elim))
    rintro v σ' ⟨rfl,rfl⟩ ρ' I' w' u hat'
    exact go ρ' I' _ w' hat'.step hat' (fun d hd=>getD_put_ne (dd:=d) hd)
   ·rw [wanted_of hat0 hwo.2 (gate_of_look hwo.2 look hg)]
    simp only [Bool.false_eq_true,if_false]
    refine go ρ I _ w (Step.refl _ _ _ _) ?_ (fun d hd=>getD_put_ne (dd:=d) hd)
    rw [hv]
    exact ⟨Step.refl _ _ _ _,s.at'.rs,s.at'.vf.put V.skipped (by rw [s.at'.size];exact hwo.1),by rw [put_size];exact s.at'.size,by rw [put_defers];exact s.at'.defers⟩
  · -- the plan has not come to it
   have hit:i∈todo:=by
    have:=hall i hlt
    rw [s.split] at this
    exact (List.mem_append.1 this).resolve_left hid
   rcases hc with rfl | ⟨e,oe,rest,rfl,hoe,hee,heL⟩
   ·cases hit
   have hπ':=hπ
   rw [s.split] at hπ'
   obtain ⟨p1,p2,_⟩:=permPairs_split hπ'
   have hed':e ∉ done:=fun hm=>permPair_ne (p1 e hm) rfl
   have hds:=s.dseq
   rw [permute_cons hoe] at hds
   obtain ⟨hgn,hearly,haop⟩:=dseq_eff hee hds
   have htodo:∀ k,k<ops.size→k∈done∨k=e∨k∈rest:=fun k hk=>by
    have:=hall k hk
    rw [s.split] at this
    rcases List.mem_append.1 this with h1 | h1
    ·exact .inl h1
    ·exact (List.mem_cons.1 h1).elim (fun h1=>.inr (.inl h1)) (fun h1=>.inr (.inr h1))
   by_cases hie:i=e
   · -- its turn has come in the plan too
    subst hie
    rw [ho] at hoe;cases hoe
    have look:∀ t,t∈o.looksAt ops→frS ops vs fr (inL done) t=frS ops (vC done vs) fr (fun j=>L.getD j false) t:=by
     refine frS_look hp0 ho (fun k ok d hok hdk ht hor=>?_)
     rcases hor with rfl | ⟨h1,h2⟩ | ⟨h1,h2⟩
     ·rw [inL_not.2 hed',hli];exact ⟨rfl,fun h=>by cases h⟩
     ·have hk:k∈done:=by
       rcases htodo k (lt_of_op hok) with h3 | h3 | h3
       ·exact h3
       ·omega
       ·exact (not_before (p2 k h3) h1 h2).elim
      rw [inL_iff.2 hk,first k h2 (by omega)]
      refine ⟨rfl,fun _=>?_⟩
      unfold vC
      have:done.contains k=true:=by simpa using hk
      rw [this];rfl
     ·have hk:inL done k=false:=inL_not.2 fun hm=>not_before (p1 k hm) h1 h2
      rw [hk,later k h2];exact ⟨rfl,fun h=>by cases h⟩
    unfold wpOp
    rw [ho]
    simp only
    have hgo:Gate (prepOp ops o) (frS ops vs fr (inL done)) true:=.opn hgn
    rw [wanted_of hat0 hwo.2 (gate_of_look hwo.2 look hgo),if_pos rfl]
    refine .inl (AOp_sound (po:=prepOp ops o) rfl rfl rfl hat0 hwo.1 (haop.fr (ops_of_look look)) _ _ ?_ (fun _ _ hf=>hf.elim))
    rintro v σ' ⟨hpnd,hseq⟩ ρ' I' w' u hat'
    have hst:=hat'.step
    have hmem:∀ j,j∈done++[i]→j≠i→j∈done:=fun j hj hne=>by
     rcases List.mem_append.1 hj with hj | hj
     ·exact hj
     ·exact absurd (List.mem_singleton.1 hj) hne
    have hnot:∀ j,j ∉ done++[i]→j ∉ done∧j≠i:=fun j hj=>⟨fun hm=>hj (List.mem_append_left _ hm),fun he=>hj (by rw [he];simp)⟩
    refine ih _ pl bk mk (done++[i]) rest pend (updV vs i v) σ' ρ' I' _ w' hun' ⟨by rw [s.split];simp,hsz',hcl',?_,?_,?_,?_,?_,?_⟩
    ·rw [frS_new hp0 ho (inL_not.2 hed') (S':=inL (done++[i])) (fun k=>by unfold inL;simp;rw [Bool.eq_iff_iff];simp)]
     exact hseq
    ·rw [vC_upd,frS_new hp0 ho hli hL']
     exact ⟨s.at'.step.trans hst,hat'.rs,hat'.vf,hat'.size,hat'.defers⟩
    ·intro j oj hoj hj hje
     by_cases hne:j=i
     ·subst hne;exact hself
     ·rw [hL',s.effs j oj hoj (hmem j hj hne) hje];rfl
    ·intro j oj hoj hj hjL
     obtain ⟨hne,hjL'⟩:=un j hjL
     obtain ⟨d1,d2,hd,hc⟩:=s.pures j oj hoj (hmem j hj hne) hjL'
     have k1:frS ops (updV vs i v) fr (inL d1)=frS ops vs fr (inL d1):=frS_congr fun k hk=>updV_ne fun ek=>by subst ek;exact hed' (by rw [hd];exact List.mem_append_left _ (inL_iff.1 hk))
     refine ⟨d1,d2++[i],by rw [hd];simp,?_⟩
     rw [k1,updV_ne hne]
     rcases hc with ⟨c1,c2,c3⟩ | hc
     ·refine .inl ⟨c1,?_,c3⟩
      have hok:=hpnd _ c3 (by
       cases hff:forcedP (preOf ops) j i
       ·rfl
       ·rw [first j (forcedP_forced hff) hne] at hjL';cases hjL')
      exact Again.does hok
     ·exact .inr hc
    ·intro j oj hoj hjL hj
     obtain ⟨hj1,hne⟩:=hnot j hj
     rw [hother j hne] at hjL
     obtain ⟨f1,f2,f3,f4⟩:=s.fresh j oj hoj hjL hj1
     have hjr:j∈rest:=((htodo j (lt_of_op hoj)).resolve_left hj1).resolve_left hne
     refine ⟨f1,fun τ K hd=>f2 τ K (DOp.fresh_fr f1 (ops_of_look (look_grow hp0 hπ' s.closed ho (.inl hli) hoj hjr hjL f1 v)) hd),fun d hdj=>?_,?_⟩
     ·rw [getD_put_ne (dd:=d) (dst_ne hp0 ho hoj (Ne.symm hne) hdj)]
      exact (Beside.step s.at'.rs hst (f3 d hdj) f4).1
     ·obtain ⟨_,⟨dd,hdd⟩,_⟩:=freshS_op f1
      exact (Beside.step s.at'.rs hst (f3 dd hdd) f4).2
    ·intro x y hx hx' hxl hy hy' hyl hxy
     obtain ⟨hx1,hx2⟩:=hnot x hx'
     obtain ⟨hy1,hy2⟩:=hnot y hy'
     rw [hother x hx2] at hx
     rw [hother y hy2] at hy
     exact s.apart x y hx hx1 hxl hy hy1 hyl hxy
   · -- it comes before its time: it makes a block of its own
    have hir:i∈rest:=(List.mem_cons.1 hit).resolve_left hie
    have pei:=p2 i hir
    have hnf:forced (masks ops.toList []) e i=false:=by
     cases hff:forced (masks ops.toList []) e i
     ·rfl
     ·rw [first e hff (Ne.symm hie)] at heL;cases heL
    have hnP:forcedP (preOf ops) e i=false:=by
     cases hff:forcedP (preOf ops) e i
     ·rfl
     ·rw [forcedP_forced hff] at hnf;cases hnf
    have hfr:freshS (prepOp ops o)=true:=by
     have hp:=pei
     unfold permPair at hp
     rw [prepDraw_get ops e _ hoe,prepDraw_get ops i _ ho] at hp
     simp only [Bool.and_eq_true] at hp
     have h5:=hp.1.2
     rw [show (dpAt ops (masks ops.toList []) e oe).o=prepOp ops oe from rfl,show (dpAt ops (masks ops.toList []) i o).o=prepOp ops o from rfl,hee,hnP] at h5
     simpa using h5
    have hdone:∀ k ok d,ops[k]? = some ok→ok.dst=some d→d∈o.looksAt ops→k<i→forced (masks ops.toList []) k i=true→k∈done:=by
     intro k ok d hok hdk ht h1 h2
     have hLk:=first k h2 (by omega)
     rcases htodo k (lt_of_op hok) with h3 | h3 | h3
     ·exact h3
     ·subst h3;rw [hLk] at heL;cases heL
     ·by_cases hkd:k∈done
      ·exact hkd
      ·exfalso
       have fk:=(s.fresh k ok hok hLk hkd).1
       obtain ⟨l1,l2,hl⟩:=List.append_of_mem hir
       have hπ2:=hπ'
       rw [hl,show done++e::(l1++i::l2)=(done++e::l1)++i::l2 by simp] at hπ2
       obtain ⟨q1,q2,_⟩:=permPairs_split hπ2
       rw [hl] at h3
       rcases List.mem_append.1 h3 with h4 | h4
       · -- both make blocks,one looks at the other
        have pki:=q1 k (by simp [h4])
        unfold permPair at pki
        rw [prepDraw_get ops k _ hok,prepDraw_get ops i _ ho] at pki
        simp only [Bool.and_eq_true,Bool.not_eq_true'] at pki
        have h5:=pki.2
        rw [show (dpAt ops (masks ops.toList []) k ok).o=prepOp ops ok from rfl,show (dpAt ops (masks ops.toList []) i o).o=prepOp ops o from rfl,fk,hfr] at h5
        simp only [Bool.true_and,List.any_eq_false] at h5
        have h6:=h5 d (looks_fresh hfr ht)
        rw [show (prepOp ops ok).dst=ok.dst from rfl,hdk] at h6
        simp at h6
       ·rcases List.mem_cons.1 h4 with h4 | h4
        ·omega
        ·exact not_before (q2 k h4) h1 h2
    have look:∀ t,t∈o.looksAt ops→frS ops vs fr (inL done) t=frS ops (vC done vs) fr (fun j=>L.getD j false) t:=by
     refine frS_look hp0 ho (fun k ok d hok hdk ht hor=>?_)
     rcases hor with rfl | ⟨h1,h2⟩ | ⟨h1,h2⟩
     ·rw [inL_not.2 hid,hli];exact ⟨rfl,fun h=>by cases h⟩
     ·have hk:=hdone k ok d hok hdk ht h1 h2
      rw [inL_iff.2 hk,first k h2 (by omega)]
      refine ⟨rfl,fun _=>?_⟩
      unfold vC
      have:done.contains k=true:=by simpa using hk
      rw [this];rfl
     ·have hk:inL done k=false:=inL_not.2 fun hm=>by
       obtain ⟨l1,l2,hl⟩:=List.append_of_mem hir
       have hπ2:=hπ'
       rw [hl,show done++e::(l1++i::l2)=(done++e::l1)++i::l2 by simp] at hπ2
       exact not_before ((permPairs_split hπ2).1 k (by simp [hm])) h1 h2
      rw [hk,later k h2];exact ⟨rfl,fun h=>by cases h⟩
    obtain ⟨hfh,hev⟩:=seqEarly_mem hearly (permute_mem ho hir) hfr hnP
    obtain ⟨blk,m,hmint,hhold,hadopt⟩:=mint_of hfr hfh hev
    obtain ⟨hgi,⟨dd,hdd⟩,_⟩:=freshS_op hfr
    have hdd:o.dst=some dd:=hdd
    let E00:Env:=⟨ρ,I,w,[],E.D⟩
    have hat00:At P E00 N (fun t=>dOnly (frS ops (vC done vs) fr (fun j=>L.getD j false) t)) [] ρ I a w :=
     ⟨Step.refl _ _ _ _,⟨fun i blk h=>by simp at h,fun i j bi bj B h=>by simp at h,fun B hl=>(by obtain ⟨i,bl,h1,_⟩:=hl;simp at h1),s.at'.rs.bound,s.at'.rs.tabs⟩,fun t=>(s.at'.vf t).dOnly,s.at'.size,s.at'.defers⟩
    unfold wpOp
    rw [ho]
    simp only
    have hgo:Gate (prepOp ops o) (frS ops vs fr (inL done)) true:=.opn hgi
    rw [wanted_of hat0 hwo.2 (gate_of_look hwo.2 look hgo),if_pos rfl]
    have haop2:AOp P h (prepOp ops o) (fun v σ=>v=m 0∧σ=[blk]) (fun _ _=>False) (fun t=>dOnly (frS ops (vC done vs) fr (fun j=>L.getD j false) t)) []:=by
     refine AOp.fr (fr:=fun t=>dOnly (frS ops vs fr (inL done) t)) (ops_of_look (ops:=ops) (o:=o) fun t ht=>?_) (AOp.of_fresh hfr hhold)
     show dOnly _=dOnly _
     rw [look t ht]
    refine .inl (AOp_sound (po:=prepOp ops o) rfl rfl rfl hat00 hwo.1 haop2 _ _ ?_ (fun _ _ hf=>hf.elim))
    rintro v σ' ⟨rfl,rfl⟩ ρ' I' w' u hat'
    have hst:=hat'.step
    have hnl:∀ B,¬ Lives ρ ([]:ST) B:=fun B ⟨i,bl,h1,_⟩=>by simp at h1
    have hold:∀ b,b<w.heap.size→w'.heap[b]? = w.heap[b]? := fun b hb=>hst.keep b hb (hnl b)
    have hnew:∀ b,I' b→I b∨w.heap.size≤b:=fun b hb=>(hst.inew b hb).elim .inl (fun h=>h.elim (fun h=>absurd h (hnl b)) .inr)
    have hbes:Beside I' w' (ρ' 0) blk m ((a.put o.dst u).tmps.getD dd undef):=by
     refine hmint.beside hat'.rs ?_
     have:=hat'.vf dd
     rw [hdd] at this ⊢
     simpa [put] using this
    have hstep:Step ρ I w σ ρ I' w' σ:=⟨fun b hb _=>hold b hb,hst.mono,fun b hb=>(hnew b hb).elim .inl (fun h=>.inr (.inr h)),fun b hb=>.inl hb,hst.hsz,fun b blk hb=>⟨blk,hb,Compat.refl _ _⟩,hst.env⟩
    have hrs:RS P ρ I' w' σ:=s.at'.rs.beside hst.mono hnew hat'.rs.bound hst.hsz hold
    have hB0:∀ B,blk.live→(ρ' 0).blk=some B→¬ I' B∧¬ Lives ρ σ B∧E.w.heap.size≤B∧B<w'.heap.size:=by
     intro B hl hB
     have hlv:Lives ρ' [blk] B:=⟨0,blk,rfl,hl,hB⟩
     have hge:w.heap.size≤B:=(hst.fpn B hlv).resolve_left (hnl B)
     refine ⟨hat'.rs.sep B hlv,fun h'=>?_,Nat.le_trans s.at'.step.hsz hge,lives_heap hat'.rs hlv⟩
     have:=lives_heap s.at'.rs h'
     omega
    refine ih _ (updR pl i (ρ' 0)) (fun k=>if k=i then blk else bk k) (fun k=>if k=i then m else mk k) done (e::rest) pend vs σ ρ I' _ w' hun' ⟨s.split,hsz',hcl',s.dseq,?_,?_,?_,?_,?_⟩
    ·have hvi:vC done vs i=.any:=by
      unfold vC
      have:done.contains i=false:=by simpa using hid
      rw [this];rfl
     rw [frS_put hp0 ho hL',hvi]
     refine ⟨s.at'.step.trans hstep,hrs,?_,hat'.size,hat'.defers⟩
     exact VF.put (fun t=>(s.at'.vf t).keepG hst.mono (fun b hb=>hold b (s.at'.rs.bound b hb)) hst.hsz (fun _ _ h=>⟨h,rfl⟩)) (.any _) (by rw [s.at'.size];exact hwo.1)
    ·intro j oj hoj hj hje
     rw [hL',s.effs j oj hoj hj hje];rfl
    ·intro j oj hoj hj hjL
     exact s.pures j oj hoj hj (un j hjL).2
    ·intro j oj hoj hjL hj
     by_cases hne:j=i
     ·subst hne
      rw [ho] at hoj;cases hoj
      rw [updR_same]
      simp only [if_true]
      exact ⟨hfr,hadopt,fun d hd=>by rw [hdd] at hd;cases hd;rw [hdd] at hbes;rw [hdd];exact hbes,hB0⟩
     ·rw [hother j hne] at hjL
      obtain ⟨f1,f2,f3,f4⟩:=s.fresh j oj hoj hjL hj
      rw [updR_ne _ _ hne]
      simp only [hne,if_false]
      refine ⟨f1,f2,fun d hdj=>?_,?_⟩
      ·rw [getD_put_ne (dd:=d) (dst_ne hp0 ho hoj (Ne.symm hne) hdj)]
       exact (Beside.step s.at'.rs hstep (f3 d hdj) f4).1
      ·obtain ⟨_,⟨dd,hdd⟩,_⟩:=freshS_op f1
       exact (Beside.step s.at'.rs hstep (f3 dd hdd) f4).2
    ·have key:∀ y,y≠i→L.getD y false=true→y ∉ done→y<ops.size→(bk y).live→∀ B,(pl y).blk=some B→B<w.heap.size:=by
      intro y hy hyL hyd hyl hlv B hB
      have hoy:ops[y]? = some ops[y]:=Array.getElem?_eq_getElem hyl
      exact ((s.fresh y _ hoy hyL hyd).2.2.2 B hlv hB).2.2.2
     have hge:∀ B,blk.live→(ρ' 0).blk=some B→w.heap.size≤B:=fun B hl hB=>(hst.fpn B ⟨0,blk,rfl,hl,hB⟩).resolve_left (hnl B)
     intro x y hx hx' hxl hy hy' hyl hxy hlx hly B hBx hBy
     by_cases hxi:x=i
     ·subst hxi
      have hyi:y≠x:=Ne.symm hxy
      rw [updR_same] at hBx
      rw [updR_ne _ _ hyi] at hBy
      simp only [if_true] at hlx
      simp only [hyi,if_false] at hly
      rw [hother y hyi] at hy
      have:=key y hyi hy hy' hyl hly B hBy
      have:=hge B hlx hBx
      omega
     ·rw [updR_ne _ _ hxi] at hBx
      simp only [hxi,if_false] at hlx
      rw [hother x hxi] at hx
      by_cases hyi:y=i
      ·subst hyi
       rw [updR_same] at hBy
       simp only [if_true] at hly
       have:=key x hxi hx hx' hxl hlx B hBx
       have:=hge B hly hBy
       omega
      ·rw [updR_ne _ _ hyi] at hBy
       simp only [hyi,if_false] at hly
       rw [hother y hyi] at hy
       exact s.apart x y hx hx' hxl hy hy' hyl hxy hlx hly B hBx hBy
theorem seq_sound (hm:P.follows .mixedOrders=true) {id:Nat} {ops:Array Oper} {Q:Post} (hwf:∀ o,o∈ops.toList→wfOp N ops o=true) (hd:drawOK ops=true) {π:List Nat} (hπ:permOK (preOf ops) (prepDraw ops) π=true) {fr:FR} {σ:ST} {ρ:RHO} {I:Nat→Prop} {a:Act} {w:World}
  (hat:At P E N fr σ ρ I a { w with drawn:=w.drawn+1 }) (hh:DSeq P h (preOf ops) (fun fr' σ'=>Q .normal fr' σ') (permute (prepDraw ops) π) [] fr σ):(Code.region id ops true).wp P (lift P E N Q) a w:=by
 refine wp_region_any hm ?_
 simp only [drawOK,Bool.and_eq_true] at hd
 simp only [permOK,Bool.and_eq_true,List.all_eq_true] at hπ
 have hl:∀ j,(Array.replicate ops.size false).getD j false=false:=fun j=>by
  rcases Nat.lt_or_ge j ops.size with h | h
  ·simp [h]
  ·simp [Array.getElem?_eq_none,h]
 refine SI.run (h:=h) (π:=π) (fr:=fr) hd.2 hd.1 hπ.1 (fun j hj=>?_) hwf ops.size _ (fun _=>default) (fun _=>.dead) (fun _ _=>.any) [] π [] (fun _=>.any) σ ρ I a _ ?_ ⟨rfl,by simp,?_,?_,?_,?_,?_,?_,?_⟩
 ·have:=hπ.2 j (List.mem_range.2 (by rw [prepDraw_length];exact hj))
  simpa using this
 ·exact Nat.le_trans List.countP_le_length (by simp)
 ·intro i o ho hl'
  rw [hl] at hl';cases hl'
 ·have:inL []=fun _=>false:=by funext k;rfl
  rw [this,frS_none];exact hh
 ·have e:(fun j=>(Array.replicate ops.size false).getD j false)=fun _=>false:=by funext j;exact hl j
  rw [e,frS_none];exact hat
 ·intro j o ho hj;cases hj
 ·intro j o ho hj;cases hj
 ·intro j o ho hj;rw [hl] at hj;cases hj
 ·intro i j hi;rw [hl] at hi;cases hi
end
section
variable {P:Program} {h:Nat→Hint} {E:Env} {N:Nat}
theorem drawd_sound (hm:P.follows .mixedOrders=true) {id:Nat} {ops:Array Oper} {Q:Post} (hwf:∀ o,o∈ops.toList→wfOp N ops o=true) (hd:drawOK ops=true) {fr:FR} {σ:ST} {ρ:RHO} {I:Nat→Prop} {a:Act} {w:World}
  (hat:At P E N fr σ ρ I a { w with drawn:=w.drawn+1 }) (hh:DDraw P h (fun fr' σ'=>Q .normal fr' σ') (ordOK ops (masks ops.toList [])) (prepDraw ops) (preOf ops) fr σ):(Code.region id ops true).wp P (lift P E N Q) a w:=by
 unfold DDraw at hh
 split at hh
 ·obtain ⟨π,hπ,hh⟩:=hh
  exact seq_sound hm hwf hd hπ hat hh
 ·obtain ⟨hok,hh⟩:=hh
  split at hh
  ·rename_i k hk
   obtain ⟨σ1,hh⟩:=hh
   refine wp_region_any hm ?_
   simp only [drawOK,Bool.and_eq_true] at hd
   have hpr:=pairs_of hd.2 hok
   obtain ⟨vs,hK,hkl,hs⟩:=DOneP.extract _ _ _ hh
   have hkl:=hkl k rfl
   rw [prepDraw_length] at hK hkl
   rw [frT_S hd.2 _ (Nat.le_refl _)] at hK
   refine draw_one (h:=h) (fr:=fr) (vs:=vs) (σ:=σ) (σ1:=σ1) (k:=k) hwf hd.1 hpr hkl hK (fun i o ho=>?_) ops.size _ ρ I a _ (by simp) ?_ ?_ ?_
   ·have:=hs i _ (prepDraw_get ops i o ho)
    rw [frT_S hd.2 i (Nat.le_of_lt (Array.getElem?_eq_some_iff.1 ho).1)] at this
    unfold SaysOne at this ⊢
    simp only [Option.some.injEq] at this
    exact this
   ·exact Nat.le_trans List.countP_le_length (by simp)
   ·intro i o ho hl
    have hlt:=(Array.getElem?_eq_some_iff.1 ho).1
    simp [hlt] at hl
   ·have e:(fun j=>(Array.replicate ops.size false).getD j false)=fun _=>false:=by
     funext j
     rcases Nat.lt_or_ge j ops.size with h | h
     ·simp [h]
     ·simp [Array.getElem?_eq_none,h]
    have e2:(Array.replicate ops.size false).getD k false=false:=congrFun e k
    rw [e,frS_none,e2]
    exact hat
  ·exact draws_sound hm hwf hd hok hat hh
theorem RB.heap {ρ:RHO} {σ:ST} {I:Nat→Prop} {w w':World} (hh:w'.heap=w.heap) {p:Place} {b:Blk} (hb:RB ρ σ I w p b) (hr:RS P ρ I w σ) (hs:Step ρ I w σ ρ I w' σ):RB ρ σ I w' p b:=by
 cases hb with
 | box h1 h2 h3 h4=>exact .box h1 (by rw [hh];exact h2) h3 (fun j c hj=>hs.v hr (h4 j c hj))
 | arrNil h1 h2=>exact .arrNil h1 h2
 | map h1 h2 h3 h4=>exact .map h1 (by rw [hh];exact h2) h3 (fun j y hj=>let ⟨e,k1,k2,k3⟩:=h4 j y hj;⟨e,k1,hs.vd hr k2,hs.vd hr k3⟩)
 | iter h1 h2=>exact .iter h1 (by rw [hh];exact h2)
 | arr h1 h2 h3 h4 h5 h6=>exact .arr h1 (by rw [hh];exact h2) h3 h4 h5 (fun j c hj=>hs.vd hr (h6 j c hj))
 | rows h1 h2 h3 h4 h5=>exact .rows h1 (by rw [hh];exact h2) h3 h4 (fun j c hj=>hs.v hr (h5 j c hj))
 | dead=>exact .dead
theorem At.drawn {fr:FR} {σ:ST} {ρ:RHO} {I:Nat→Prop} {a:Act} {w:World} (hat:At P E N fr σ ρ I a w):At P E N fr σ ρ I a { w with drawn:=w.drawn+1 }:=by
 have hs:Step ρ I w σ ρ I { w with drawn:=w.drawn+1 } σ:=⟨fun _ _ _=>rfl,fun _ h=>h,fun _ h=>.inl h,fun _ h=>.inl h,Nat.le_refl _,fun b blk h=>⟨blk,h,Compat.refl _ _⟩,⟨rfl,rfl,rfl⟩⟩
 refine ⟨hat.step.trans hs,⟨fun i blk hi=>RB.heap (w:=w) (w':={ w with drawn:=w.drawn+1 }) rfl (hat.rs.blk i blk hi) hat.rs hs,hat.rs.inj,hat.rs.sep,hat.rs.bound,hs.tabs hat.rs⟩,hat.vf.step hat.rs hs,hat.size,hat.defers⟩
theorem W_sound (hmx:P.follows .mixedOrders=true) {Q:Post}:∀ (c:Code) (Q:Post),wfC N c=true→∀ (fr:FR) (σ:ST) (ρ:RHO) (I:Nat→Prop) (a:Act) (w:World),At P E N fr σ ρ I a w→W P h (prep c) Q fr σ→c.wp P (lift P E N Q) a w:=by
 intro c
 induction c with
 | skip=>intro Q _ fr σ ρ I a w hat hh;exact wp_skip ⟨ρ,I,fr,σ,.normal,hat,trivial,hh⟩
 | ret=>intro Q _ fr σ ρ I a w hat hh;exact wp_ret ⟨ρ,I,fr,σ,.ret,hat,trivial,hh⟩
 | exit id=>intro Q _ fr σ ρ I a w hat hh;exact wp_exit ⟨ρ,I,fr,σ,.exit id,hat,rfl,hh⟩
 | region id ops dr =>
  intro Q hwf fr σ ρ I a w hat hh
  cases dr with
  | true =>
   simp only [wfC,Bool.and_eq_true,List.all_eq_true] at hwf
   exact drawd_sound hmx hwf.1 hwf.2 hat.drawn hh
  | false =>
   simp only [wfC,List.all_eq_true] at hwf
   exact wp_region_list (AOps_sound ops.toList hwf fr σ ρ I a w hat hh)
 | seq x y ihx ihy =>
  intro Q hwf fr σ ρ I a w hat hh
  simp only [wfC,Bool.and_eq_true] at hwf
  refine wp_seq (wp_mono (ihx _ hwf.1 fr σ ρ I a w hat hh) ?_)
  rintro e a' w' ⟨ρ',I',fr',σ',ae,hat',hex,hq⟩
  cases e <;> cases ae <;> simp only [exitIs] at hex
  ·exact ihy _ hwf.2 fr' σ' ρ' I' a' w' hat' hq
  ·exact ⟨ρ',I',fr',σ',.exit _,hat',hex,hq⟩
  ·exact ⟨ρ',I',fr',σ',.ret,hat',trivial,hq⟩
  ·exact ⟨ρ',I',fr',σ',.panic _,hat',hex,hq⟩
 | cond c x y ihx ihy =>
  intro Q hwf fr σ ρ I a w hat hh
  simp only [wfC,Bool.and_eq_true] at hwf
  simp only [prep,W] at hh
  have hv:=hat.vf.eval c
  generalize hgen:aeval fr c=v at *
  unfold condA at hh
  split at hh
  ·rename_i b
   have hb:=hv.d_inv.bool_inv
   cases b
   ·exact wp_cond_false hb (ihy _ hwf.2 fr σ ρ I a w hat hh)
   ·exact wp_cond_true hb (ihx _ hwf.1 fr σ ρ I a w hat hh)
  ·exact hh.elim
 | block id b ih =>
  intro Q hwf fr σ ρ I a w hat hh
  refine wp_block (wp_mono (ih _ hwf fr σ ρ I a w hat hh) ?_)
  rintro e a' w' ⟨ρ',I',fr',σ',ae,hat',hex,hq⟩
  cases e <;> cases ae <;> simp only [exitIs] at hex
  ·exact ⟨ρ',I',fr',σ',.normal,hat',trivial,hq⟩
  ·subst hex
   simp only [Exit.inBlock,blockA] at hq ⊢
   split
   ·rename_i hid;rw [if_pos hid] at hq;exact ⟨ρ',I',fr',σ',.normal,hat',trivial,hq⟩
   ·rename_i hid;rw [if_neg hid] at hq;exact ⟨ρ',I',fr',σ',.exit _,hat',rfl,hq⟩
  ·exact ⟨ρ',I',fr',σ',.ret,hat',trivial,hq⟩
  ·exact ⟨ρ',I',fr',σ',.panic _,hat',hex,hq⟩
 | loop body ih =>
  intro Q hwf fr σ ρ I a w hat hh
  have key:∀ (fr:FR) (σ:ST),LoopW (fun Q fr σ=>W P h (prep body) Q fr σ) Q fr σ→∀ ρ I a w,At P E N fr σ ρ I a w→∀ b k cs,
    ∃ e a' w',lift P E N Q e a' w'∧Arrives P (lone (b.at a (.code body::.inLoop body::k)) cs w) b k cs e a' w':=by
   intro fr σ hl
   refine hl (fun fr σ=>∀ ρ I a w,At P E N fr σ ρ I a w→∀ b k cs,∃ e a' w',lift P E N Q e a' w'∧Arrives P (lone (b.at a (.code body::.inLoop body::k)) cs w) b k cs e a' w') ?_
   intro fr σ hb ρ I a w hat b k cs
   obtain ⟨e,a₁,w₁,⟨ρ',I',fr',σ',ae,hat',hex,hq⟩,harr⟩:=ih _ hwf fr σ ρ I a w hat hb b (.inLoop body::k) cs
   cases e <;> cases ae <;> simp only [exitIs] at hex
   ·obtain ⟨e₂,a₂,w₂,hq₂,harr₂⟩:=hq ρ' I' a₁ w₁ hat' b k cs
    exact ⟨e₂,a₂,w₂,hq₂,.of_steps (Steps.trans harr (.one step_inLoop)) harr₂⟩
   ·exact ⟨.exit _,a₁,w₁,⟨ρ',I',fr',σ',.exit _,hat',hex,hq⟩,.pass (x:=.inLoop body) rfl (fun _ _=>.inl (by simp)) harr⟩
   ·exact ⟨.ret,a₁,w₁,⟨ρ',I',fr',σ',.ret,hat',trivial,hq⟩,.pass (x:=.inLoop body) rfl (fun _ _=>.inl (by simp)) harr⟩
   ·exact ⟨.panic _,a₁,w₁,⟨ρ',I',fr',σ',.panic _,hat',hex,hq⟩,.pass (x:=.inLoop body) rfl (fun _ _=>.inl (by simp)) harr⟩
  intro b k cs
  obtain ⟨e,a',w',hq,harr⟩:=key fr σ hh ρ I a w hat b k cs
  exact ⟨e,a',w',hq,.of_steps (.one step_loop) harr⟩
 | _=>intro Q _ fr σ ρ I a w hat hh;exact hh.elim
def cellW (P:Program) (t:TypeId) (a:AV) (σ:ST) (K:AV→Prop):Prop :=
 match a with
 | .ptr b o=>(rLoad P t (.ptr b o) σ).holds fun v _=>K v
 | _=>False
def outW (P:Program) (fr:FR) (σ:ST) (rs:List ResultVar) (K:AV→Prop):Prop :=
 match rs with
 | [.tmp t]=>K (fr t)
 | []=>K (.tuple [])
 | [.tmp t,.tmp u]=>K (.tuple [fr t,fr u])
 | [.tmp t,.tmp u,.tmp v]=>K (.tuple [fr t,fr u,fr v])
 | [.cell t ty]=>cellW P ty (fr t) σ K
 | [.cell t ty,.tmp u]=>cellW P ty (fr t) σ fun v=>K (.tuple [v,fr u])
 | [.cell t ty,.cell u uy]=>cellW P ty (fr t) σ fun v=>cellW P uy (fr u) σ fun v'=>K (.tuple [v,v'])
 | [.cell t ty,.tmp u,.tmp x]=>cellW P ty (fr t) σ fun v=>K (.tuple [v,fr u,fr x])
 | _=>False
def endA (P:Program) (rs:List ResultVar) (K:Out→ST→Prop):Post
 | .normal,fr,σ=>outW P fr σ rs fun v=>K (.ret v) σ
 | .ret,fr,σ=>outW P fr σ rs fun v=>K (.ret v) σ
 | .panic x,fr,σ=>K (.panic x) σ
 | .exit _,_,_=>False
variable {K:Out→ST→Prop} {fr:FR} {σ:ST}
def initFr (args:List AV):FR:=fun i=>args.getD i .any
@[go_sem] theorem initFr_zero (a:AV) (l:List AV):initFr (a::l) 0=a:=nrfl rfl
@[go_sem] theorem initFr_succ (a:AV) (l:List AV) (i:Nat):initFr (a::l) (i+1)=initFr l i:=nrfl rfl
@[go_sem] theorem initFr_nil (i:Nat):initFr [] i=.any:=nrfl rfl
theorem cellW_sound {ρ:RHO} {I:Nat→Prop} {w:World} {t:TypeId} {x:AV} {v:Value} {K:AV→Prop} (hr:RS P ρ I w σ) (hx:V ρ σ I w x v) (ho:cellW P t x σ K) :
  ∃ a y u,v=.pointer (some a)∧(loadVar t a).run P w=.ok u w∧V ρ σ I w y u∧K y:=by
 unfold cellW at ho
 split at ho
 ·rename_i b o
  obtain ⟨u,y,h1,h2,h3⟩:=rLoad_sound hr t _ _ hx _ ho
  cases hx with | ptr k1 k2 =>
  refine ⟨_,y,u,rfl,?_,h2,h3⟩
  simpa [Instr.loadAt,Instr.sureAddr] using h1
 ·exact ho.elim
theorem outW_sound {ρ:RHO} {I:Nat→Prop} {w:World} {a:Act} {fn:Func} {K:AV→Prop} (hr:RS P ρ I w σ) (hf:VF ρ σ I w fr a) (ho:outW P fr σ fn.results.toList K) :
  ∃ v u,(results fn a.tmps).run P w=.ok u w∧V ρ σ I w v u∧K v:=by
 have hres:∀ l:List ResultVar,fn.results.toList=l→fn.results=l.toArray:=fun l hl=>by rw [← hl]
 unfold outW at ho
 split at ho
 ·rename_i t he
  exact ⟨_,a.tmps.getD t undef,results_tmp (by rw [hres _ he]) a.tmps P w,hf t,ho⟩
 ·rename_i he
  exact ⟨_,.tuple #[],results_none (by rw [hres _ he]) a.tmps P w,.tuple rfl (by simp),ho⟩
 ·rename_i t u he
  refine ⟨_,_,results_tmp2 (by rw [hres _ he]) a.tmps P w,.tuple rfl (fun j c hj=>?_),ho⟩
  match j,hj with
  | 0,hj=>simp at hj;subst hj;exact hf t
  | 1,hj=>simp at hj;subst hj;exact hf u
 ·rename_i t u x he
  refine ⟨_,.tuple #[a.tmps.getD t undef,a.tmps.getD u undef,a.tmps.getD x undef],?_,.tuple rfl (fun j c hj=>?_),ho⟩
  ·simp [results,hres _ he]
  match j,hj with
  | 0,hj=>simp at hj;subst hj;exact hf t
  | 1,hj=>simp at hj;subst hj;exact hf u
  | 2,hj=>simp at hj;subst hj;exact hf x
 ·rename_i t ty he
  obtain ⟨ad,y,u,h1,h2,h3,h4⟩:=cellW_sound (P:=P) hr (hf t) ho
  refine ⟨y,u,?_,h3,h4⟩
  rw [Array.getD_eq_getD_getElem?] at h1
  simp [results,hres _ he,h1,asAddr,h2,Sem.run_bind,Result.andThen]
 ·rename_i t ty x he
  obtain ⟨ad,y,u,h1,h2,h3,h4⟩:=cellW_sound (P:=P) hr (hf t) ho
  refine ⟨_,.tuple #[u,a.tmps.getD x undef],?_,.tuple rfl (fun j c hj=>?_),h4⟩
  ·rw [results_cell_tmp (by rw [hres _ he]) a.tmps P w,h1]
   simp [asAddr,h2,Result.andThen]
  match j,hj with
  | 0,hj=>simp at hj;subst hj;exact h3
  | 1,hj=>simp at hj;subst hj;exact hf x
 ·rename_i t ty x xy he
  obtain ⟨ad,y,u,h1,h2,h3,h4⟩:=cellW_sound (P:=P) hr (hf t) ho
  obtain ⟨ad',y',u',k1,k2,k3,k4⟩:=cellW_sound (P:=P) hr (hf x) h4
  refine ⟨_,.tuple #[u,u'],?_,.tuple rfl (fun j c hj=>?_),k4⟩
  ·rw [Array.getD_eq_getD_getElem?] at h1 k1
   simp [results,hres _ he,h1,k1,asAddr,h2,k2,Sem.run_bind,Result.andThen]
  match j,hj with
  | 0,hj=>simp at hj;subst hj;exact h3
  | 1,hj=>simp at hj;subst hj;exact k3
 ·rename_i t ty x z he
  obtain ⟨ad,y,u,h1,h2,h3,h4⟩:=cellW_sound (P:=P) hr (hf t) ho
  refine ⟨_,.tuple #[u,a.tmps.getD x undef,a.tmps.getD z undef],?_,.tuple rfl (fun j c hj=>?_),h4⟩
  ·rw [Array.getD_eq_getD_getElem?] at h1
   simp [results,hres _ he,h1,asAddr,h2,Sem.run_bind,Result.andThen]
  match j,hj with
  | 0,hj=>simp at hj;subst hj;exact h3
  | 1,hj=>simp at hj;subst hj;exact hf x
  | 2,hj=>simp at hj;subst hj;exact hf z
 ·exact ho.elim
theorem call_of_W (hmx:P.follows .mixedOrders=true) {f:FuncId} {fn:Func} {c:Code} {args:List AV} (hint:Nat→Hint) (hf:P.funcs[f]? = some fn) (hb:fn.body=some c) (hwf:wfC fn.ntmps c=true) (hn:args.length≤fn.ntmps)
  (hh:W P hint (prep c) (endA P fn.results.toList K) (initFr args) σ):ACall P f args σ K:=by
 intro ρ I w vs hr hv
 refine calls_of_wp hf hb ?_
 let a0:Act:={ tmps:=vs++Array.replicate (fn.ntmps - vs.size) undef,defers:=[] }
 have hat:At P ⟨ρ,I,w,σ,[]⟩ fn.ntmps (initFr args) σ ρ I a0 w:=by
  refine ⟨Step.refl _ _ _ _,hr,fun i=>?_,?_,rfl⟩
  ·rcases Nat.lt_or_ge i args.length with hlt | hge
   ·have:=hv.2 i _ (List.getElem?_eq_getElem hlt)
    have e1:initFr args i=args[i]:=by simp [initFr,List.getD_eq_getElem?_getD,hlt]
    have e2:a0.tmps.getD i undef=vs.getD i undef:=by
     have:i<vs.size:=by rw [← hv.1];exact hlt
     simp only [a0,Array.getD_eq_getD_getElem?]
     rw [Array.getElem?_append_left this]
    rw [e1,e2];exact this
   ·have e1:initFr args i=.any:=by simp [initFr,List.getD_eq_getElem?_getD,List.getElem?_eq_none hge]
    rw [e1];exact .any _
  ·have:=hv.1
   simp only [a0,Array.size_append,Array.size_replicate];omega
 refine wp_mono (W_sound (E:=⟨ρ,I,w,σ,[]⟩) (Q:=endA P fn.results.toList K) hmx c _ hwf _ σ ρ I a0 w hat hh) ?_
 rintro e a' w' ⟨ρ',I',fr',σ',ae,hat',hex,hq⟩
 have fin:outW P fr' σ' fn.results.toList (fun v=>K (.ret v) σ')→bodyPost P fn (fun e w'=>∃ ρ' I' σ' oc,Step ρ I w σ ρ' I' w' σ'∧RS P ρ' I' w' σ' ∧
   (match e,oc with
    | .returned v,.ret a=>V ρ' σ' I' w' a v
    | .panicked ch,.panic a=>∃ v,ch=[{ v,recovered:=false }]∧V ρ' σ' I' w' a v
    | _,_=>False)∧K oc σ') .ret a' w':=by
  intro ho
  obtain ⟨v,u,h1,h2,hk⟩:=outW_sound (P:=P) hat'.rs hat'.vf ho
  exact ⟨hat'.defers,u,h1,ρ',I',σ',.ret v,hat'.step,hat'.rs,h2,hk⟩
 cases e <;> cases ae <;> simp only [exitIs] at hex
 ·exact fin hq
 ·exact hq.elim
 ·exact fin hq
 ·rename_i ch x
  obtain ⟨v,rfl,hv'⟩:=hex
  exact ⟨hat'.defers,ρ',I',σ',.panic x,hat'.step,hat'.rs,⟨v,rfl,hv'⟩,hq⟩
/- calls whose values hold no block of the store -/
def AV.pure:AV→Bool
 | .d _=>true
 | .agg cs=>pures cs
 | .tuple cs=>pures cs
 | .any=>true
 | _=>false
where pures:List AV→Bool
 | []=>true
 | c::cs=>c.pure && pures cs
end
end Nv
