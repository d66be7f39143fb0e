/- Part of a proof about the functions of this seat. -/
import Derived.Test.YtfnddhbiolpmgaaGreatDoorG12Q56
import Derived.Recover
import Derived.Test.YtfnddhbiolpmgaaGreatDoorG10Base56
import Derived.Test.YtfnddhbiolpmgaaGreatDoorG23Pd56
import Derived.Test.YtfnddhbiolpmgaaGreatDoorG20Pars
import Derived.KernelRfl
import Derived.Test.YtfnddhbiolpmgaaGreatDoorG18Fv56
import Derived.Test.YtfnddhbiolpmgaaGreatDoorG19NvR
import Derived.Lib.ValidLaws
import Derived.Test.YtfnddhbiolpmgaaGreatDoorG17Fl56
/- A function that defers one closure;a closure that recovers. -/


set_option linter.unusedVariables false
set_option linter.unusedSimpArgs false
namespace Nv
open Go
def deferAt:PC→Option (Nat × FuncId × List Operand × List Operand)
 | .region [⟨some d,.makeFunc (.func g) first cap,_,none⟩,⟨none,.defer ⟨.value (.tmp d'),args,_⟩,_,none⟩]=>bif Nat.beq d d' && args.isEmpty then some (d,g,first.toList,cap.toList) else none
 | _=>none
def WD (P:Program) (h:Nat→Hint):PC→Post→(FuncId→List AV→Post)→FR→ST→Prop
 | .seq a b,Q1,Q2,fr,σ=>match deferAt a with
  | some (d,g,first,cap)=>W P h b (Q2 g (first.map (aeval fr)++cap.map (aeval fr))) (put fr (some d) (.func (.func g) (first.map (aeval fr)) (cap.map (aeval fr)))) σ
  | none=>W P h a (thenA (fun fr σ=>WD P h b Q1 Q2 fr σ) Q1) fr σ
 | c,Q1,_,fr,σ=>W P h c Q1 fr σ
def dmode (v:Value):Option Bool→FrameMode
 | none=>.returning
 | some b=>.panicking [{ v,recovered:=b }]
def DCall (P:Program) (g:FuncId) (args:List AV) (σ:ST) (pv:Option AV) (K:Bool→ST→Prop):Prop :=
 ∀ ρ I w vs,RS P ρ I w σ→VL ρ σ I w args vs→∀ v:Value,(∀ x,pv=some x→V ρ σ I w x v) →
  CallsD P g vs (dmode v (pv.map fun _=>false)) w fun e u' w'=>∃ ρ' I' σ' b,Step ρ I w σ ρ' I' w' σ'∧RS P ρ' I' w' σ'∧e=.returned (.tuple #[])∧u'=dmode v (pv.map fun _=>b)∧K b σ'
def endD (P:Program) (rs:List ResultVar) (K:Out→ST→Prop) (g:FuncId) (args:List AV):Post
 | .normal,fr,σ=>plainFn P g=true∧DCall P g args σ none fun _ σ'=>outW P fr σ' rs fun v=>K (.ret v) σ'
 | .ret,fr,σ=>plainFn P g=true∧DCall P g args σ none fun _ σ'=>outW P fr σ' rs fun v=>K (.ret v) σ'
 | .panic x,fr,σ=>plainFn P g=true∧DCall P g args σ (some x) fun b σ'=>bif b then outW P fr σ' rs fun v=>K (.ret v) σ' else K (.panic x) σ'
 | .exit _,_,_=>False
section
variable {P:Program} {h:Nat→Hint} {N:Nat}
def liftD (P:Program) (E:Env) (N:Nat) (Q1:Post) (Q2:FuncId→List AV→Post):Exit→Act→World→Prop:=fun e a w =>
 lift P E N Q1 e a w∨∃ (ρ:RHO) (I:Nat→Prop) (w1:World) (σ:ST) (g:FuncId) (args:List AV) (cap dargs:Array Value),Step E.ρ E.I E.w E.σ ρ I w1 σ∧RS P ρ I w1 σ∧VL ρ σ I w1 args (dargs++cap) ∧
  lift P ⟨ρ,I,w1,σ,[{ target:=.fn (.func g) cap,args:=dargs }]⟩ N (Q2 g args) e a w
theorem deferAt_some {p:PC} {d:Nat} {g:FuncId} {first cap:List Operand} (h:deferAt p=some (d,g,first,cap)) :
  ∃ f c t0 t1 ts,p=.region [⟨some d,.makeFunc (.func g) f c,t0,none⟩,⟨none,.defer ⟨.value (.tmp d),#[],ts⟩,t1,none⟩]∧first=f.toList∧cap=c.toList:=by
 unfold deferAt at h
 split at h
 ·rename_i d0 g0 f c t0 d1 args ts t1
  cases hb:(Nat.beq d0 d1 && args.isEmpty)
  ·rw [hb] at h;cases h
  ·rw [hb] at h
   simp only [cond_true,Option.some.injEq,Prod.mk.injEq] at h
   obtain ⟨rfl,rfl,rfl,rfl⟩:=h
   simp only [Bool.and_eq_true] at hb
   obtain rfl:=Nat.eq_of_beq_eq_true hb.1
   have:args=#[]:=by simpa using hb.2
   subst this
   exact ⟨f,c,t0,t1,ts,rfl,rfl,rfl⟩
 ·cases h
theorem VL.append {ρ:RHO} {σ:ST} {I:Nat→Prop} {w:World} {avl bs:List AV} {us vs:Array Value} (h1:VL ρ σ I w avl us) (h2:VL ρ σ I w bs vs):VL ρ σ I w (avl++bs) (us++vs):=by
 refine ⟨by simp [h1.1,h2.1],fun j c hj=>?_⟩
 rcases Nat.lt_or_ge j avl.length with hlt | hge
 ·rw [List.getElem?_append_left hlt] at hj
  have:=h1.2 j c hj
  rw [Array.getD_eq_getD_getElem?,Array.getElem?_append_left (by rw [← h1.1];exact hlt),← Array.getD_eq_getD_getElem?]
  exact this
 ·rw [List.getElem?_append_right hge] at hj
  have:=h2.2 _ c hj
  rw [Array.getD_eq_getD_getElem?,Array.getElem?_append_right (by rw [← h1.1];exact hge),← h1.1,← Array.getD_eq_getD_getElem?]
  exact this
theorem two_list {α:Type} {l:List α} (h:l.length=2):∃ a b,l=[a,b]:=by
 match l,h with
 | [a,b],_=>exact ⟨a,b,rfl⟩
theorem prep_region {x:Code} {l:List POp} (h:prep x=.region l):∃ id ops,x=.region id ops false∧ops.toList.map (prepOp ops)=l:=by
 unfold prep at h
 split at h <;> first | (simp only [PC.region.injEq] at h;exact ⟨_,_,rfl,h⟩) | (simp only [reduceCtorEq] at h)
theorem WD_sound (hmx:P.follows .mixedOrders=true) {E:Env} (hE:E.D=[]) {Q1:Post} {Q2:FuncId→List AV→Post}:∀ (c:Code),wfC N c=true→∀ (fr:FR) (σ:ST) (ρ:RHO) (I:Nat→Prop) (a:Act) (w:World),At P E N fr σ ρ I a w →
  WD P h (prep c) Q1 Q2 fr σ→c.wp P (liftD P E N Q1 Q2) a w:=by
 intro c
 have plain:∀ (c:Code),wfC N c=true→∀ (fr:FR) (σ:ST) (ρ:RHO) (I:Nat→Prop) (a:Act) (w:World),At P E N fr σ ρ I a w→W P h (prep c) Q1 fr σ→c.wp P (liftD P E N Q1 Q2) a w :=
  fun c hwf fr σ ρ I a w hat hh=>wp_mono (W_sound (Q:=Q1) hmx c _ hwf fr σ ρ I a w hat hh) fun e a' w' hl=>.inl hl
 induction c with
 | seq x y ihx ihy =>
  intro hwf fr σ ρ I a w hat hh
  have hwf':=hwf
  simp only [wfC,Bool.and_eq_true] at hwf
  simp only [prep,WD] at hh
  split at hh
  ·rename_i d g first cap hd
   obtain ⟨f,c,t0,t1,ts,hp,rfl,rfl⟩:=deferAt_some hd
   obtain ⟨id,ops,rfl,hp2⟩:=prep_region hp
   clear hp
   ·obtain ⟨o0,o1,hops⟩:∃ o0 o1,ops.toList=[o0,o1]:=by
     refine two_list ?_
     have hl:=congrArg List.length hp2
     rw [List.length_map] at hl
     exact hl
    rw [hops] at hp2
    simp only [List.map_cons,List.map_nil,List.cons.injEq,and_true] at hp2
    obtain ⟨h0,h1⟩:=hp2
    simp only [prepOp,POp.mk.injEq] at h0 h1
    obtain ⟨d0,op0,_,g0⟩:=h0
    obtain ⟨d1,op1,_,g1⟩:=h1
    have gn0:o0.guard=none:=by cases hg:o0.guard with | none=>rfl | some gb=>rw [hg] at g0;simp at g0
    have gn1:o1.guard=none:=by cases hg:o1.guard with | none=>rfl | some gb=>rw [hg] at g1;simp at g1
    have hwf0:wfOp N ops o0=true:=by
     have:=hwf.1
     simp only [wfC,hops,List.all_cons,Bool.and_eq_true] at this
     exact this.1
    simp only [wfOp,Bool.and_eq_true] at hwf0
    have hdl:wfDst a.tmps.size o0.dst=true:=by rw [hat.size];exact hwf0.1
    rw [d0] at hdl
    let vclo:Value:=.func (.func g) (f.map a.eval) (c.map a.eval)
    let dfr:Deferred:={ target:=.fn (.func g) (c.map a.eval),args:=f.map a.eval++#[] }
    have hvf:=hat.vf.vl f
    have hvc:=hat.vf.vl c
    have hvclo:V ρ σ I w (.func (.func g) (f.toList.map (aeval fr)) (c.toList.map (aeval fr))) vclo:=.func hvf.1 hvf.2 hvc.1 hvc.2
    have r0:(execOp a.eval o0).run P w=.ok (.value vclo) w:=by
     simp only [execOp,op0,Instr.makeFunc];rfl
    have hget:(a.put (some d) vclo).eval (.tmp d)=vclo:=by
     have hlt:d<a.tmps.size:=by simpa [wfDst] using hdl
     show (a.put (some d) vclo).tmps.getD d undef=vclo
     simp only [Act.put]
     rw [getD_set_arr _ _ _ _ hlt,if_pos rfl]
    have r1:(execOp (a.put (some d) vclo).eval o1).run P w=.ok (.defer dfr) w:=by
     have hr:(execOp (a.put (some d) vclo).eval o1)=(do pure (.defer (← resolve (a.put (some d) vclo).eval ⟨.value (.tmp d),#[],ts⟩ o1.type))):=by
      simp only [execOp,op1]
     rw [hr]
     simp [resolve,hget,Deferred.ofValue,vclo,dfr]
    refine wp_seq (wp_region_list ?_)
    rw [hops]
    have w0:Region.wanted o0 (yielded ops a.tmps)=true:=by simp [Region.wanted,gn0]
    unfold wpList
    rw [if_pos w0]
    refine .inl ?_
    unfold Oper.wp
    rw [r0,Oper.upon_value,d0]
    have w1:Region.wanted o1 (yielded ops (a.put (some d) vclo).tmps)=true:=by simp [Region.wanted,gn1]
    unfold wpList
    rw [if_pos w1]
    refine .inl ?_
    unfold Oper.wp
    rw [r1,Oper.upon_defer,d1]
    unfold wpList
    show y.wp P (liftD P E N Q1 Q2) _ w
    have hat':At P ⟨ρ,I,w,σ,[dfr]⟩ N (put fr (some d) (.func (.func g) (f.toList.map (aeval fr)) (c.toList.map (aeval fr)))) σ ρ I (({ a.put (some d) vclo with defers:=dfr::(a.put (some d) vclo).defers }:Act).put none undef) w:=by
     refine ⟨Step.refl _ _ _ _,hat.rs,hat.vf.put hvclo hdl,?_,?_⟩
     ·show (a.put (some d) vclo).tmps.size=N
      rw [put_size];exact hat.size
     ·show dfr::(a.put (some d) vclo).defers=[dfr]
      rw [put_defers,hat.defers,hE]
    refine wp_mono (W_sound (E:=⟨ρ,I,w,σ,[dfr]⟩) (Q:=Q2 g (f.toList.map (aeval fr)++c.toList.map (aeval fr))) hmx y _ hwf.2 _ σ ρ I _ w hat' hh) fun e a' w' hl=>.inr ?_
    refine ⟨ρ,I,w,σ,g,_,c.map a.eval,f.map a.eval++#[],hat.step,hat.rs,?_,hl⟩
    rw [Array.append_empty]
    exact VL.append hvf hvc
  ·refine wp_seq (wp_mono (W_sound (Q:=Q1) hmx x _ hwf.1 fr σ ρ I a w hat hh) ?_)
   rintro e a' w' ⟨ρ',I',fr',σ',ae,hat',hex,hq⟩
   cases e <;> cases ae <;> simp only [exitIs] at hex
   ·exact ihy hwf.2 fr' σ' ρ' I' a' w' hat' hq
   ·exact .inl ⟨ρ',I',fr',σ',.exit _,hat',hex,hq⟩
   ·exact .inl ⟨ρ',I',fr',σ',.ret,hat',trivial,hq⟩
   ·exact .inl ⟨ρ',I',fr',σ',.panic _,hat',hex,hq⟩
 | region id ops dr=>intro hwf fr σ ρ I a w hat hh;exact plain _ hwf fr σ ρ I a w hat (by cases dr <;> exact hh)
 | _=>intro hwf fr σ ρ I a w hat hh;exact plain _ hwf fr σ ρ I a w hat hh
theorem VL.step {ρ ρ':RHO} {σ σ':ST} {I I':Nat→Prop} {w w':World} {avl:List AV} {vs:Array Value} (hr:RS P ρ I w σ) (hs:Step ρ I w σ ρ' I' w' σ') (h:VL ρ σ I w avl vs):VL ρ' σ' I' w' avl vs :=
 ⟨h.1,fun j c hj=>hs.v hr (h.2 j c hj)⟩
theorem call_of_WD (hmx:P.follows .mixedOrders=true) {f:FuncId} {fn:Func} {c:Code} {args:List AV} {σ:ST} {K:Out→ST→Prop} (hint:Nat→Hint) (hf:P.funcs[f]? = some fn) (hb:fn.body=some c) (hwf:wfC fn.ntmps c=true) (hn:args.length≤fn.ntmps)
  (hh:WD P hint (prep c) (endA P fn.results.toList K) (endD P fn.results.toList K) (initFr args) σ):ACall P f args σ K:=by
 intro ρ I w vs hr hv
 refine calls_of_wp_defers hf hb ?_
 let a0:Act:={ tmps:=vs++Array.replicate (fn.ntmps - vs.size) undef,defers:=[] }
 have hat:At P ⟨ρ,I,w,σ,[]⟩ fn.ntmps (initFr args) σ ρ I a0 w:=by
  refine ⟨Step.refl _ _ _ _,hr,fun i=>?_,?_,rfl⟩
  ·rcases Nat.lt_or_ge i args.length with hlt | hge
   ·have:=hv.2 i _ (List.getElem?_eq_getElem hlt)
    have e1:initFr args i=args[i]:=by simp [initFr,List.getD_eq_getElem?_getD,hlt]
    have e2:a0.tmps.getD i undef=vs.getD i undef:=by
     have:i<vs.size:=by rw [← hv.1];exact hlt
     simp only [a0,Array.getD_eq_getD_getElem?]
     rw [Array.getElem?_append_left this]
    rw [e1,e2];exact this
   ·have e1:initFr args i=.any:=by simp [initFr,List.getD_eq_getElem?_getD,List.getElem?_eq_none hge]
    rw [e1];exact .any _
  ·have:=hv.1
   simp only [a0,Array.size_append,Array.size_replicate];omega
 refine wp_mono (WD_sound hmx (E:=⟨ρ,I,w,σ,[]⟩) rfl c hwf _ σ ρ I a0 w hat hh) ?_
 let R:Ending→World→Prop:=fun e w'=>∃ ρ' I' σ' oc,Step ρ I w σ ρ' I' w' σ'∧RS P ρ' I' w' σ' ∧
  (match e,oc with
   | .returned v,.ret a=>V ρ' σ' I' w' a v
   | .panicked ch,.panic a=>∃ v,ch=[{ v,recovered:=false }]∧V ρ' σ' I' w' a v
   | _,_=>False)∧K oc σ'
 have res:∀ {E:Env} {ρ':RHO} {I':Nat→Prop} {fr':FR} {σ':ST} {a':Act} {w':World},Step ρ I w σ ρ' I' w' σ'→RS P ρ' I' w' σ'→VF ρ' σ' I' w' fr' a'→outW P fr' σ' fn.results.toList (fun v=>K (.ret v) σ') →
   ∃ v,(results fn a'.tmps).run P w'=.ok v w'∧R (.returned v) w':=by
  intro E ρ' I' fr' σ' a' w' hs hr' hvf ho
  obtain ⟨v,u,h1,h2,hk⟩:=outW_sound (P:=P) hr' hvf ho
  exact ⟨u,h1,ρ',I',σ',.ret v,hs,hr',h2,hk⟩
 rintro e a' w' (⟨ρ',I',fr',σ',ae,hat',hex,hq⟩ | ⟨ρ1,I1,w1,σ1,g,gargs,cap,dargs,hs1,hr1,hvl,ρ',I',fr',σ',ae,hat',hex,hq⟩)
 ·have hd:a'.defers=[]:=hat'.defers
  cases e <;> cases ae <;> simp only [exitIs] at hex
  ·show Leaves P fn a'.tmps R a'.defers .returning w'
   rw [hd]
   exact res (E:=⟨ρ,I,w,σ,[]⟩) hat'.step hat'.rs hat'.vf hq
  ·exact hq.elim
  ·show Leaves P fn a'.tmps R a'.defers .returning w'
   rw [hd]
   exact res (E:=⟨ρ,I,w,σ,[]⟩) hat'.step hat'.rs hat'.vf hq
  ·rename_i ch x
   obtain ⟨v,rfl,hv'⟩:=hex
   show Leaves P fn a'.tmps R a'.defers (.panicking _) w'
   rw [hd]
   exact ⟨ρ',I',σ',.panic x,hat'.step,hat'.rs,⟨v,rfl,hv'⟩,hq⟩
 ·have hd:a'.defers=[{ target:=.fn (.func g) cap,args:=dargs }]:=hat'.defers
  have hs2:Step ρ I w σ ρ' I' w' σ':=hs1.trans hat'.step
  have hvl':VL ρ' σ' I' w' gargs (dargs++cap):=hvl.step hr1 hat'.step
  have ret:plainFn P g=true∧DCall P g gargs σ' none (fun _ σ''=>outW P fr' σ'' fn.results.toList fun v=>K (.ret v) σ'')→Leaves P fn a'.tmps R a'.defers .returning w':=by
   rintro ⟨hpl,hdc⟩
   rw [hd]
   refine leaves_cons (f:=g) (args:=dargs++cap) (by simp) (by simp only [invoke];exact run_callFunc hpl) ?_
   refine (hdc ρ' I' w' _ hat'.rs hvl' undef (fun x hx=>by cases hx)).mono ?_
   rintro e u' w'' ⟨ρ2,I2,σ2,b,k1,k2,rfl,rfl,k3⟩
   exact res (E:=⟨ρ,I,w,σ,[]⟩) (hs2.trans k1) k2 (hat'.vf.step hat'.rs k1) k3
  cases e <;> cases ae <;> simp only [exitIs] at hex
  ·exact ret hq
  ·exact hq.elim
  ·exact ret hq
  ·rename_i ch x
   obtain ⟨v,rfl,hv'⟩:=hex
   obtain ⟨hpl,hdc⟩:=hq
   show Leaves P fn a'.tmps R a'.defers (.panicking _) w'
   rw [hd]
   refine leaves_cons (f:=g) (args:=dargs++cap) (by simp) (by simp only [invoke];exact run_callFunc hpl) ?_
   refine (hdc ρ' I' w' _ hat'.rs hvl' v (fun y hy=>by cases hy;exact hv')).mono ?_
   rintro e u' w'' ⟨ρ2,I2,σ2,b,k1,k2,rfl,rfl,k3⟩
   cases b
   ·exact ⟨ρ2,I2,σ2,.panic x,hs2.trans k1,k2,⟨v,rfl,k1.v hat'.rs hv'⟩,k3⟩
   ·exact res (E:=⟨ρ,I,w,σ,[]⟩) (hs2.trans k1) k2 (hat'.vf.step hat'.rs k1) k3
def recAt:PC→Option (Nat × Nat)
 | .region [⟨some d1,.call ⟨.builtin .recover,args,_⟩,_,none⟩,⟨some d2,.assign (.tmp d),_,none⟩]=>bif Nat.beq d d1 && args.isEmpty then some (d1,d2) else none
 | _=>none
theorem recAt_some {p:PC} {d1 d2:Nat} (h:recAt p=some (d1,d2)) :
  ∃ t0 t1 ts,p=.region [⟨some d1,.call ⟨.builtin .recover,#[],ts⟩,t0,none⟩,⟨some d2,.assign (.tmp d1),t1,none⟩]:=by
 unfold recAt at h
 split at h
 ·rename_i e1 args ts t0 e2 d t1
  cases hb:(Nat.beq d e1 && args.isEmpty)
  ·rw [hb] at h;cases h
  ·rw [hb] at h
   simp only [cond_true,Option.some.injEq,Prod.mk.injEq] at h
   obtain ⟨rfl,rfl⟩:=h
   simp only [Bool.and_eq_true] at hb
   obtain rfl:=Nat.eq_of_beq_eq_true hb.1
   have:args=#[]:=by simpa using hb.2
   subst this
   exact ⟨t0,t1,ts,rfl⟩
 ·cases h
def recV:Option AV→AV
 | none=>.d .niliface
 | some x=>x
def endR (K:ST→Prop):Post
 | .normal,_,σ=>K σ
 | .ret,_,σ=>K σ
 | _,_,_=>False
theorem DCall_of (hmx:P.follows .mixedOrders=true) {g:FuncId} {fn:Func} {x y:Code} {args:List AV} {σ:ST} {pv:Option AV} {K:Bool→ST→Prop} {d1 d2:Nat} (hint:Nat→Hint)
  (hf:P.funcs[g]? = some fn) (hb:fn.body=some (.seq x y)) (hwf:wfC fn.ntmps (.seq x y)=true) (hn:args.length≤fn.ntmps) (hres:fn.results=#[]) (hrec:recAt (prep x)=some (d1,d2))
  (hh:W P hint (prep y) (endR (K pv.isSome)) (put (put (initFr args) (some d1) (recV pv)) (some d2) (recV pv)) σ):DCall P g args σ pv K:=by
 intro ρ I w vs hr hv v hpv
 obtain ⟨t0,t1,ts,hp⟩:=recAt_some hrec
 obtain ⟨id,ops,rfl,hp2⟩:=prep_region hp
 clear hp hrec
 obtain ⟨o0,o1,hops⟩:∃ o0 o1,ops.toList=[o0,o1]:=by
  refine two_list ?_
  have hl:=congrArg List.length hp2
  rw [List.length_map] at hl
  exact hl
 rw [hops] at hp2
 simp only [List.map_cons,List.map_nil,List.cons.injEq,and_true] at hp2
 obtain ⟨h0,h1⟩:=hp2
 simp only [prepOp,POp.mk.injEq] at h0 h1
 obtain ⟨e0,op0,_,g0⟩:=h0
 obtain ⟨e1,op1,_,g1⟩:=h1
 have gn0:o0.guard=none:=by cases hg:o0.guard with | none=>rfl | some gb=>rw [hg] at g0;simp at g0
 have gn1:o1.guard=none:=by cases hg:o1.guard with | none=>rfl | some gb=>rw [hg] at g1;simp at g1
 simp only [wfC,hops,List.all_cons,List.all_nil,Bool.and_true,Bool.and_eq_true,wfOp] at hwf
 obtain ⟨⟨⟨hw0,_⟩,⟨hw1,_⟩⟩,hwy⟩:=hwf
 let a0:Act:={ tmps:=vs++Array.replicate (fn.ntmps - vs.size) undef,defers:=[] }
 have hat:At P ⟨ρ,I,w,σ,[]⟩ fn.ntmps (initFr args) σ ρ I a0 w:=by
  refine ⟨Step.refl _ _ _ _,hr,fun i=>?_,?_,rfl⟩
  ·rcases Nat.lt_or_ge i args.length with hlt | hge
   ·have:=hv.2 i _ (List.getElem?_eq_getElem hlt)
    have e1:initFr args i=args[i]:=by simp [initFr,List.getD_eq_getElem?_getD,hlt]
    have e2:a0.tmps.getD i undef=vs.getD i undef:=by
     have:i<vs.size:=by rw [← hv.1];exact hlt
     simp only [a0,Array.getD_eq_getD_getElem?]
     rw [Array.getElem?_append_left this]
    rw [e1,e2];exact this
   ·have e1:initFr args i=.any:=by simp [initFr,List.getD_eq_getElem?_getD,List.getElem?_eq_none hge]
    rw [e1];exact .any _
  ·have:=hv.1
   simp only [a0,Array.size_append,Array.size_replicate];omega
 refine callsD_of_wpS hf hb fun c₀ cs hmode=>?_
 refine wpS_seq (wpS_region ?_)
 have hopsA:ops=#[o0,o1]:=by rw [← Array.toArray_toList (xs:=ops),hops]
 have hsz:ops.size=2:=by rw [hopsA];rfl
 have q0:ops[0]? = some o0:=by rw [hopsA];rfl
 have q1:ops[1]? = some o1:=by rw [hopsA];rfl
 have r0:∀ (a:Act) (w:World),(execOp a.eval o0).run P w=.ok .recover w:=by
  intro a w
  simp [execOp,op0,resolve,invoke,builtin]
 have go:∀ (u:Value) (cs':List Frame) (b:Bool),V ρ σ I w (recV pv) u→cs'={ c₀ with mode:=dmode v (pv.map fun _=>b) }::cs→b=pv.isSome →
   wpOpsS P ops (Exit.thenS (y.wpS P (bodyPostS P fn c₀ cs fun e u' w'=>∃ ρ' I' σ' b,Step ρ I w σ ρ' I' w' σ'∧RS P ρ' I' w' σ'∧e=.returned (.tuple #[])∧u'=dmode v (pv.map fun _=>b)∧K b σ'))
    (bodyPostS P fn c₀ cs fun e u' w'=>∃ ρ' I' σ' b,Step ρ I w σ ρ' I' w' σ'∧RS P ρ' I' w' σ'∧e=.returned (.tuple #[])∧u'=dmode v (pv.map fun _=>b)∧K b σ')) [1] (a0.put o0.dst u) cs' w:=by
  intro u cs' b hu hcs hbb
  have hdl:wfDst a0.tmps.size (some d1)=true:=by rw [hat.size,← e0];exact hw0
  have hget:(a0.put o0.dst u).eval (.tmp d1)=u:=by
   have hlt:d1<a0.tmps.size:=by simpa [wfDst] using hdl
   show (a0.put o0.dst u).tmps.getD d1 undef=u
   rw [e0]
   simp only [Act.put]
   rw [getD_set_arr _ _ _ _ hlt,if_pos rfl]
  have r1:(execOp (a0.put o0.dst u).eval o1).run P w=.ok (.value u) w:=by
   simp only [execOp,op1,hget,Sem.run_pure]
  have w1:Region.wanted o1 (yielded ops (a0.put o0.dst u).tmps)=true:=by simp [Region.wanted,gn1]
  unfold wpOpsS
  simp only [q1,w1,if_true,r1,Oper.upon_value]
  unfold wpOpsS
  show y.wpS P _ ((a0.put o0.dst u).put o1.dst u) cs' w
  have hat2:At P ⟨ρ,I,w,σ,[]⟩ fn.ntmps (put (put (initFr args) (some d1) (recV pv)) (some d2) (recV pv)) σ ρ I ((a0.put o0.dst u).put o1.dst u) w:=by
   rw [e0,e1]
   have hs1:(a0.put (some d1) u).tmps.size=fn.ntmps:=by rw [put_size];exact hat.size
   refine ⟨hat.step,hat.rs,(hat.vf.put hu hdl).put hu (by rw [hs1,← e1];exact hw1),?_,?_⟩
   ·rw [put_size,hs1]
   ·rw [put_defers,put_defers]
  refine wpS_of_wp (wp_mono (W_sound (E:=⟨ρ,I,w,σ,[]⟩) (Q:=endR (K pv.isSome)) hmx y _ hwy _ σ ρ I _ w hat2 hh) ?_)
  rintro e a' w' ⟨ρ',I',fr',σ',ae,hat',hex,hq⟩
  have fin:K pv.isSome σ'→a'.defers=[]∧∃ u',cs'={ c₀ with mode:=u' }::cs∧∃ z,(results fn a'.tmps).run P w'=.ok z w' ∧
    ∃ ρ' I' σ' b,Step ρ I w σ ρ' I' w' σ'∧RS P ρ' I' w' σ'∧Ending.returned z=.returned (.tuple #[])∧u'=dmode v (pv.map fun _=>b)∧K b σ':=by
   intro hk
   refine ⟨hat'.defers,_,hcs,.tuple #[],results_none hres a'.tmps P w',ρ',I',σ',b,hat'.step,hat'.rs,rfl,rfl,by rw [hbb];exact hk⟩
  cases e <;> cases ae <;> simp only [exitIs] at hex
  ·exact fin hq
  ·exact hq.elim
  ·exact fin hq
  ·exact hq.elim
 rw [hsz]
 show wpOpsS P ops _ [0,1] a0 (c₀::cs) w
 unfold wpOpsS
 have w0:Region.wanted o0 (yielded ops a0.tmps)=true:=by simp [Region.wanted,gn0]
 simp only [q0,w0,if_true,r0]
 cases pv with
 | none =>
  have hm:recoverD (c₀::cs)=none:=by
   simp only [recoverD,hmode,dmode,Option.map_none]
  rw [hm]
  exact go .nilIface (c₀::cs) false (.d .niliface) (by simp only [Option.map_none,dmode];rw [← show c₀.mode=.returning from hmode]) rfl
 | some x =>
  have hm:recoverD (c₀::cs)=some (v,{ c₀ with mode:=.panicking [{ v,recovered:=true }] }::cs):=by
   simp only [recoverD,hmode,dmode,Option.map_some]
  rw [hm]
  exact go v _ true (hpv x rfl) rfl rfl
end
end Nv
/- A view of functions that defer a closure,for walks. -/


set_option linter.unusedVariables false
set_option linter.unusedSimpArgs false
namespace Nv
open Go
def wWD (P:Program) (h:Nat→Hint) (c:PC) (Q1:Post) (Q2:FuncId→List AV→Post) (t:Tk c) (q1:Tk Q1) (q2:Tk Q2) (fr:FR) (σ:ST):Prop:=WD P h c Q1 Q2 fr σ
section
variable {P:Program} {h:Nat→Hint} {Q1:Post} {Q2:FuncId→List AV→Post} {fr:FR} {σ:ST}
theorem wWD_none {a b:PC} {t:Tk (PC.seq a b)} {q1:Tk Q1} {q2:Tk Q2} (hd:deferAt a=none) (hh:wW P h a (thenA (fun fr σ=>wWD P h b Q1 Q2 ⟨⟩ ⟨⟩ ⟨⟩ fr σ) Q1) ⟨⟩ ⟨⟩ fr σ):wWD P h (.seq a b) Q1 Q2 t q1 q2 fr σ:=by
 unfold wWD WD
 rw [hd]
 unfold wW at hh
 exact hh
theorem wWD_some {a b:PC} {d:Nat} {g:FuncId} {first cap:List Operand} {t:Tk (PC.seq a b)} {q1:Tk Q1} {q2:Tk Q2} (hd:deferAt a=some (d,g,first,cap))
  (hh:wW P h b (Q2 g (first.map (aeval fr)++cap.map (aeval fr))) ⟨⟩ ⟨⟩ (put fr (some d) (.func (.func g) (first.map (aeval fr)) (cap.map (aeval fr)))) σ):wWD P h (.seq a b) Q1 Q2 t q1 q2 fr σ:=by
 unfold wWD WD
 rw [hd]
 unfold wW at hh
 exact hh
theorem FnIs.goD {f np:Nat} {rs:List ResultVar} {pc:PC} {K:Out→ST→Prop} (hf:FnIs P f np rs pc) (hint:Nat→Hint) {args:List AV} (hn:args.length≤np)
  (hh:wWD P hint pc (endA P rs K) (endD P rs K) ⟨⟩ ⟨⟩ ⟨⟩ (initFr args) σ):ACall P f args σ K:=by
 obtain ⟨fn,h1,h2,h3,h4,h5⟩:=hf.is
 unfold wfF at h3
 unfold pcOf at h2
 cases hb:fn.body with
 | none=>rw [hb] at h3;cases h3
 | some c =>
  rw [hb] at h3 h2
  subst h2 h4
  exact call_of_WD hf.mx hint h1 hb h3 (Nat.le_trans hn h5) hh
def DEnd (P:Program) (rs:List ResultVar) (K:Out→ST→Prop) (g:FuncId) (args:List AV) (pv:Option AV) (fr:FR) (σ:ST):Prop :=
 plainFn P g=true∧DCall P g args σ pv fun b σ'=>match pv with
  | none=>outW P fr σ' rs fun v=>K (.ret v) σ'
  | some x=>bif b then outW P fr σ' rs (fun v=>K (.ret v) σ') else K (.panic x) σ'
variable {K:Out→ST→Prop} {rs:List ResultVar} {g:FuncId} {args:List AV}
@[go_sem] theorem wQ_endD_ret {t:Tk (endD P rs K g args)}:wQ (endD P rs K g args) t .ret fr σ=DEnd P rs K g args none fr σ:=by unfold wQ;rfl
@[go_sem] theorem wQ_endD_panic (x:AV) {t:Tk (endD P rs K g args)}:wQ (endD P rs K g args) t (.panic x) fr σ=DEnd P rs K g args (some x) fr σ:=by unfold wQ;rfl
variable {K1:ST→Prop}
@[go_sem] theorem wQ_endR_normal {t:Tk (endR K1)}:wQ (endR K1) t .normal fr σ=K1 σ:=by unfold wQ;rfl
theorem prep_seq {c:Code} {a b:PC} (h:prep c=.seq a b):∃ x y,c=.seq x y∧prep x=a∧prep y=b:=by
 cases c with
 | seq x y=>simp only [prep,PC.seq.injEq] at h;exact ⟨x,y,rfl,h.1,h.2⟩
 | region id ops o=>cases o <;> simp [prep] at h
 | _=>simp [prep] at h
theorem FnIs.dcall {np:Nat} {a b:PC} (hf:FnIs P g np [] (.seq a b)) (hint:Nat→Hint) {pv:Option AV} {K:Bool→ST→Prop} {d1 d2:Nat} (hn:args.length≤np) (hrec:recAt a=some (d1,d2))
  (hh:wW P hint b (endR (K pv.isSome)) ⟨⟩ ⟨⟩ (put (put (initFr args) (some d1) (recV pv)) (some d2) (recV pv)) σ):DCall P g args σ pv K:=by
 obtain ⟨fn,h1,h2,h3,h4,h5⟩:=hf.is
 unfold wfF at h3
 unfold pcOf at h2
 cases hb:fn.body with
 | none=>rw [hb] at h3;cases h3
 | some c =>
  rw [hb] at h3 h2
  obtain ⟨x,y,rfl,rfl,rfl⟩:=prep_seq h2
  have hres:fn.results=#[]:=by
   have:=h4
   cases hr:fn.results with
   | mk l=>rw [hr] at this;simp at this;rw [this]
  unfold wW at hh
  exact DCall_of hf.mx hint h1 hb h3 (Nat.le_trans hn h5) hres hrec hh
@[go_sem] theorem outW_cc (t ty u uy:Nat) (Ka:AV→Prop):outW P fr σ [.cell t ty,.cell u uy] Ka=cellW P ty (fr t) σ (fun v=>cellW P uy (fr u) σ fun v'=>Ka (.tuple [v,v'])):=nrfl rfl
@[go_sem] theorem recV_none:recV none=.d .niliface:=nrfl rfl
@[go_sem] theorem recV_some (x:AV):recV (some x)=x:=nrfl rfl
end
attribute [irreducible] wWD
end Nv
set_option linter.unusedVariables false
set_option linter.unusedSimpArgs false
set_option maxRecDepth 100000
namespace Go.Proofs.YtfnddhbiolpmgaaGreatDoor
open Go Nv Pat
/- Parse as a whole. -/
theorem V.wkt {ρ:RHO} {σ:Nv.ST} {I:Nat→Prop} {w:World} {a b c:AV} {v:Value} (h:WkB a b) (hv:V ρ σ I w (.tuple [a,c]) v):V ρ σ I w (.tuple [b,c]) v:=by
 cases hv with
 | tuple h1 h2 =>
  refine .tuple (by simpa using h1) fun j x hj=>?_
  match j,hj with
  | 0,hj=>simp at hj;subst hj;exact (h2 0 _ rfl).wkb h
  | 1,hj=>simp at hj;subst hj;exact h2 1 _ rfl
  | j+2,hj=>simp at hj
theorem ACall.wkt {f:FuncId} {args:List AV} {σ:Nv.ST} {b c:AV} (h:ACall Tryz.prog f args σ fun oc _=>∃ a,oc=.ret (.tuple [a,c])∧WkB a b):ACall Tryz.prog f args σ fun oc _=>oc=.ret (.tuple [b,c]):=by
 intro ρ I w vs hr hv
 refine (h ρ I w vs hr hv).mono ?_
 rintro e w' ⟨ρ',I',σ',oc,h1,h2,h3,a,rfl,hw⟩
 cases e <;> simp only at h3
 exact ⟨ρ',I',σ',.ret (.tuple [b,c]),h1,h2,Go.Proofs.YtfnddhbiolpmgaaGreatDoor.V.wkt hw h3,rfl⟩
def charsOf (s:List UInt8):List Int:=(Nv.runesD s).map fun x=>match x with | .int _ n=>n | _=>0
theorem charsOf_enc {l:List Int} (h:Chars l):charsOf (encS l)=l:=by
 rw [charsOf,runes_enc h,List.map_map]
 conv=>rhs;rw [← List.map_id l]
 rfl
def zeroT:Tree:=.mk 0 [] [] 0 0
def parseM (s:List UInt8):Tree × Int :=
 if 60<s.length then (zeroT,5) else if Lib.validD s=false then (zeroT,3)
 else match parseC sortR (charsOf s) with
  | some n=>(n,0)
  | none=>(zeroT,3)
theorem wk_zero:WkB (.agg [.d (.int .i64 0),.d .nilslice,.d .nilslice,.d (.int .i64 0),.d (.int .i64 0)]) (nodeA zeroT) :=
 wkB5 (.d (.refl _)) (.d (.nil 2)) (.d (.nil 5)) (.d (.refl _)) (.d (.refl _))
def hintP1:Nat→Hint:=fun i=>if i=15 then .freeze else .no
@[go_sem] theorem hintP1_at (i:Nat):hintP1 i=if i=15 then .freeze else .no:=nrfl rfl
theorem dcall_none (σ:Nv.ST) (K:Bool→Nv.ST→Prop) (h:K false σ):DCall Tryz.prog 26 [.ptr 0 0,.ptr 1 0] σ none K:=by
 refine FnIs.dcall fn26 noHint (Nat.le_refl _) (d1:=5) (d2:=2) rfl ?_
 simp (disch:=omega) only [go_sem]
 exact h
theorem dcall_bad (a b c d e:AV) (x:AV) (rest:Nv.ST) (K:Bool→Nv.ST→Prop)
  (h:∀ τ,K true (.box 39 [.d (.int .i64 0),.d .nilslice,.d .nilslice,.d (.int .i64 0),.d (.int .i64 0)]::.box 29 [.d (.int .i64 3)]::τ)) :
  DCall Tryz.prog 26 [.ptr 0 0,.ptr 1 0] (.box 39 [a,b,c,d,e]::.box 29 [x]::rest) (some badV) K:=by
 refine FnIs.dcall fn26 noHint (Nat.le_refl _) (d1:=5) (d2:=2) rfl ?_
 simp (disch:=omega) only [go_sem,badV,rAssert,isIf]
 exact ⟨by kernel_rfl,h _⟩
theorem parse14 (s:List UInt8) (hs:s.length≤140737488355328):PCall Tryz.prog 18 [.d (.str s)] (.tuple [nodeA (parseM s).1,.d (.int .i64 (parseM s).2)]):=by
 refine PCall.of_nil (by simp only [go_sem]) (by simp only [go_sem,nodeA,nodeF,setD]) ?_
 refine Go.Proofs.YtfnddhbiolpmgaaGreatDoor.ACall.wkt ?_
 refine fn18.goD hintP1 (Nat.le_refl _) ?_
 refine wWD_none rfl ?_
 simp (disch:=omega) only [go_sem]
 refine wWD_none rfl ?_
 by_cases h60:(60:Int)<s.length
 ·have e:parseM s=(zeroT,5):=by rw [parseM,if_pos (by omega)]
  simp (disch:=omega) only [go_sem,h60,e]
  exact ⟨_,rfl,wk_zero⟩
 simp (disch:=omega) only [go_sem,h60]
 refine wWD_none rfl ?_
 simp (disch:=omega) only [go_sem]
 refine (validU s (by omega)).at ?_
 cases hv:Lib.validD s
 ·have e:parseM s=(zeroT,3):=by rw [parseM,if_neg (by omega),if_pos hv]
  simp (disch:=omega) only [go_sem,e]
  exact ⟨_,rfl,wk_zero⟩
 simp (disch:=omega) only [go_sem]
 refine wWD_some rfl ?_
 obtain ⟨l,hl,rfl⟩:=valid_as hv
 have hll:l.length≤60:=by have:=len_enc l;omega
 have hta:=take_all (l.map (DV.int .i32)) l.length (by simp)
 have hrun:=runes_enc hl
 have hb1:(encS l).length≤70368744177664:=by omega
 have hm:parseM (encS l)=(match parseC sortR l with | some n=>(n,0) | none=>(zeroT,3)):=by
  rw [parseM,if_neg (by omega),if_neg (by rw [hv];simp),charsOf_enc hl]
 simp (disch:=omega) only [go_sem,hrun,hb1,List.length_map,hta,Nat.zero_add,Nat.le_refl]
 refine (choices (l.length+1) l l (by omega) hl (by omega)).at [_,_,_] [] [] rfl ?_ ?_
 ·intro v r' u' τ ho e'
  cases hch:chP sortR (l.length+1) l with
  | none=>rw [hch] at ho;cases ho
  | some y =>
   obtain ⟨n,r1⟩:=y
   rw [hch] at ho
   simp only [Option.map_some,Option.some.injEq,Prod.mk.injEq] at ho
   obtain ⟨rfl,rfl⟩:=ho
   have hna:nodeA n=.agg [.d (.int .i64 n.kind),.d (setD n.set),.d (.list 5 (n.sub.map nodeD)),.d (.int .i64 n.min),.d (.int .i64 n.max)]:=rfl
   simp (disch:=omega) only [go_sem,hna,apR]
   refine (peekL l u' r1 e' (by omega) [_,_,_] τ).at ?_
   cases r1 with
   | nil =>
    have e:parseM (encS l)=(n,0):=by rw [hm,parseC,hch]
    have hn0:¬ (0:Int)≤-1:=by omega
    rw [e]
    simp (disch:=omega) only [go_sem,List.headD_nil,hn0,boxP]
    refine ⟨by kernel_rfl,dcall_none _ _ ?_⟩
    simp (disch:=omega) only [go_sem]
    exact ⟨_,rfl,wkB5 (.d (.refl _)) (.d (.refl _)) (.d (.refl _)) (.d (.refl _)) (.d (.refl _))⟩
   | cons c t =>
    have e:parseM (encS l)=(zeroT,3):=by rw [hm,parseC,hch]
    have hc0:0≤c:=hl.nonneg c (by rw [e'];simp)
    rw [e]
    simp (disch:=omega) only [go_sem,List.headD_cons,hc0,boxP]
    refine ⟨by kernel_rfl,dcall_bad _ _ _ _ _ _ _ _ fun τ=>?_⟩
    simp (disch:=omega) only [go_sem]
    exact ⟨_,rfl,wk_zero⟩
 ·intro ho τ
  have e:parseM (encS l)=(zeroT,3):=by
   rw [hm,parseC]
   cases hch:chP sortR (l.length+1) l with
   | none=>rfl
   | some y=>rw [hch] at ho;cases ho
  rw [e]
  simp (disch:=omega) only [go_sem,apR]
  refine ⟨by kernel_rfl,dcall_bad _ _ _ _ _ _ _ _ fun τ=>?_⟩
  simp (disch:=omega) only [go_sem]
  exact ⟨_,rfl,wk_zero⟩
end Go.Proofs.YtfnddhbiolpmgaaGreatDoor
set_option linter.unusedVariables false
set_option linter.unusedSimpArgs false
set_option maxRecDepth 100000
namespace Go.Proofs.YtfnddhbiolpmgaaGreatDoor
open Go Go.RowKit Nv Pat
/- The helpers of the law: letters,plain glyphs,lists of spans. -/
def let1 (b:UInt8):UInt8:=UInt8.ofNat (97+b.toNat % 3)
def lets (l:List UInt8):List UInt8:=l.map let1
theorem let1_nat (b:UInt8):(let1 b).toNat=97+b.toNat % 3:=by
 unfold let1
 simp [UInt8.toNat_ofNat]
 omega
def txtD (l:List UInt8):DV:=.list 1 (l.map fun b=>DV.int .u8 (bt b))
theorem txt_get (l:List UInt8) (i:Nat) (h:i<l.length):(l.map fun b=>DV.int .u8 (bt b)).getD i default=.int .u8 (bt (l.getD i 0)):=by simp [List.getD_eq_getElem?_getD,h]
def gly (b:UInt8):DV:=.agg [.str [b],.bool false,.int .i64 0]
def glyD (s:List UInt8):DV:=.list 3 (s.map gly)
def spanV (x:Nat × Nat):DV:=.agg [.int .i64 x.1,.int .i64 x.2]
def spanD (l:List (Nat × Nat)):DV:=.list 2 (l.map spanV)
def bytesV (s:List UInt8):List DV:=s.map fun b=>DV.int .u8 (bt b)
theorem bytes_of (s:List UInt8):bytesOf (bytesV s)=some s:=by
 induction s with
 | nil=>rfl
 | cons b s ih =>
  have:=b.toNat_lt
  show bytesOf (.int .u8 (bt b)::bytesV s)=_
  unfold bytesOf
  rw [decide_eq_true (show 0≤bt b by unfold bt;omega),decide_eq_true (show bt b<256 by unfold bt;omega),ih]
  simp [bt]
theorem index6 (s t:List UInt8) (hs:s.length<4294967281):PCall Tryz.prog 6 [.d (.str s),.d (.str t)] (.d (.int .i64 (Lib.index s t))) :=
 .of_callsT rfl rfl fun w I hT=>by
  have hm:∃ m,w.cell? ⟨Tryz.laysm144_ren.g 1,0,none⟩=some (.int .i64 m) :=
   hT.cell (g:=Tryz.laysm144_ren.g 1) (of_decide_eq_true (by kernel_rfl)) (Q:=fun v=>∃ m,v=some (.int .i64 m)) fun w0 h=>Tryz.laysm144.s1_3 w0 h
  obtain ⟨m,hm⟩:=hm
  exact (Go.Proofs.Any.strings_Index { Tryz.laysm144 with } ⟨s.toArray⟩ ⟨t.toArray⟩ m w (by simpa [ByteArray.size] using hs) hm).mono fun e w' ⟨h1,h2⟩=>⟨h1,h2 ▸ Below.refl _ _⟩
theorem bytesV_len (s:List UInt8):(bytesV s).length=s.length:=by simp [bytesV]
theorem lets_len (s:List UInt8):(lets s).length=s.length:=by simp [lets]
theorem let1_wrap (b:UInt8):IntKind.u8.wrap (97+(bt b).tmod 3)=bt (let1 b):=by
 have h:=let1_nat b
 have hb:=b.toNat_lt
 have e:(97+(bt b).tmod 3)=bt (let1 b):=by
  unfold bt
  rw [h,Int.tmod_eq_emod_of_nonneg (by omega)];omega
 rw [e]
 exact wrap_u8 (by unfold bt;omega) (by unfold bt;omega)
theorem letters5 (l:List UInt8) (hl:l.length≤1000):PCall Tryz.prog 5 [.d (txtD l)] (.d (.str (lets l))):=by
 refine fn5.pure noHint (Nat.le_refl _) (by simp only [go_sem,txtD]) (by simp only [go_sem]) ?_
 have hll:(l.map fun b=>DV.int .u8 (bt b)).length=l.length:=by simp
 simp (disch:=omega) only [go_sem,txtD]
 refine wL_ind (fun (i:Nat) fr σ=>i≤l.length∧fr 7=.d (txtD l)∧fr 8=.d (.int .i64 l.length)∧fr 9=.d (.int .i64 i)∧∃ g τ,fr 3=.own 0 g 0 i∧σ=.arr g ⟨1,5⟩ (bytesV (lets (l.take i)))::τ) (fun i=>l.length - i) ?_ 0 ?_
 ·rintro i fr σ ⟨hi,f7,f8,f9,g,τ,f3,rfl⟩ ih
  by_cases hlt:i<l.length
  ·have hgt:=txt_get l i hlt
   have hbl:(bytesV (lets (l.take i))).length=i:=by rw [bytesV_len,lets_len,List.length_take];omega
   have htk:List.take i (bytesV (lets (l.take i)))=bytesV (lets (l.take i)):=List.take_of_length_le (by omega)
   have hwr:=let1_wrap (l.getD i 0)
   have hcap:(i+1) * 1≤140737488355328:=by omega
   simp (disch:=omega) only [go_sem,f7,f8,f9,f3,hlt,txtD,hll,hgt,hbl,htk,Nat.zero_add,Nat.le_refl,hwr,hcap]
   refine ih (i+1) _ _ (by omega) ⟨by omega,?_,?_,?_,g+1,τ++[Blk.arr 0 ⟨1,5⟩ [.int .u8 (bt (let1 (l.getD i 0)))]],?_,?_⟩
   ·simp (disch:=omega) only [go_sem,f7,txtD]
   ·simp (disch:=omega) only [go_sem,f8]
   ·simp (disch:=omega) only [go_sem]
   ·simp (disch:=omega) only [go_sem]
   ·rw [take_succ' l i hlt];simp [lets,bytesV];rfl
  ·have hie:i=l.length:=by omega
   subst hie
   have hbl:(bytesV (lets (l.take l.length))).length=l.length:=by rw [bytesV_len,lets_len,List.length_take];omega
   have htk:List.take l.length (bytesV (lets (l.take l.length)))=bytesV (lets l):=by rw [List.take_length];exact List.take_of_length_le (by rw [bytesV_len,lets_len];omega)
   have hby:=bytes_of (lets l)
   simp (disch:=omega) only [go_sem,f7,f8,f9,f3,hbl,htk,hby,Nat.zero_add,Nat.le_refl]
 ·refine ⟨by omega,?_,?_,?_,0,[],?_,?_⟩
  ·simp (disch:=omega) only [go_sem,txtD]
  ·simp (disch:=omega) only [go_sem]
  ·simp (disch:=omega) only [go_sem]
  ·simp (disch:=omega) only [go_sem]
  ·rfl
theorem plain8 (s:List UInt8) (hs:s.length≤1000):PCall Tryz.prog 8 [.d (.str s)] (.d (glyD s)):=by
 refine fn8.pure (fun i=>if i=21 then .freeze else .no) (Nat.le_refl _) (by simp only [go_sem]) (by simp only [go_sem,glyD]) ?_
 simp (disch:=omega) only [go_sem]
 refine wL_ind (fun (i:Nat) fr σ=>i≤s.length∧fr 0=.d (.str s)∧fr 7=.d (.int .i64 s.length)∧fr 8=.d (.int .i64 i)∧∃ g τ,fr 3=.own 0 g 0 i∧σ=.arr g ⟨3,53⟩ ((s.take i).map gly)::τ) (fun i=>s.length - i) ?_ 0 ?_
 ·rintro i fr σ ⟨hi,f0,f7,f8,g,τ,f3,rfl⟩ ih
  by_cases hlt:i<s.length
  ·have hbl:((s.take i).map gly).length=i:=by rw [List.length_map,List.length_take];omega
   have htk:List.take i ((s.take i).map gly)=(s.take i).map gly:=List.take_of_length_le (by omega)
   have hcap:(i+1) * 32≤140737488355328:=by omega
   have hone:List.drop i (List.take (i+1) s)=[s.getD i 0]:=by
    rw [take_succ' s i hlt,List.drop_append,List.drop_of_length_le (by rw [List.length_take];omega),List.length_take,Nat.min_eq_left (by omega),Nat.sub_self];rfl
   have e1:i+1 - i=1:=by omega
   simp (disch:=omega) only [go_sem,f0,f7,f8,f3,hlt,hbl,htk,hcap,Nat.zero_add,Nat.le_refl,e1,hone]
   refine ⟨by omega,?_⟩
   refine ih (i+1) _ _ (by omega) ⟨by omega,?_,?_,?_,g+1,τ++[Blk.arr 0 ⟨3,53⟩ [gly (s.getD i 0)]],?_,?_⟩
   ·simp (disch:=omega) only [go_sem,f0]
   ·simp (disch:=omega) only [go_sem,f7]
   ·simp (disch:=omega) only [go_sem]
   ·simp (disch:=omega) only [go_sem]
   ·rw [take_succ' s i hlt,List.map_append];rfl
  ·have hie:i=s.length:=by omega
   subst hie
   have hbl:((s.take s.length).map gly).length=s.length:=by simp
   have htk:List.take s.length ((s.take s.length).map gly)=s.map gly:=by rw [List.take_length];exact List.take_of_length_le (by simp)
   simp (disch:=omega) only [go_sem,f0,f7,f8,f3,hbl,htk,Nat.zero_add,Nat.le_refl,List.drop_zero,glyD]
 ·refine ⟨by omega,?_,?_,?_,0,[],?_,?_⟩
  ·simp (disch:=omega) only [go_sem]
  ·simp (disch:=omega) only [go_sem]
  ·simp (disch:=omega) only [go_sem]
  ·simp (disch:=omega) only [go_sem]
  ·rfl
theorem same9 (l:List (Nat × Nat)) (hl:l.length≤1000):PCall Tryz.prog 9 [.d (spanD l),.d (spanD l)] (.d (.bool true)):=by
 refine fn9.pure noHint (Nat.le_refl _) (by simp only [go_sem,spanD]) (by simp only [go_sem]) ?_
 have hll:(l.map spanV).length=l.length:=by simp
 simp (disch:=omega) only [go_sem,spanD,hll]
 refine wL_ind (fun (i:Nat) fr σ=>i≤l.length∧fr 0=.d (spanD l)∧fr 1=.d (spanD l)∧fr 5=.d (.int .i64 i)) (fun i=>l.length - i) ?_ 0 ?_
 ·rintro i fr σ ⟨hi,f0,f1,f5⟩ ih
  by_cases hlt:i<l.length
  ·have hgt:(l.map spanV).getD i default=spanV (l.getD i (0,0)):=by simp [List.getD_eq_getElem?_getD,hlt]
   simp (disch:=omega) only [go_sem,f0,f1,f5,hlt,spanD,hll,hgt,spanV]
   refine ih (i+1) _ _ (by omega) ⟨by omega,?_,?_,?_⟩
   ·simp (disch:=omega) only [go_sem,f0,spanD]
   ·simp (disch:=omega) only [go_sem,f1,spanD]
   ·simp (disch:=omega) only [go_sem]
  ·have hie:i=l.length:=by omega
   subst hie
   simp (disch:=omega) only [go_sem,f0,f1,f5,spanD,hll]
 ·refine ⟨by omega,?_,?_,?_⟩
  ·simp (disch:=omega) only [go_sem,spanD]
  ·simp (disch:=omega) only [go_sem,spanD]
  ·simp (disch:=omega) only [go_sem]
end Go.Proofs.YtfnddhbiolpmgaaGreatDoor
set_option linter.unusedVariables false
set_option linter.unusedSimpArgs false
set_option maxRecDepth 100000
namespace Go.Proofs.YtfnddhbiolpmgaaGreatDoor
open Go Nv Pat
/- The characters of two texts one after the other. -/
def Closed (a:List UInt8):Prop:=(decM a).q.missing=0
theorem chars_closed {a:List UInt8} (ha:Closed a):charsM a=(decM a).out:=by
 have e:restM a=[]:=if_pos ha
 rw [charsM,e];simp [show finM []=[] from rfl]
end Go.Proofs.YtfnddhbiolpmgaaGreatDoor
set_option linter.unusedVariables false
set_option linter.unusedSimpArgs false
set_option maxRecDepth 100000
namespace Go.Proofs.YtfnddhbiolpmgaaGreatDoor
open Go Nv Pat
/- The longest match at the beginning of a row of plain glyphs. -/
theorem asc_one (b:UInt8) (h:b.toNat<128):Closed [b]∧charsM [b]=[bt b]:=by
 have h2:¬ goesOn dec0.q (bt b):=fun g=>by have:=g.1;simp [dec0] at this
 have hb:(bt b)<128:=by unfold bt;omega
 have hq:beginM (bt b)=⟨0,0,128,191⟩:=by
  unfold beginM
  rw [if_neg (by omega),if_neg (by omega),if_neg (by omega)]
 have hd:decM [b]=⟨[bt b],⟨0,0,128,191⟩,0⟩:=by
  show stepD dec0 0 (bt b)=_
  unfold stepD
  rw [if_neg h2,hq]
  simp only [dec0,hb,if_true,Int.lt_irrefl,if_false,List.nil_append]
 have hc:Closed [b]:=by unfold Closed;rw [hd]
 exact ⟨hc,by rw [chars_closed hc,hd]⟩
theorem asc_dec (b:UInt8) (h:b.toNat<128):(decM [b]).out=[bt b]∧restM [b]=[]:=by
 obtain ⟨h1,h2⟩:=asc_one b h
 rw [chars_closed h1] at h2
 exact ⟨h2,by unfold restM;exact if_pos h1⟩
theorem decodeP (s:List UInt8) (hs:s.length≤100000):PCall Tryz.prog 37 [.d (.str []),.d (.str s)] (.tuple [.d (.list 1 (runesD (decM s).out)),.d (.str (restM s))]):=by
 refine PCall.of_thaw (by simp only [go_sem]) (by simp only [go_sem]) ?_
 refine (decode31 s hs []).mono ?_
 rintro oc σ' ⟨r,rfl,g,n,τ,hn,rfl,rfl⟩
 refine ⟨_,stSet ([]++Blk.arr g ⟨1,21⟩ (runesD (decM s).out)::τ) 0 .dead,rfl,Thaws.tuple (.cons (Thaws.freeze ?_) (.cons (Thaws.refl _ _) (.nil _)))⟩
 have hl:(runesD (decM s).out).length=n:=by rw [runesD_length,hn]
 show (rFreeze _ _).holds _
 simp only [rFreeze,List.length_nil,List.nil_append,stGet,List.getD_cons_zero,Res.holds]
 refine ⟨⟨trivial,by omega⟩,?_,trivial⟩
 rw [List.drop_zero,List.take_of_length_le (by omega)]
theorem closure36 (A:Au) (hf:Fit A) (ho:okA A=true) (l:List Int) (hl:l.length≤1000000000000000):PCall Tryz.prog 36 [auA A,.d (intsD l)] (.d (intsD (closM A l))):=by
 have hp:=okA_proper.1 ho
 have hc:=check17 A hf
 rw [if_pos ho] at hc
 refine fn36.pure noHint (Nat.le_refl _) (by simp only [go_sem,auA,auF,rowsD,intsD]) (by simp only [go_sem,intsD]) ?_
 simp (disch:=omega) only [go_sem,auA,auF,rowsD]
 refine hc.at ?_
 simp (disch:=omega) only [go_sem,auA,auF,rowsD]
 refine (closure33 A hp hf l hl).at ?_
 simp (disch:=omega) only [go_sem,intsD]
theorem step38 (A:Au) (hf:Fit A) (ho:okA A=true) (l:List Int) (hl:l.length≤1000000000000000) (c:Int):PCall Tryz.prog 38 [auA A,.d (intsD l),.d (.int .i32 c)] (.d (intsD (StepM A l c))):=by
 have hp:=okA_proper.1 ho
 have hc:=check17 A hf
 rw [if_pos ho] at hc
 refine fn38.pure noHint (Nat.le_refl _) (by simp only [go_sem,auA,auF,rowsD,intsD]) (by simp only [go_sem,intsD]) ?_
 simp (disch:=omega) only [go_sem,auA,auF,rowsD]
 refine hc.at ?_
 simp (disch:=omega) only [go_sem,auA,auF,rowsD]
 refine (closure33 A hp hf l hl).dat ?_
 simp (disch:=omega) only [go_sem]
 refine (step35 A hp hf (closM A l) ?_ (fun z hz=>from_inR hp ((mem_clos hp l z).1 hz)) c).dat ?_
 ·have:=clos_len A l;have:=hp.most;omega
 simp (disch:=omega) only [go_sem,intsD,StepM]
theorem step_run {A:Au} (hp:A.Proper) (w:List Int) (c:Int):StepM A (runM A w) c=runM A (w++[c]):=by
 rw [StepM,run_closed hp,run_snoc]
theorem clos_nil (A:Au):closM A []=[]:=by
 have h:∀ z,z ∉ closM A []:=by
  intro z hz
  unfold closM at hz
  simp only [List.mem_map,List.mem_filter,decide_eq_true_eq] at hz
  obtain ⟨s,⟨_,x,hx,_⟩,_⟩:=hz
  cases hx
 exact List.eq_nil_iff_forall_not_mem.2 h
theorem run_nil (A:Au) {w:List Int} (h:runM A w=[]):∀ t:List Int,runM A (w++t)=[]:=by
 have key:∀ t:List Int,t.foldl (stepM A) []=[]:=by
  intro t
  induction t with
  | nil=>rfl
  | cons c t ih=>rw [List.foldl_cons,show stepM A [] c=[] from clos_nil A];exact ih
 intro t
 rw [runM,List.foldl_append,← runM,h];exact key t
def wdB (s:List UInt8):List Int:=s.map bt
noncomputable def longT (A:Au) (s:List UInt8):Nat→Nat
 | 0=>0
 | i+1=>if A.accept∈runM A (wdB (s.take (i+1))) then i+1 else longT A s i
noncomputable def longM (A:Au) (s:List UInt8):Nat:=longT A s s.length
theorem long_stop {A:Au} {s:List UInt8} {i:Nat} (h:runM A (wdB (s.take (i+1)))=[]):∀ j,longT A s (i+j)=longT A s i
 | 0=>rfl
 | j+1=>by
  have e:wdB (s.take (i+j+1))=wdB (s.take (i+1))++wdB ((s.drop (i+1)).take j):=by
   unfold wdB
   rw [← List.map_append,show i+j+1=(i+1)+j by omega,List.take_add]
  have hn:runM A (wdB (s.take (i+j+1)))=[]:=by rw [e];exact run_nil A h _
  show longT A s (i+j+1)=_
  rw [longT,hn,if_neg (by simp),long_stop h j]
def auC (n:Tree) (A:Au):List AV:=nodeF n++auF A++[.d (.bool true)]
def mat (n:Tree) (A:Au):AV:=.agg (auC n A)
theorem getD_mem0 (s:List UInt8) (i:Nat) (h:i<s.length):s.getD i 0∈s:=by
 rw [List.getD_eq_getElem?_getD,List.getElem?_eq_getElem h];exact List.getElem_mem h
theorem valid_all:∀ n:Fin 128,Lib.validD [UInt8.ofNat n.1]=true:=by decide
theorem valid_asc (b:UInt8) (h:b.toNat<128):Lib.validD [b]=true:=by
 have:=valid_all ⟨b.toNat,h⟩
 simpa using this
theorem valid33 (s:List UInt8) (hs:s.length≤1000) (ha:∀ b,b∈s→b.toNat<128):PCall Tryz.prog 33 [.d (glyD s)] (.d (.bool true)):=by
 refine fn33.pure noHint (Nat.le_refl _) (by simp only [go_sem,glyD]) (by simp only [go_sem]) ?_
 have hll:(s.map gly).length=s.length:=by simp
 simp (disch:=omega) only [go_sem,glyD,hll]
 refine wL_ind (fun (i:Nat) fr σ=>i≤s.length∧fr 5=.d (glyD s)∧fr 6=.d (.int .i64 s.length)∧fr 7=.d (.int .i64 i)) (fun i=>s.length - i) ?_ 0 ?_
 ·rintro i fr σ ⟨hi,f5,f6,f7⟩ ih
  by_cases hlt:i<s.length
  ·have hgt:(s.map gly).getD i default=.agg [.str [s.getD i 0],.bool false,.int .i64 0]:=by simp [List.getD_eq_getElem?_getD,hlt,gly]
   have hv:Lib.validD [s.getD i 0]=true:=valid_asc _ (ha _ (getD_mem0 s i hlt))
   have hvu:=validU [s.getD i 0] (by simp)
   rw [hv] at hvu
   simp (disch:=omega) only [go_sem,f5,f6,f7,hlt,glyD,hll,hgt,stGet_app,stGet_app0,stGet_left]
   refine hvu.at ?_
   simp (disch:=omega) only [go_sem,f7]
   refine ih (i+1) _ _ (by omega) ⟨by omega,?_,?_,?_⟩
   ·simp (disch:=omega) only [go_sem,f5,glyD]
   ·simp (disch:=omega) only [go_sem,f6]
   ·simp (disch:=omega) only [go_sem]
  ·have hie:i=s.length:=by omega
   subst hie
   simp (disch:=omega) only [go_sem,f5,f6,f7,glyD,hll]
 ·refine ⟨by omega,?_,?_,?_⟩
  ·simp (disch:=omega) only [go_sem,glyD]
  ·simp (disch:=omega) only [go_sem]
  ·simp (disch:=omega) only [go_sem]
def hintsL:Nat→Hint:=fun i=>if i=41 then .freeze else .no
@[go_sem] theorem hintsL_at (i:Nat):hintsL i=if i=41 then .freeze else .no:=nrfl rfl
theorem longest22 (n:Tree) (A:Au) (hf:Fit A) (ho:okA A=true) (s:List UInt8) (hs:s.length≤1000) (ha:∀ b,b∈s→b.toNat<128) :
  PCall Tryz.prog 22 [mat n A,.d (glyD s)] (.d (.int .i64 (longM A s))):=by
 have hp:=okA_proper.1 ho
 refine fn22.pure hintsL (Nat.le_refl _) (by simp only [go_sem,mat,auC,nodeF,auF,rowsD,glyD,List.cons_append,List.nil_append]) (by simp only [go_sem]) ?_
 have hll:(s.map gly).length=s.length:=by simp
 simp (disch:=omega) only [go_sem,mat,auC,nodeF,auF,rowsD,glyD,List.cons_append,List.nil_append]
 refine (valid33 s hs ha).at ?_
 simp (disch:=omega) only [go_sem,auA,auF,rowsD]
 refine (closure36 A hf ho [A.start] (by simp)).at ?_
 simp (disch:=omega) only [go_sem]
 obtain ⟨S,hS⟩:∃ S:Nv.ST,S=[Blk.box 45 (auC n A),.dead]:=⟨_,rfl⟩
 refine wL_ind (fun (i:Nat) fr σ=>i≤s.length∧fr 2=.ptr 0 0∧fr 6=.d (.int .i64 (longT A s i))∧fr 7=.d (intsD (runM A (wdB (s.take i))))∧fr 43=.d (glyD s)∧fr 44=.d (.int .i64 s.length)∧fr 45=.d (.int .i64 i)∧∃ τ,σ=S++τ) (fun i=>s.length - i) ?_ 0 ?_
 ·rintro i fr σ ⟨hi,f2,f6,f7,f43,f44,f45,τ,rfl⟩ ih
  have b0:∀ τ:Nv.ST,stGet (S++τ) 0=.box 45 (auC n A):=fun τ=>by rw [hS];rfl
  by_cases hlt:i<s.length
  ·have hgt:(s.map gly).getD i default=.agg [.str [s.getD i 0],.bool false,.int .i64 0]:=by simp [List.getD_eq_getElem?_getD,hlt,gly]
   obtain ⟨b,hb⟩:∃ b,b=s.getD i 0:=⟨_,rfl⟩
   rw [← hb] at hgt
   have hba:b.toNat<128:=hb ▸ ha _ (getD_mem0 s i hlt)
   obtain ⟨d1,d2⟩:=asc_dec b hba
   have hdp:=decodeP [b] (by simp)
   rw [d1,d2] at hdp
   have htk:s.take (i+1)=s.take i++[b]:=by
    rw [List.take_succ_eq_append_getElem hlt,hb,List.getD_eq_getElem?_getD,List.getElem?_eq_getElem hlt];rfl
   have hwd:wdB (s.take (i+1))=wdB (s.take i)++[bt b]:=by unfold wdB;rw [htk];simp
   have hst:=step38 A hf ho (runM A (wdB (s.take i))) (by have:=run_len A (wdB (s.take i));have:=hp.most;omega) (bt b)
   rw [step_run hp,← hwd] at hst
   simp (disch:=omega) only [go_sem,f2,f6,f7,f43,f44,f45,hlt,glyD,hll,hgt,List.append_assoc,apR]
   refine hdp.at ?_
   simp (disch:=omega) only [go_sem,runesD,List.map_cons,List.map_nil]
   have c1:((1:Nat):Int)=1:=rfl
   refine wL_step ?_
   simp (disch:=omega) only [go_sem,c1,f2,f7,b0,auC,nodeF,auF,rowsD,List.cons_append,List.nil_append]
   refine hst.at ?_
   simp (disch:=omega) only [go_sem]
   refine wL_step ?_
   have hln:((runM A (wdB (s.take (i+1)))).map intD).length=(runM A (wdB (s.take (i+1)))).length:=by simp
   by_cases hz:runM A (wdB (s.take (i+1)))=[]
   ·have hstop:=long_stop hz (s.length - i)
    rw [show i+(s.length - i)=s.length by omega] at hstop
    simp (disch:=omega) only [go_sem,c1,hz,intsD,List.map_nil,List.length_nil,f6,longM,hstop]
   ·have hnz:¬ ((runM A (wdB (s.take (i+1)))).length:Int)=0:=by
     intro h;exact hz (List.length_eq_zero_iff.1 (by omega))
    have hco:=contains36 (runM A (wdB (s.take (i+1)))) A.accept (by have:=run_len A (wdB (s.take (i+1)));have:=hp.most;omega)
    simp (disch:=omega) only [go_sem,c1,intsD,hln,hnz,f2,b0,auC,nodeF,auF,rowsD,List.cons_append,List.nil_append]
    refine hco.at ?_
    by_cases hac:A.accept∈runM A (wdB (s.take (i+1)))
    ·simp (disch:=omega) only [go_sem,hac,f45]
     refine ih (i+1) _ _ (by omega) ⟨by omega,?_,?_,?_,?_,?_,?_,τ++[Blk.box 53 [.d (.str [b]),.d (.bool false),.d (.int .i64 0)]],?_⟩
     ·simp (disch:=omega) only [go_sem,f2]
     ·simp (disch:=omega) only [go_sem,longT,hac]
     ·simp (disch:=omega) only [go_sem,intsD]
     ·simp (disch:=omega) only [go_sem,f43,glyD]
     ·simp (disch:=omega) only [go_sem,f44]
     ·simp (disch:=omega) only [go_sem]
     ·rfl
    ·simp (disch:=omega) only [go_sem,hac,f45]
     refine ih (i+1) _ _ (by omega) ⟨by omega,?_,?_,?_,?_,?_,?_,τ++[Blk.box 53 [.d (.str [b]),.d (.bool false),.d (.int .i64 0)]],?_⟩
     ·simp (disch:=omega) only [go_sem,f2]
     ·simp (disch:=omega) only [go_sem,f6,longT,hac]
     ·simp (disch:=omega) only [go_sem,intsD]
     ·simp (disch:=omega) only [go_sem,f43,glyD]
     ·simp (disch:=omega) only [go_sem,f44]
     ·simp (disch:=omega) only [go_sem]
     ·rfl
  ·have hie:i=s.length:=by omega
   subst hie
   simp (disch:=omega) only [go_sem,f2,f6,f7,f43,f44,f45,longM]
 ·refine ⟨by omega,?_,?_,?_,?_,?_,?_,[],?_⟩
  ·simp (disch:=omega) only [go_sem]
  ·simp (disch:=omega) only [go_sem,longT]
  ·simp (disch:=omega) only [go_sem]
   rfl
  ·simp (disch:=omega) only [go_sem,glyD]
  ·simp (disch:=omega) only [go_sem]
  ·simp (disch:=omega) only [go_sem]
  ·rw [hS];rfl
end Go.Proofs.YtfnddhbiolpmgaaGreatDoor
set_option linter.unusedVariables false
set_option linter.unusedSimpArgs false
set_option maxRecDepth 100000
namespace Go.Proofs.YtfnddhbiolpmgaaGreatDoor
open Go Nv Pat
/- The matcher of a pattern. -/
theorem matcher11 (s:List UInt8) (n:Tree) (hs:s.length≤60) (hp:parseM s=(n,0)) (ht:Thin n) (hn:n.nodes≤1000000) (hb:buildE n=0) :
  PCall Tryz.prog 11 [.d (.str s)] (.tuple [mat n (buildM n),.d (.int .i64 0)]):=by
 have hpa:=parse14 s (by omega)
 rw [hp] at hpa
 have hbu:=build9 n ht hn
 unfold buildA at hbu
 rw [if_pos hb,hb] at hbu
 refine fn11.pure noHint (Nat.le_refl _) (by simp only [go_sem]) (by simp only [go_sem,mat,auC,nodeF,auF,rowsD,List.cons_append,List.nil_append]) ?_
 simp (disch:=omega) only [go_sem]
 refine hpa.at ?_
 simp (disch:=omega) only [go_sem,nodeA,nodeF]
 refine hbu.at ?_
 simp (disch:=omega) only [go_sem,auA,auF,rowsD]
 simp (disch:=omega) only [go_sem,mat,auC,nodeF,auF,rowsD,List.cons_append,List.nil_append]
end Go.Proofs.YtfnddhbiolpmgaaGreatDoor
/- Maps keyed by strings: rules;lists of strings that a function of the library hands back. -/

set_option linter.unusedVariables false
set_option linter.unusedSimpArgs false
namespace Nv
open Go Go.RowKit
section
variable {P:Program} {ρ ρ':RHO} {σ σ':ST} {I I':Nat→Prop} {w w':World}
end
end Nv
