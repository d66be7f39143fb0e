/- Part of a proof about the functions of this seat. -/
import Derived.Test.YtfnddhbiolpmgaaGreatDoorG12Q56
import Derived.Test.YtfnddhbiolpmgaaGreatDoorG22Enc56
import Derived.Test.YtfnddhbiolpmgaaGreatDoorG19NvR
import Derived.Test.YtfnddhbiolpmgaaGreatDoorG20Pars
/- A nil slice seen avl a list without elements,however deep it lies. -/

set_option linter.unusedVariables false
set_option linter.unusedSimpArgs false
namespace Nv
open Go
inductive WkV:DV→DV→Prop
 | refl (x:DV):WkV x x
 | nil (e:Nat):WkV .nilslice (.list e [])
 | list {e:Nat} {xs ys:List DV}:(flat xs).length=(flat ys).length→xs.length=ys.length→(∀ y,y∈ys→Uni e y) →
   (∀ (j:Nat) (x y:DV),(flat xs)[j]? = some x→(flat ys)[j]? = some y→WkV x y)→WkV (.list e xs) (.list e ys)
theorem VD.wkv {I:Nat→Prop} {w:World} {x y:DV} (h:WkV x y):∀ {v:Value},VD I w x v→VD I w y v:=by
 induction h with
 | refl x=>exact fun hv=>hv
 | nil e=>intro v hv;cases hv;exact .listNil _ _
 | @list e xs ys hf hl hu hx ih =>
  intro v hv
  cases hv with
  | listNil _ p =>
   obtain rfl:ys=[]:=List.length_eq_zero_iff.1 (by simpa using hl.symm)
   exact .listNil _ _
  | list us q1 q2 q0 q3 q4 =>
   have key:∀ (j:Nat) (c:DV),(flat ys)[j]? = some c→∃ x,(flat xs)[j]? = some x:=fun j c hj=>by
    have:j<(flat ys).length:=by
     rcases Nat.lt_or_ge j (flat ys).length with h | h
     ·exact h
     ·rw [List.getElem?_eq_none h] at hj;cases hj
    exact ⟨_,List.getElem?_eq_getElem (by omega)⟩
   refine .list us (by omega) q2 hu (fun j c hj=>?_) (fun j c hj=>?_)
   ·obtain ⟨x,hx'⟩:=key j c hj;exact q3 j x hx'
   ·obtain ⟨x,hx'⟩:=key j c hj;exact ih j x c hx' hj (q4 j x hx')
inductive WkB:AV→AV→Prop
 | d {x y:DV}:WkV x y→WkB (.d x) (.d y)
 | agg {cs ds:List AV}:cs.length=ds.length→(∀ i,i<cs.length→WkB (cs.getD i .any) (ds.getD i .any))→WkB (.agg cs) (.agg ds)
theorem V.wkb {ρ:RHO} {σ:ST} {I:Nat→Prop} {w:World} {a b:AV} (h:WkB a b):∀ {v:Value},V ρ σ I w a v→V ρ σ I w b v:=by
 induction h with
 | d h=>intro v hv;exact .d (VD.wkv h hv.d_inv)
 | @agg cs ds hl hx ih =>
  intro v hv
  cases hv with
  | agg h1 h2 =>
   refine .agg (by omega) (fun j c hj=>?_)
   have hjl:j<ds.length:=by
    rcases Nat.lt_or_ge j ds.length with h | h
    ·exact h
    ·rw [List.getElem?_eq_none h] at hj;cases hj
   have e1:cs[j]? = some (cs.getD j .any):=by rw [List.getD_eq_getElem?_getD,List.getElem?_eq_getElem (by omega)];rfl
   have e2:ds.getD j .any=c:=by rw [List.getD_eq_getElem?_getD,hj];rfl
   have:=ih j (by omega) (h2 j _ e1)
   rwa [e2] at this
end Nv
set_option linter.unusedVariables false
set_option linter.unusedSimpArgs false
set_option maxRecDepth 100000
namespace Go.Proofs.YtfnddhbiolpmgaaGreatDoor
open Go Nv Pat
theorem ACall.wkr {f:FuncId} {args:List AV} {σ:Nv.ST} {K K':Out→Nv.ST→Prop} (h:ACall Tryz.prog f args σ K) (hk:∀ oc σ',K oc σ'→K' oc σ'∨∃ a b,oc=.ret a∧WkB a b∧K' (.ret b) σ'):ACall Tryz.prog f args σ K':=by
 intro ρ I w vs hr hv
 refine (h ρ I w vs hr hv).mono ?_
 rintro e w' ⟨ρ',I',σ',oc,h1,h2,h3,h4⟩
 rcases hk oc σ' h4 with h5 | ⟨a,b,rfl,hw,h5⟩
 ·exact ⟨ρ',I',σ',oc,h1,h2,h3,h5⟩
 ·cases e <;> simp only at h3
  exact ⟨ρ',I',σ',.ret b,h1,h2,h3.wkb hw,h5⟩
theorem PS.ofW {f np:Nat} {rs:List ResultVar} {pc:PC} (hf:FnIs Tryz.prog f np rs pc) (hint:Nat→Hint) {args:List AV} {l r:List Int} {out:Option (AV × List Int)} (hn:args.length+1≤np)
  (h:∀ (A B:Nv.ST) (u:List Int),l=u++r→wW Tryz.prog hint pc (endA Tryz.prog rs fun oc σ'=>match out with
   | none=>oc=.panic badV∧∃ τ,σ'=A++τ
   | some (v,r')=>∃ v0,oc=.ret v0∧WkB v0 v∧∃ (u':List Int) (τ:Nv.ST),l=u'++r'∧σ'=A++boxP l u'.length::(B++τ)) ⟨⟩ ⟨⟩ (initFr (.ptr A.length 0::args)) (A++boxP l u.length::B)):PS f args l r out:=fun A B u e=>by
 refine ACall.wkr (hf.go hint hn (h A B u e)) fun oc σ' hh=>?_
 cases out with
 | none=>exact .inl hh
 | some x =>
  obtain ⟨v,r'⟩:=x
  obtain ⟨v0,rfl,hw,hh⟩:=hh
  exact .inr ⟨v0,v,rfl,hw,rfl,hh⟩
theorem wkB5 {a b c d e a' b' c' d' e':AV} (h1:WkB a a') (h2:WkB b b') (h3:WkB c c') (h4:WkB d d') (h5:WkB e e'):WkB (.agg [a,b,c,d,e]) (.agg [a',b',c',d',e']):=by
 refine .agg rfl fun i hi=>?_
 match i,hi with
 | 0,_=>exact h1
 | 1,_=>exact h2
 | 2,_=>exact h3
 | 3,_=>exact h4
 | 4,_=>exact h5
 | i+5,hi=>simp at hi;omega
theorem wk_set (s:List (Int × Int)):WkB (.agg [.d (.int .i64 2),.d (setD s),.d .nilslice,.d (.int .i64 0),.d (.int .i64 0)]) (nodeA (setT s)) :=
 wkB5 (.d (.refl _)) (.d (.refl _)) (.d (.nil 5)) (.d (.refl _)) (.d (.refl _))
theorem wk_rep (x:Tree) (a b:Int):WkB (.agg [.d (.int .i64 5),.d .nilslice,.d (.list 5 [nodeD x]),.d (.int .i64 a),.d (.int .i64 b)]) (nodeA (rep5 x a b)) :=
 wkB5 (.d (.refl _)) (.d (.nil 2)) (.d (.refl _)) (.d (.refl _)) (.d (.refl _))
theorem wk_many (k:Int) (l:List Tree):WkB (.agg [.d (.int .i64 k),.d .nilslice,.d (.list 5 (l.map nodeD)),.d (.int .i64 0),.d (.int .i64 0)]) (nodeA (.mk k [] l 0 0)) :=
 wkB5 (.d (.refl _)) (.d (.nil 2)) (.d (.refl _)) (.d (.refl _)) (.d (.refl _))
theorem wk_none:WkB (.agg [.d (.int .i64 1),.d .nilslice,.d .nilslice,.d (.int .i64 0),.d (.int .i64 0)]) (nodeA (.mk 1 [] [] 0 0)) :=
 wkB5 (.d (.refl _)) (.d (.nil 2)) (.d (.nil 5)) (.d (.refl _)) (.d (.refl _))
theorem Sorts_sortR:Sorts sortR:=⟨sort104,sort_len,sort_mem⟩
theorem Chars.nonneg {l:List Int} (h:Chars l):∀ c,c∈l→0≤c:=fun c hc=>by have:=h c hc;rw [charB_iff] at this;omega
def CH (f:Nat):Prop:=∀ l r:List Int,l.length≤10000→Chars l→r.length<f→PS 27 [] l r ((chP sortR f r).map fun x=>(nodeA x.1,x.2))
def specB:List UInt8:=[92,40,41,91,93,123,125,124,42,43,63,46]
theorem spec_eq:ints specB=spec:=by decide
def hintM:Nat→Hint:=fun i=>if i=40 then .freeze else .no
@[go_sem] theorem hintM_at (i:Nat):hintM i=if i=40 then .freeze else .no:=nrfl rfl
theorem atom76 (f:Nat) (ih:CH f) (l r:List Int) (hl:l.length≤10000) (hc:Chars l) (hf:r.length≤f):PS 82 [] l r ((atomP sortR (chP sortR f) r).map fun x=>(nodeA x.1,x.2)):=by
 refine PS.ofW fn82 hintM (Nat.le_refl _) fun A B u e=>?_
 have hl':l.length≤1000000:=by omega
 have h0:=hc.nonneg
 simp (disch:=omega) only [go_sem,boxP,apR]
 refine (next84 l r hl' h0).at A (B++[.box 39 [.d (.int .i64 0),.d .nilslice,.d .nilslice,.d (.int .i64 0),.d (.int .i64 0)]]) u e ?_ ?_
 ·intro v r' u1 τ1 ho e1
  cases r with
  | nil=>cases ho
  | cons c t =>
   cases ho
   have hcc:charB c=true:=hc c (by rw [e];simp)
   have hlt:r'.length<f:=by simp at hf;omega
   by_cases c1:c=40
   ·simp (disch:=omega) only [go_sem,c1,apR]
    refine (ih l r' hl hc hlt).at A _ u1 e1 ?_ ?_
    ·intro v r2 u2 τ2 ho e2
     cases hch:chP sortR f r' with
     | none=>rw [hch] at ho;cases ho
     | some x =>
      obtain ⟨n,r2'⟩:=x
      rw [hch] at ho
      simp only [Option.map_some,Option.some.injEq,Prod.mk.injEq] at ho
      obtain ⟨rfl,rfl⟩:=ho
      simp (disch:=omega) only [go_sem,nodeA,nodeF,apR]
      refine (must78 l r2' hl' 41 (by omega)).at A _ u2 e2 ?_ ?_
      ·intro v r3 u3 τ3 ho e3
       by_cases h41:r2'.headD (-1)=41
       ·rw [if_pos h41] at ho
        simp only [Option.some.injEq,Prod.mk.injEq] at ho
        obtain ⟨rfl,rfl⟩:=ho
        simp (disch:=omega) only [go_sem,atomP,c1,hch,h41,Option.map_some,boxP,apR]
        refine ⟨_,rfl,wkB5 (.d (.refl _)) (.d (.refl _)) (.d (.refl _)) (.d (.refl _)) (.d (.refl _)),u3,_,e3,rfl⟩
       ·rw [if_neg h41] at ho;cases ho
      ·intro ho σ'
       by_cases h41:r2'.headD (-1)=41
       ·rw [if_pos h41] at ho;cases ho
       ·simp (disch:=omega) only [go_sem,atomP,c1,hch,h41,Option.map_none];exact ⟨_,rfl⟩
    ·intro ho σ'
     cases hch:chP sortR f r' with
     | none=>simp (disch:=omega) only [go_sem,atomP,c1,hch,Option.map_none];exact ⟨_,rfl⟩
     | some x=>rw [hch] at ho;cases ho
   by_cases c2:c=46
   ·simp (disch:=omega) only [go_sem,c1,c2,apR]
    refine all59.at ?_
    simp (disch:=omega) only [go_sem,setD,atomP,c1,c2,Option.map_some,boxP,apR]
    exact ⟨_,rfl,wk_set _,u1,_,e1,rfl⟩
   by_cases c3:c=91
   ·simp (disch:=omega) only [go_sem,c1,c2,c3,apR]
    refine (class85 sortR Sorts_sortR l r' hl h0).at A _ u1 e1 ?_ ?_
    ·intro v r2 u2 τ2 ho e2
     cases hcl:classP sortR r' with
     | none=>rw [hcl] at ho;cases ho
     | some x =>
      obtain ⟨s,r2'⟩:=x
      rw [hcl] at ho
      simp only [Option.map_some,Option.some.injEq,Prod.mk.injEq] at ho
      obtain ⟨rfl,rfl⟩:=ho
      simp (disch:=omega) only [go_sem,setD,atomP,c1,c2,c3,hcl,Option.map_some,boxP,apR]
      exact ⟨_,rfl,wk_set _,u2,_,e2,rfl⟩
    ·intro ho σ'
     cases hcl:classP sortR r' with
     | none=>simp (disch:=omega) only [go_sem,atomP,c1,c2,c3,hcl,Option.map_none];exact ⟨_,rfl⟩
     | some x=>rw [hcl] at ho;cases ho
   by_cases c4:c=92
   ·simp (disch:=omega) only [go_sem,c1,c2,c3,c4,apR]
    refine (next84 l r' hl' h0).at A _ u1 e1 ?_ ?_
    ·intro v r2 u2 τ2 ho e2
     cases r' with
     | nil=>cases ho
     | cons d r' =>
      cases ho
      simp (disch:=omega) only [go_sem,atomP,c1,c2,c3,c4,Option.map_some,boxP,apR]
      exact ⟨_,rfl,wk_set [(d,d)],u2,_,e2,rfl⟩
    ·intro ho σ'
     cases r' with
     | nil=>simp (disch:=omega) only [go_sem,atomP,c1,c2,c3,c4,Option.map_none];exact ⟨_,rfl⟩
     | cons d r'=>cases ho
   have hcon:=contains_all specB (encB c) (by decide)
   rw [contains_enc hcc specB (by decide),spec_eq] at hcon
   simp (disch:=omega) only [go_sem,c1,c2,c3,c4,apR]
   refine hcon.at ?_
   by_cases c5:c∈spec
   ·simp (disch:=omega) only [go_sem,atomP,c1,c2,c3,c4,c5,decide_true,Option.map_none,badV];exact ⟨_,rfl⟩
   ·simp (disch:=omega) only [go_sem,atomP,c1,c2,c3,c4,c5,decide_false,Option.map_some,boxP,apR]
    exact ⟨_,rfl,wk_set [(c,c)],u1,_,e1,rfl⟩
 ·intro ho σ'
  cases r with
  | nil=>simp (disch:=omega) only [go_sem,atomP,Option.map_none];exact ⟨_,rfl⟩
  | cons c t=>cases ho
end Go.Proofs.YtfnddhbiolpmgaaGreatDoor
set_option linter.unusedVariables false
set_option linter.unusedSimpArgs false
set_option maxRecDepth 100000
namespace Go.Proofs.YtfnddhbiolpmgaaGreatDoor
open Go Nv Pat
theorem skip_no (l u r:List Int) (e:l=u++r) (hl:l.length≤1000000) (c:Int) (h:¬ r.headD (-1)=c) (A B:Nv.ST) :
  SCall Tryz.prog 42 [.ptr A.length 0,.d (.int .i32 c)] (A++boxP l u.length::B) (.d (.bool false)) (A++boxP l u.length::B):=by
 refine fn42.st noHint (Nat.le_refl _) ?_
 simp (disch:=omega) only [go_sem]
 refine (peekL l u r e hl A B).at ?_
 simp (disch:=omega) only [go_sem,h]
theorem skip_yes (l u r:List Int) (e:l=u++r) (hl:l.length≤1000000) (c:Int) (hc:0≤c) (h:r.headD (-1)=c) :
  ∃ u',l=u'++r.tail∧∀ A B:Nv.ST,SCall Tryz.prog 42 [.ptr A.length 0,.d (.int .i32 c)] (A++boxP l u.length::B) (.d (.bool true)) (A++boxP l u'.length::B):=by
 cases r with
 | nil=>simp at h;omega
 | cons d r =>
  refine ⟨u++[d],by rw [e];simp,fun A B=>?_⟩
  have hul:u.length+(r.length+1)=l.length:=by rw [e,List.length_append,List.length_cons]
  have hw:IntKind.i64.wrap ((u.length:Int)+1)=((u++[d]).length:Nat):=by
   rw [wrap_id (by omega) (by omega)];simp
  refine fn42.st noHint (Nat.le_refl _) ?_
  simp (disch:=omega) only [go_sem]
  refine (peekL l u _ e hl A B).at ?_
  obtain ⟨k,hk⟩:∃ k,k=(u++[d]).length:=⟨_,rfl⟩
  rw [← hk] at hw ⊢
  simp (disch:=omega) only [go_sem,h,boxP,hw,apR]
  rw [hk];simp
def hintR1:Nat→Hint:=fun i=>if i=6 then .freeze else .no
@[go_sem] theorem hintR1_at (i:Nat):hintR1 i=if i=6 then .freeze else .no:=nrfl rfl
theorem wk_repC (x:Tree) (a b:Int):WkB (.agg [.d (.int .i64 5),.d .nilslice,.d (.list 5 [.agg [.int .i64 x.kind,setD x.set,.list 5 (x.sub.map nodeD),.int .i64 x.min,.int .i64 x.max]]),.d (.int .i64 a),.d (.int .i64 b)]) (nodeA (rep5 x a b)):=by
 have:=wk_rep x a b
 rw [nodeD_eq,nodeC] at this
 exact this
theorem num_nonneg {l r:List Int} {n:Int} (h:numP l=some (n,r)):0≤n∧n≤20:=by
 have key:∀ (l:List Int) (z:Int),0≤z→0≤(numL l z).1:=by
  intro l
  induction l with
  | nil=>intro z hz;exact hz
  | cons c t ih =>
   intro z hz
   rw [numL]
   split
   ·rename_i hd;simp [digit] at hd;exact ih _ (by omega)
   ·exact hz
 unfold numP at h
 split at h
 ·cases h
 ·rename_i hn
  simp only [Option.some.injEq] at h
  have:=key l 0 (by omega)
  rw [h] at this hn
  simp only at this hn
  omega
theorem repeat67 (f:Nat) (ih:CH f) (l r:List Int) (hl:l.length≤10000) (hc:Chars l) (hf:r.length≤f):PS 61 [] l r ((repP sortR (chP sortR f) r).map fun x=>(nodeA x.1,x.2)):=by
 refine PS.ofW fn61 hintR1 (Nat.le_refl _) fun A B u e=>?_
 have hl':l.length≤1000000:=by omega
 have h0:=hc.nonneg
 simp (disch:=omega) only [go_sem,boxP,apR]
 refine (atom76 f ih l r hl hc hf).at A _ u e ?_ ?_
 ·intro v r1 u1 τ1 ho e1
  cases hat:atomP sortR (chP sortR f) r with
  | none=>rw [hat] at ho;cases ho
  | some y =>
   obtain ⟨x,r1'⟩:=y
   rw [hat] at ho
   simp only [Option.map_some,Option.some.injEq,Prod.mk.injEq] at ho
   obtain ⟨rfl,rfl⟩:=ho
   simp (disch:=omega) only [go_sem,nodeA,nodeF,apR]
   by_cases s1:r1'.headD (-1)=42
   ·obtain ⟨u2,e2,hs⟩:=skip_yes l u1 r1' e1 hl' 42 (by omega) s1
    refine (hs A _).at ?_
    simp (disch:=omega) only [go_sem,repP,hat,s1,Option.map_some,boxP,apR]
    exact ⟨_,rfl,wk_repC x 0 (-1),u2,_,e2,rfl⟩
   refine (skip_no l u1 r1' e1 hl' 42 s1 A _).at ?_
   by_cases s2:r1'.headD (-1)=43
   ·obtain ⟨u2,e2,hs⟩:=skip_yes l u1 r1' e1 hl' 43 (by omega) s2
    simp (disch:=omega) only [go_sem,apR]
    refine (hs A _).at ?_
    simp (disch:=omega) only [go_sem,repP,hat,s1,s2,Option.map_some,boxP,apR]
    exact ⟨_,rfl,wk_repC x 1 (-1),u2,_,e2,rfl⟩
   simp (disch:=omega) only [go_sem,apR]
   refine (skip_no l u1 r1' e1 hl' 43 s2 A _).at ?_
   by_cases s3:r1'.headD (-1)=63
   ·obtain ⟨u2,e2,hs⟩:=skip_yes l u1 r1' e1 hl' 63 (by omega) s3
    simp (disch:=omega) only [go_sem,apR]
    refine (hs A _).at ?_
    simp (disch:=omega) only [go_sem,repP,hat,s1,s2,s3,Option.map_some,boxP,apR]
    exact ⟨_,rfl,wk_repC x 0 1,u2,_,e2,rfl⟩
   simp (disch:=omega) only [go_sem,apR]
   refine (skip_no l u1 r1' e1 hl' 63 s3 A _).at ?_
   by_cases s4:r1'.headD (-1)=123
   ·obtain ⟨u2,e2,hs⟩:=skip_yes l u1 r1' e1 hl' 123 (by omega) s4
    simp (disch:=omega) only [go_sem,apR]
    refine (hs A _).at ?_
    simp (disch:=omega) only [go_sem,apR]
    have hrep:repP sortR (chP sortR f) r=(bndP r1'.tail).map fun y=>(rep5 x y.1.1 y.1.2,y.2):=by
     rw [repP,hat];simp only;rw [if_neg s1,if_neg s2,if_neg s3,if_pos s4]
    rw [hrep]
    generalize r1'.tail=q at e2 ⊢
    refine (number77 l q hl' h0).at A _ u2 e2 ?_ ?_
    ·intro v r3 u3 τ3 ho e3
     cases hn:numP q with
     | none=>rw [hn] at ho;cases ho
     | some y =>
      obtain ⟨a,r3'⟩:=y
      rw [hn] at ho
      simp only [Option.map_some,Option.some.injEq,Prod.mk.injEq] at ho
      obtain ⟨rfl,rfl⟩:=ho
      have ha:=num_nonneg hn
      have stop:∀ b r5,(if r3'.headD (-1)=44 then (if r3'.tail.headD (-1)=125 then some (-1,r3'.tail) else numP r3'.tail) else some (a,r3'))=some (b,r5) →
        bndP q=if r5.headD (-1)=125∧¬ (0≤b∧b<a) then some ((a,b),r5.tail) else none:=fun b r5 h=>by
       rw [bndP,hn];simp only;rw [h]
      by_cases h44:r3'.headD (-1)=44
      ·obtain ⟨u4,e4,hs4⟩:=skip_yes l u3 r3' e3 hl' 44 (by omega) h44
       simp (disch:=omega) only [go_sem,apR]
       refine (hs4 A _).at ?_
       simp (disch:=omega) only [go_sem,apR]
       refine (peekL l u4 _ e4 hl' A _).at ?_
       by_cases h125:r3'.tail.headD (-1)=125
       ·have hb:=stop (-1) r3'.tail (by rw [if_pos h44,if_pos h125])
        rw [if_pos ⟨h125,by omega⟩] at hb
        obtain ⟨u5,e5,hs5⟩:=skip_yes l u4 r3'.tail e4 hl' 125 (by omega) h125
        simp (disch:=omega) only [go_sem,h125,apR]
        refine (must78 l r3'.tail hl' 125 (by omega)).at A _ u4 e4 ?_ ?_
        ·intro v r6 u6 τ6 ho e6
         rw [if_pos h125] at ho
         simp only [Option.some.injEq,Prod.mk.injEq] at ho
         obtain ⟨rfl,rfl⟩:=ho
         simp (disch:=omega) only [go_sem,hb,Option.map_some,boxP,apR]
         exact ⟨_,rfl,wk_repC x a (-1),u6,_,e6,rfl⟩
        ·intro ho;rw [if_pos h125] at ho;cases ho
       ·simp (disch:=omega) only [go_sem,h125,apR]
        refine (number77 l r3'.tail hl' h0).at A _ u4 e4 ?_ ?_
        ·intro v r5 u5 τ5 ho e5
         cases hn2:numP r3'.tail with
         | none=>rw [hn2] at ho;cases ho
         | some y =>
          obtain ⟨b,r5'⟩:=y
          rw [hn2] at ho
          simp only [Option.map_some,Option.some.injEq,Prod.mk.injEq] at ho
          obtain ⟨rfl,rfl⟩:=ho
          have hbn:=num_nonneg hn2
          have hb:=stop b r5' (by rw [if_pos h44,if_neg h125,hn2])
          simp (disch:=omega) only [go_sem,apR]
          refine (must78 l r5' hl' 125 (by omega)).at A _ u5 e5 ?_ ?_
          ·intro v r6 u6 τ6 ho e6
           by_cases hm:r5'.headD (-1)=125
           ·rw [if_pos hm] at ho
            simp only [Option.some.injEq,Prod.mk.injEq] at ho
            obtain ⟨rfl,rfl⟩:=ho
            have hb0:0≤b:=hbn.1
            by_cases hlt:b<a
            ·rw [if_neg (fun h=>h.2 ⟨hb0,hlt⟩)] at hb
             simp (disch:=omega) only [go_sem,hb,hb0,hlt,Option.map_none,badV,boxP,apR];exact ⟨_,rfl⟩
            ·rw [if_pos ⟨hm,fun h=>hlt h.2⟩] at hb
             simp (disch:=omega) only [go_sem,hb,hb0,hlt,Option.map_some,boxP,apR]
             exact ⟨_,rfl,wk_repC x a b,u6,_,e6,rfl⟩
           ·rw [if_neg hm] at ho;cases ho
          ·intro ho σ'
           by_cases hm:r5'.headD (-1)=125
           ·rw [if_pos hm] at ho;cases ho
           ·rw [if_neg (fun h=>hm h.1)] at hb
            simp (disch:=omega) only [go_sem,hb,Option.map_none];exact ⟨_,rfl⟩
        ·intro ho σ'
         cases hn2:numP r3'.tail with
         | none =>
          have hb:bndP q=none:=by rw [bndP,hn];simp only;rw [if_pos h44,if_neg h125,hn2]
          simp (disch:=omega) only [go_sem,hb,Option.map_none];exact ⟨_,rfl⟩
         | some y=>rw [hn2] at ho;cases ho
      ·have hb:=stop a r3' (by rw [if_neg h44])
       simp (disch:=omega) only [go_sem,apR]
       refine (skip_no l u3 r3' e3 hl' 44 h44 A _).at ?_
       simp (disch:=omega) only [go_sem,apR]
       refine (must78 l r3' hl' 125 (by omega)).at A _ u3 e3 ?_ ?_
       ·intro v r6 u6 τ6 ho e6
        by_cases hm:r3'.headD (-1)=125
        ·rw [if_pos hm] at ho
         simp only [Option.some.injEq,Prod.mk.injEq] at ho
         obtain ⟨rfl,rfl⟩:=ho
         have ha0:0≤a:=ha.1
         have hlt:¬ a<a:=by omega
         rw [if_pos ⟨hm,fun h=>hlt h.2⟩] at hb
         simp (disch:=omega) only [go_sem,hb,ha0,hlt,Option.map_some,boxP,apR]
         exact ⟨_,rfl,wk_repC x a a,u6,_,e6,rfl⟩
        ·rw [if_neg hm] at ho;cases ho
       ·intro ho σ'
        by_cases hm:r3'.headD (-1)=125
        ·rw [if_pos hm] at ho;cases ho
        ·rw [if_neg (fun h=>hm h.1)] at hb
         simp (disch:=omega) only [go_sem,hb,Option.map_none];exact ⟨_,rfl⟩
    ·intro ho σ'
     cases hn:numP q with
     | none=>simp (disch:=omega) only [go_sem,bndP,hn,Option.map_none];exact ⟨_,rfl⟩
     | some y=>rw [hn] at ho;cases ho
   ·simp (disch:=omega) only [go_sem,apR]
    refine (skip_no l u1 r1' e1 hl' 123 s4 A _).at ?_
    simp (disch:=omega) only [go_sem,repP,hat,s1,s2,s3,s4,Option.map_some,boxP,apR]
    exact ⟨by decide,_,rfl,wkB5 (.d (.refl _)) (.d (.refl _)) (.d (.refl _)) (.d (.refl _)) (.d (.refl _)),u1,_,e1,rfl⟩
 ·intro ho σ'
  cases hat:atomP sortR (chP sortR f) r with
  | none=>simp (disch:=omega) only [go_sem,repP,hat,Option.map_none];exact ⟨_,rfl⟩
  | some y=>rw [hat] at ho;cases ho
end Go.Proofs.YtfnddhbiolpmgaaGreatDoor
/- Reading a pattern consumes it: lengths. Plain: no program. -/

set_option linter.unusedVariables false
set_option linter.unusedSimpArgs false
namespace Pat
theorem tail_le (l:List Int):l.tail.length≤l.length:=by simp
theorem letP_lt {l r:List Int} {c:Int} (h:letP l=some (c,r)):r.length<l.length:=by
 cases l with
 | nil=>cases h
 | cons d t =>
  rw [letP] at h
  split at h
  ·cases t with
   | nil=>cases h
   | cons d t=>simp only [oneP,Option.some.injEq,Prod.mk.injEq] at h;rw [← h.2];simp;omega
  ·split at h
   ·cases h
   ·simp only [Option.some.injEq,Prod.mk.injEq] at h;rw [← h.2];simp
theorem itemP_lt {l r:List Int} {q:Int × Int} (h:itemP l=some (q,r)):r.length<l.length:=by
 unfold itemP at h
 cases hL:letP l with
 | none=>rw [hL] at h;cases h
 | some x =>
  obtain ⟨c,r1⟩:=x
  have h1:=letP_lt hL
  rw [hL] at h
  simp only at h
  split at h
  ·cases hM:letP r1.tail with
   | none=>rw [hM] at h;cases h
   | some y =>
    obtain ⟨d,r2⟩:=y
    have h2:=letP_lt hM
    rw [hM] at h
    simp only [Option.map_some,Option.some.injEq,Prod.mk.injEq] at h
    have:=tail_le r1
    rw [← h.2];omega
  ·simp only [Option.some.injEq,Prod.mk.injEq] at h
   rw [← h.2];exact h1
theorem clsP_le:∀ (f:Nat) {acc:List (Int × Int)} {l r:List Int} {s:List (Int × Int)},clsP f acc l=some (s,r)→r.length≤l.length
 | 0,_,_,_,_,h=>by cases h
 | f+1,acc,l,r,s,h=>by
  rw [clsP] at h
  split at h
  ·simp only [Option.some.injEq,Prod.mk.injEq] at h;rw [← h.2];exact tail_le l
  ·cases hI:itemP l with
   | none=>rw [hI] at h;cases h
   | some x =>
    obtain ⟨q,r1⟩:=x
    have h1:=itemP_lt hI
    rw [hI] at h
    simp only at h
    split at h
    ·cases h
    ·have:=clsP_le f h;omega
section
variable (sort:List (Int × Int)→List (Int × Int))
theorem classP_le {l r:List Int} {s:List (Int × Int)} (h:classP sort l=some (s,r)):r.length≤l.length:=by
 unfold classP at h
 have ht:=tail_le l
 split at h
 ·cases hc:clsP (l.length+1) [] l.tail with
  | none=>rw [hc] at h;cases h
  | some x =>
   obtain ⟨a,b⟩:=x
   rw [hc] at h
   simp only [Option.map_some,Option.some.injEq,Prod.mk.injEq] at h
   have:=clsP_le _ hc
   rw [← h.2];omega
 ·cases hc:clsP (l.length+1) [] l with
  | none=>rw [hc] at h;cases h
  | some x =>
   obtain ⟨a,b⟩:=x
   rw [hc] at h
   simp only [Option.map_some,Option.some.injEq,Prod.mk.injEq] at h
   have:=clsP_le _ hc
   rw [← h.2];exact this
theorem numL_le:∀ (l:List Int) (z:Int),(numL l z).2.length≤l.length
 | [],z=>Nat.le_refl _
 | c::t,z=>by
  rw [numL]
  split
  ·have:=numL_le t (min (10 * z+(c - 48)) 1000);simp;omega
  ·exact Nat.le_refl _
theorem numP_lt {l r:List Int} {n:Int} (h:numP l=some (n,r)):r.length<l.length:=by
 have h1:=numL_le l 0
 unfold numP at h
 split at h
 ·cases h
 ·rename_i hn
  simp only [Option.some.injEq] at h
  rw [h] at hn h1
  simp only at hn h1
  omega
theorem bndP_lt {l r:List Int} {q:Int × Int} (h:bndP l=some (q,r)):r.length<l.length:=by
 unfold bndP at h
 cases hn:numP l with
 | none=>rw [hn] at h;cases h
 | some x =>
  obtain ⟨a,r1⟩:=x
  have h1:=numP_lt hn
  rw [hn] at h
  simp only at h
  have ht:=tail_le r1
  have fin:∀ {b:Int} {r2:List Int},r2.length≤r1.length→(if r2.headD (-1)=125∧¬ (0≤b∧b<a) then some ((a,b),r2.tail) else none)=some (q,r)→r.length<l.length:=fun {b r2} hle hh=>by
   split at hh
   ·simp only [Option.some.injEq,Prod.mk.injEq] at hh
    have:=tail_le r2
    rw [← hh.2];omega
   ·cases hh
  by_cases h44:r1.headD (-1)=44
  ·rw [if_pos h44] at h
   by_cases h125:r1.tail.headD (-1)=125
   ·rw [if_pos h125] at h;exact fin ht h
   ·rw [if_neg h125] at h
    cases hm:numP r1.tail with
    | none=>rw [hm] at h;cases h
    | some y =>
     obtain ⟨b,r2⟩:=y
     have h2:=numP_lt hm
     rw [hm] at h
     exact fin (by omega) h
  ·rw [if_neg h44] at h;exact fin (Nat.le_refl _) h
variable {ch:List Int→Option (Tree × List Int)} (hch:∀ l x r,ch l=some (x,r)→r.length≤l.length)
include hch
theorem atomP_lt {l r:List Int} {x:Tree} (h:atomP sort ch l=some (x,r)):r.length<l.length:=by
 cases l with
 | nil=>cases h
 | cons c t =>
  simp only [atomP] at h
  split at h
  ·cases hc:ch t with
   | none=>rw [hc] at h;cases h
   | some y =>
    obtain ⟨n,r1⟩:=y
    have h1:=hch _ _ _ hc
    rw [hc] at h
    simp only at h
    split at h
    ·simp only [Option.some.injEq,Prod.mk.injEq] at h
     have:=tail_le r1
     rw [← h.2,List.length_cons];omega
    ·cases h
  split at h
  ·simp only [Option.some.injEq,Prod.mk.injEq] at h;rw [← h.2];simp
  split at h
  ·cases hc:classP sort t with
   | none=>rw [hc] at h;cases h
   | some y =>
    obtain ⟨n,r1⟩:=y
    have h1:=classP_le sort hc
    rw [hc] at h
    simp only [Option.map_some,Option.some.injEq,Prod.mk.injEq] at h
    rw [← h.2,List.length_cons];omega
  split at h
  ·cases t with
   | nil=>cases h
   | cons d t=>simp only [Option.some.injEq,Prod.mk.injEq] at h;rw [← h.2];simp;omega
  split at h
  ·cases h
  ·simp only [Option.some.injEq,Prod.mk.injEq] at h;rw [← h.2];simp
theorem repP_lt {l r:List Int} {x:Tree} (h:repP sort ch l=some (x,r)):r.length<l.length:=by
 unfold repP at h
 cases ha:atomP sort ch l with
 | none=>rw [ha] at h;cases h
 | some y =>
  obtain ⟨n,r1⟩:=y
  have h1:=atomP_lt sort hch ha
  have ht:=tail_le r1
  rw [ha] at h
  simp only at h
  split at h
  ·simp only [Option.some.injEq,Prod.mk.injEq] at h;rw [← h.2];omega
  split at h
  ·simp only [Option.some.injEq,Prod.mk.injEq] at h;rw [← h.2];omega
  split at h
  ·simp only [Option.some.injEq,Prod.mk.injEq] at h;rw [← h.2];omega
  split at h
  ·cases hb:bndP r1.tail with
   | none=>rw [hb] at h;cases h
   | some z =>
    obtain ⟨q,r2⟩:=z
    have h2:=bndP_lt hb
    rw [hb] at h
    simp only [Option.map_some,Option.some.injEq,Prod.mk.injEq] at h
    rw [← h.2];omega
  ·simp only [Option.some.injEq,Prod.mk.injEq] at h;rw [← h.2];exact h1
theorem joinL_le:∀ (f:Nat) {l r:List Int} {xs:List Tree},joinL sort ch f l=some (xs,r)→r.length+xs.length≤l.length
 | 0,_,_,_,h=>by cases h
 | f+1,l,r,xs,h=>by
  rw [joinL] at h
  split at h
  ·simp only [Option.some.injEq,Prod.mk.injEq] at h;rw [← h.2,← h.1];simp
  ·cases hr:repP sort ch l with
   | none=>rw [hr] at h;cases h
   | some y =>
    obtain ⟨x,r1⟩:=y
    have h1:=repP_lt sort hch hr
    rw [hr] at h
    simp only at h
    cases hj:joinL sort ch f r1 with
    | none=>rw [hj] at h;cases h
    | some z =>
     obtain ⟨ys,r2⟩:=z
     have h2:=joinL_le f hj
     rw [hj] at h
     simp only [Option.map_some,Option.some.injEq,Prod.mk.injEq] at h
     rw [← h.2,← h.1,List.length_cons];omega
theorem joinP_le {l r:List Int} {x:Tree} (h:joinP sort ch l=some (x,r)):r.length≤l.length:=by
 unfold joinP at h
 cases hj:joinL sort ch (l.length+1) l with
 | none=>rw [hj] at h;cases h
 | some z =>
  obtain ⟨ys,r2⟩:=z
  have h2:=joinL_le sort hch _ hj
  rw [hj] at h
  simp only [Option.map_some,Option.some.injEq,Prod.mk.injEq] at h
  rw [← h.2];omega
theorem choiceL_le:∀ (f:Nat) {l r:List Int} {xs:List Tree},choiceL sort ch f l=some (xs,r)→r.length+xs.length≤l.length+1
 | 0,_,_,_,h=>by cases h
 | f+1,l,r,xs,h=>by
  rw [choiceL] at h
  cases hj:joinP sort ch l with
  | none=>rw [hj] at h;cases h
  | some y =>
   obtain ⟨x,r1⟩:=y
   have h1:=joinP_le sort hch hj
   rw [hj] at h
   simp only at h
   split at h
   ·rename_i h124
    have ht:r1.tail.length+1=r1.length:=by
     cases r1 with
     | nil=>simp at h124
     | cons=>simp
    cases hc:choiceL sort ch f r1.tail with
    | none=>rw [hc] at h;cases h
    | some z =>
     obtain ⟨ys,r2⟩:=z
     have h2:=choiceL_le f hc
     rw [hc] at h
     simp only [Option.map_some,Option.some.injEq,Prod.mk.injEq] at h
     rw [← h.2,← h.1,List.length_cons];omega
   ·simp only [Option.some.injEq,Prod.mk.injEq] at h;rw [← h.2,← h.1];simp;omega
theorem choiceP_le {l r:List Int} {x:Tree} (h:choiceP sort ch l=some (x,r)):r.length≤l.length:=by
 unfold choiceP at h
 cases hj:choiceL sort ch (l.length+1) l with
 | none=>rw [hj] at h;cases h
 | some z =>
  obtain ⟨ys,r2⟩:=z
  have h2:=choiceL_le sort hch _ hj
  have h3:1≤ys.length:=by
   rw [choiceL] at hj
   split at hj
   ·cases hj
   ·split at hj
    ·rename_i x' r' _ _
     cases hc:choiceL sort ch l.length r'.tail with
     | none=>rw [hc] at hj;cases hj
     | some w=>rw [hc] at hj;simp only [Option.map_some,Option.some.injEq,Prod.mk.injEq] at hj;rw [← hj.1];simp
    ·simp only [Option.some.injEq,Prod.mk.injEq] at hj;rw [← hj.1];simp
  rw [hj] at h
  simp only [Option.map_some,Option.some.injEq,Prod.mk.injEq] at h
  rw [← h.2];omega
omit hch
theorem chP_le:∀ (f:Nat) (l:List Int) (x:Tree) (r:List Int),chP sort f l=some (x,r)→r.length≤l.length
 | 0,_,_,_,h=>by cases h
 | f+1,l,x,r,h=>choiceP_le sort (chP_le f) h
end
end Pat
set_option linter.unusedVariables false
set_option linter.unusedSimpArgs false
set_option maxRecDepth 100000
namespace Go.Proofs.YtfnddhbiolpmgaaGreatDoor
open Go Nv Pat
def hintJ1:Nat→Hint:=fun i=>if i=3 then .own ⟨5,39⟩ else if i=32 then .freeze else .no
@[go_sem] theorem hintJ1_at (i:Nat):hintJ1 i=if i=3 then .own ⟨5,39⟩ else if i=32 then .freeze else .no:=nrfl rfl
theorem mk_many {l:List Tree} (h:2≤l.length):mkJoin l=.mk 3 [] l 0 0∧mkChoice l=.mk 4 [] l 0 0:=by
 match l,h with
 | x::y::l,_=>exact ⟨rfl,rfl⟩
theorem join44 (f:Nat) (ih:CH f) (l r:List Int) (hl:l.length≤10000) (hc:Chars l) (hf:r.length≤f):PS 41 [] l r ((joinP sortR (chP sortR f) r).map fun x=>(nodeA x.1,x.2)):=by
 refine PS.ofW fn41 hintJ1 (Nat.le_refl _) fun A B u e=>?_
 have hl':l.length≤1000000:=by omega
 have h0:=hc.nonneg
 have hul:u.length+r.length=l.length:=by rw [e,List.length_append]
 obtain ⟨tot,htot⟩:∃ tot,tot=joinL sortR (chP sortR f) (r.length+1) r:=⟨_,rfl⟩
 have hj:joinP sortR (chP sortR f) r=tot.map fun y=>(mkJoin y.1,y.2):=by rw [joinP,htot]
 rw [hj]
 clear hj
 simp (disch:=omega) only [go_sem,boxP,apR]
 refine wL_ind (fun (r':List Int) fr σ=>fr 0=.ptr (List.length A) 0∧fr 2=.ptr (List.length A+(List.length B+1)) 0∧∃ (acc:List Tree) (f' g n:Nat) (u':List Int) (rest:Nv.ST),n=acc.length∧acc.length+r'.length≤r.length∧l=u'++r' ∧
  r'.length<f'∧(joinL sortR (chP sortR f) f' r').map (fun y=>(acc++y.1,y.2))=tot∧fr 3=.own (List.length A+(List.length B+1+1)) g 0 n ∧
   σ=A++boxP l u'.length::(B++.box 39 [.d (.int .i64 0),.d .nilslice,.d .nilslice,.d (.int .i64 0),.d (.int .i64 0)]::.arr g ⟨5,39⟩ (acc.map nodeD)::rest)) (fun r'=>r'.length) ?_ r ?_
 ·rintro r' fr σ ⟨f0,f2,acc,f',g,n,u',rest,hn,hal,e',hf',ht,f3,rfl⟩ ihl
  have hom:(acc.map nodeD).length=n:=by simp [hn]
  have hta:=take_all (acc.map nodeD) n hom
  obtain ⟨f',rfl⟩:∃ f2,f'=f2+1:=⟨f' - 1,by omega⟩
  rw [joinL] at ht
  by_cases hstop:r'.headD (-1)<0∨r'.headD (-1)=124∨r'.headD (-1)=41
  ·rw [if_pos hstop] at ht
   simp only [Option.map_some,List.append_nil] at ht
   clear ihl
   by_cases s1:r'.headD (-1)<0
   case' pos =>
    have s1':¬ 0≤r'.headD (-1):=by omega
    simp (disch:=omega) only [go_sem,f0]
    refine (peekL l u' r' e' hl' A _).at ?_
    simp (disch:=omega) only [go_sem,s1']
   case' neg =>
    have s1':0≤r'.headD (-1):=by omega
    by_cases s2:r'.headD (-1)=124
    case' pos =>
     simp (disch:=omega) only [go_sem,f0]
     refine (peekL l u' r' e' hl' A _).at ?_
     simp (disch:=omega) only [go_sem,s1',f0]
     refine (peekL l u' r' e' hl' A _).at ?_
     simp (disch:=omega) only [go_sem,s2]
    case' neg =>
     have s3:r'.headD (-1)=41:=by omega
     simp (disch:=omega) only [go_sem,f0]
     refine (peekL l u' r' e' hl' A _).at ?_
     simp (disch:=omega) only [go_sem,s1',f0]
     refine (peekL l u' r' e' hl' A _).at ?_
     simp (disch:=omega) only [go_sem,s2,f0]
     refine (peekL l u' r' e' hl' A _).at ?_
     simp (disch:=omega) only [go_sem,s3]
   all_goals
    rw [← ht]
    by_cases n0:n=0
    ·have ha:acc=[]:=List.eq_nil_of_length_eq_zero (by omega)
     have n0':(n:Int)=0:=by omega
     simp (disch:=omega) only [go_sem,f2,f3,n0',ha,Option.map_some,mkJoin,boxP,apR]
     exact ⟨_,rfl,wk_none,u',_,e',rfl⟩
    by_cases n1:n=1
    ·obtain ⟨x,ha⟩:∃ x,acc=[x]:=by
      match acc,(by omega:acc.length=1) with
      | [x],_=>exact ⟨x,rfl⟩
     have n1':(n:Int)=1:=by omega
     have n0':¬ (n:Int)=0:=by omega
     have z0:(0:Int)<(n:Int):=by omega
     simp (disch:=omega) only [go_sem,f2,f3,n0',n1',ha,z0,List.map_cons,List.map_nil,nodeD_eq,nodeC,Option.map_some,mkJoin,Nat.zero_add,boxP,apR]
     exact ⟨_,rfl,wkB5 (.d (.refl _)) (.d (.refl _)) (.d (.refl _)) (.d (.refl _)) (.d (.refl _)),u',_,e',rfl⟩
    ·have n0':¬ (n:Int)=0:=by omega
     have n1':¬ (n:Int)=1:=by omega
     have hm:=(mk_many (l:=acc) (by omega)).1
     simp (disch:=omega) only [go_sem,f2,f3,n0',n1',hom,hta,Option.map_some,hm,Nat.zero_add,Nat.le_refl,boxP,apR]
     exact ⟨_,rfl,wk_many 3 acc,u',_,e',rfl⟩
  ·rw [if_neg hstop] at ht
   have s1':0≤r'.headD (-1):=by omega
   have s2:¬ r'.headD (-1)=124:=by omega
   have s3:¬ r'.headD (-1)=41:=by omega
   simp (disch:=omega) only [go_sem,f0]
   refine (peekL l u' r' e' hl' A _).at ?_
   simp (disch:=omega) only [go_sem,s1',f0]
   refine (peekL l u' r' e' hl' A _).at ?_
   simp (disch:=omega) only [go_sem,s2,f0]
   refine (peekL l u' r' e' hl' A _).at ?_
   simp (disch:=omega) only [go_sem,s3,f0]
   refine (repeat67 f ih l r' hl hc (by omega)).at A _ u' e' ?_ ?_
   ·intro v r2 u2 τ2 ho e2
    cases hr:repP sortR (chP sortR f) r' with
    | none=>rw [hr] at ho;cases ho
    | some y =>
     obtain ⟨x,r2'⟩:=y
     rw [hr] at ho ht
     simp only [Option.map_some,Option.some.injEq,Prod.mk.injEq] at ho
     obtain ⟨rfl,rfl⟩:=ho
     have hlt:=repP_lt sortR (chP_le sortR f) hr
     have hb1:(n+1) * 72≤140737488355328:=by omega
     have hna:nodeA x=.agg [.d (.int .i64 x.kind),.d (setD x.set),.d (.list 5 (x.sub.map nodeD)),.d (.int .i64 x.min),.d (.int .i64 x.max)]:=rfl
     simp (disch:=omega) only [go_sem,f3,hna,hom,hta,hb1,Nat.zero_add,Nat.le_refl,boxP,apR]
     refine ihl r2' _ _ hlt ⟨?_,?_,acc++[x],f',g+1,n+1,u2,rest++(τ2++[.arr 0 ⟨5,39⟩ [nodeD x]]),by rw [List.length_append,hn];rfl,by rw [List.length_append,List.length_singleton];omega,e2,by omega,?_,?_,?_⟩
     rotate_right 1
     ·rw [List.map_append];simp [nodeD_eq,nodeC,boxP]
     ·simp (disch:=omega) only [go_sem,f0]
     ·simp (disch:=omega) only [go_sem,f2]
     ·rw [← ht]
      simp only
      cases joinL sortR (chP sortR f) f' r2' with
      | none=>rfl
      | some y=>simp
     ·simp (disch:=omega) only [go_sem]
   ·intro ho σ'
    cases hr:repP sortR (chP sortR f) r' with
    | none =>
     rw [hr] at ht
     rw [← ht,Option.map_none]
     simp (disch:=omega) only [go_sem,Option.map_none];exact ⟨_,rfl⟩
    | some y=>rw [hr] at ho;cases ho
 ·refine ⟨?_,?_,[],r.length+1,0,0,u,[],rfl,by simp,e,by omega,?_,?_,?_⟩
  ·simp (disch:=omega) only [go_sem]
  ·simp (disch:=omega) only [go_sem]
  ·rw [htot]
   cases joinL sortR (chP sortR f) (r.length+1) r with
   | none=>rfl
   | some y=>rfl
  ·simp (disch:=omega) only [go_sem,apR]
  ·simp [boxP]
end Go.Proofs.YtfnddhbiolpmgaaGreatDoor
set_option linter.unusedVariables false
set_option linter.unusedSimpArgs false
set_option maxRecDepth 100000
namespace Go.Proofs.YtfnddhbiolpmgaaGreatDoor
open Go Nv Pat
def hintC2:Nat→Hint:=fun i=>if i=20 then .freeze else .no
@[go_sem] theorem hintC2_at (i:Nat):hintC2 i=if i=20 then .freeze else .no:=nrfl rfl
theorem choice28 (f:Nat) (ih:CH f) (l r:List Int) (hl:l.length≤10000) (hc:Chars l) (hf:r.length≤f):PS 27 [] l r ((choiceP sortR (chP sortR f) r).map fun x=>(nodeA x.1,x.2)):=by
 refine PS.ofW fn27 hintC2 (Nat.le_refl _) fun A B u e=>?_
 have hl':l.length≤1000000:=by omega
 have hul:u.length+r.length=l.length:=by rw [e,List.length_append]
 obtain ⟨tot,htot⟩:∃ tot,tot=choiceL sortR (chP sortR f) (r.length+1) r:=⟨_,rfl⟩
 have hj:choiceP sortR (chP sortR f) r=tot.map fun y=>(mkChoice y.1,y.2):=by rw [choiceP,htot]
 rw [hj]
 clear hj
 rw [choiceL] at htot
 simp (disch:=omega) only [go_sem,boxP,apR]
 refine (join44 f ih l r hl hc hf).at A _ u e ?_ ?_
 ·intro v r1 u1 τ1 ho e1
  cases hjn:joinP sortR (chP sortR f) r with
  | none=>rw [hjn] at ho;cases ho
  | some y =>
   obtain ⟨x,r1'⟩:=y
   rw [hjn] at ho htot
   simp only [Option.map_some,Option.some.injEq,Prod.mk.injEq] at ho
   obtain ⟨rfl,rfl⟩:=ho
   simp only at htot
   have hle:=joinP_le sortR (chP_le sortR f) hjn
   have hna:nodeA x=.agg [.d (.int .i64 x.kind),.d (setD x.set),.d (.list 5 (x.sub.map nodeD)),.d (.int .i64 x.min),.d (.int .i64 x.max)]:=rfl
   simp (disch:=omega) only [go_sem,hna,apR]
   refine wL_ind (fun (r':List Int) fr σ=>fr 0=.ptr (List.length A) 0∧fr 2=.ptr (List.length A+(List.length B+1)) 0∧∃ (acc:List Tree) (f' g n:Nat) (u':List Int) (rest:Nv.ST),n=acc.length∧1≤n∧acc.length+r'.length≤r.length+1∧l=u'++r' ∧
    r'.length<f'+1∧(if r'.headD (-1)=124 then (choiceL sortR (chP sortR f) f' r'.tail).map (fun y=>(acc++y.1,y.2)) else some (acc,r'))=tot∧fr 3=.own (List.length A+(List.length B+(List.length τ1+1)+1)) g 0 n ∧
     σ=A++boxP l u'.length::(B++.box 39 [.d (.int .i64 0),.d .nilslice,.d .nilslice,.d (.int .i64 0),.d (.int .i64 0)]::(τ1++.arr g ⟨5,39⟩ (acc.map nodeD)::rest))) (fun r'=>r'.length) ?_ r1' ?_
   ·rintro r' fr σ ⟨f0,f2,acc,f',g,n,u',rest,hn,hn1,hal,e',hf',ht,f3,rfl⟩ ihl
    have hom:(acc.map nodeD).length=n:=by simp [hn]
    have hta:=take_all (acc.map nodeD) n hom
    by_cases hs:r'.headD (-1)=124
    ·rw [if_pos hs] at ht
     have htl:r'.tail.length+1=r'.length:=by
      cases r' with
      | nil=>simp at hs
      | cons=>simp
     obtain ⟨f',rfl⟩:∃ f2,f'=f2+1:=⟨f' - 1,by omega⟩
     rw [choiceL] at ht
     obtain ⟨u2,e2,hsk⟩:=skip_yes l u' r' e' hl' 124 (by omega) hs
     simp (disch:=omega) only [go_sem,f0]
     refine (hsk A _).at ?_
     simp (disch:=omega) only [go_sem,f0,f3,apR]
     refine (join44 f ih l r'.tail hl hc (by omega)).at A _ u2 e2 ?_ ?_
     ·intro v r3 u3 τ3 ho e3
      cases hj2:joinP sortR (chP sortR f) r'.tail with
      | none=>rw [hj2] at ho;cases ho
      | some y =>
       obtain ⟨z,r3'⟩:=y
       rw [hj2] at ho ht
       simp only [Option.map_some,Option.some.injEq,Prod.mk.injEq] at ho
       obtain ⟨rfl,rfl⟩:=ho
       have hlt:=joinP_le sortR (chP_le sortR f) hj2
       have hb1:(n+1) * 72≤140737488355328:=by omega
       have hnz:nodeA z=.agg [.d (.int .i64 z.kind),.d (setD z.set),.d (.list 5 (z.sub.map nodeD)),.d (.int .i64 z.min),.d (.int .i64 z.max)]:=rfl
       simp (disch:=omega) only [go_sem,hnz,hom,hta,hb1,Nat.zero_add,Nat.le_refl,boxP,apR]
       refine ihl r3' _ _ (by omega) ⟨?_,?_,acc++[z],f',g+1,n+1,u3,rest++(τ3++[.arr 0 ⟨5,39⟩ [nodeD z]]),by rw [List.length_append,hn];rfl,by omega,by rw [List.length_append,List.length_singleton];omega,e3,by omega,?_,?_,?_⟩
       rotate_right 1
       ·rw [List.map_append];simp [nodeD_eq,nodeC,boxP]
       ·simp (disch:=omega) only [go_sem,f0]
       ·simp (disch:=omega) only [go_sem,f2]
       ·rw [← ht]
        simp only
        by_cases h3:r3'.headD (-1)=124
        ·rw [if_pos h3,if_pos h3]
         cases choiceL sortR (chP sortR f) f' r3'.tail with
         | none=>rfl
         | some y=>simp
        ·rw [if_neg h3,if_neg h3];rfl
       ·simp (disch:=omega) only [go_sem]
     ·intro ho σ'
      cases hj2:joinP sortR (chP sortR f) r'.tail with
      | none =>
       rw [hj2] at ht
       rw [← ht]
       simp (disch:=omega) only [go_sem,Option.map_none];exact ⟨_,rfl⟩
      | some y=>rw [hj2] at ho;cases ho
    ·rw [if_neg hs] at ht
     rw [← ht]
     simp (disch:=omega) only [go_sem,f0]
     refine (skip_no l u' r' e' hl' 124 hs A _).at ?_
     by_cases n1:n=1
     ·obtain ⟨y,ha⟩:∃ y,acc=[y]:=by
       match acc,(by omega:acc.length=1) with
       | [y],_=>exact ⟨y,rfl⟩
      have n1':(n:Int)=1:=by omega
      have z0:(0:Int)<(n:Int):=by omega
      simp (disch:=omega) only [go_sem,f2,f3,n1',ha,z0,List.map_cons,List.map_nil,nodeD_eq,nodeC,Option.map_some,mkChoice,Nat.zero_add,boxP,apR]
      exact ⟨_,rfl,wkB5 (.d (.refl _)) (.d (.refl _)) (.d (.refl _)) (.d (.refl _)) (.d (.refl _)),u',_,e',rfl⟩
     ·have n1':¬ (n:Int)=1:=by omega
      have hm:=(mk_many (l:=acc) (by omega)).2
      simp (disch:=omega) only [go_sem,f2,f3,n1',hom,hta,Option.map_some,hm,Nat.zero_add,Nat.le_refl,boxP,apR]
      exact ⟨_,rfl,wk_many 4 acc,u',_,e',rfl⟩
   ·refine ⟨?_,?_,[x],r.length,0,1,u1,[],rfl,by omega,by simp;omega,e1,by omega,?_,?_,?_⟩
    ·simp (disch:=omega) only [go_sem]
    ·simp (disch:=omega) only [go_sem]
    ·rw [htot]
     by_cases h1:r1'.headD (-1)=124
     ·rw [if_pos h1,if_pos h1];rfl
     ·rw [if_neg h1,if_neg h1]
    ·simp (disch:=omega) only [go_sem]
    ·simp [boxP,nodeD_eq,nodeC]
 ·intro ho σ'
  cases hjn:joinP sortR (chP sortR f) r with
  | none =>
   rw [hjn] at htot
   rw [htot]
   simp (disch:=omega) only [go_sem,Option.map_none];exact ⟨_,rfl⟩
  | some y=>rw [hjn] at ho;cases ho
theorem choices:∀ f,CH f
 | 0=>fun l r hl hc hf=>by omega
 | f+1=>fun l r hl hc hf=>choice28 f (choices f) l r hl hc (by omega)
end Go.Proofs.YtfnddhbiolpmgaaGreatDoor
