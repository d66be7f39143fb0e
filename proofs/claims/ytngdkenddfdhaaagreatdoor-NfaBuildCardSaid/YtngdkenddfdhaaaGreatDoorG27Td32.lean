/- Part of a proof about the functions of this seat. -/
import Derived.Test.YtngdkenddfdhaaaGreatDoorG22Pars
import Derived.Test.YtngdkenddfdhaaaGreatDoorG26Fs32
import Derived.Test.YtngdkenddfdhaaaGreatDoorG11O32
set_option linter.unusedVariables false
set_option linter.unusedSimpArgs false
set_option maxRecDepth 100000
namespace Go.Proofs.YtngdkenddfdhaaaGreatDoor
open Go Nv Pat
theorem law3 (n:Tree):PCall Tryz.prog 3 [nodeA n] (.d (.bool true)):=by
 refine fn3.pure noHint (Nat.le_refl _) (by simp only [go_sem,nodeA,nodeF,setD]) (by simp only [go_sem]) ?_
 simp (disch:=omega) only [go_sem,nodeA,nodeF]
 refine (large7 n).at ?_
 cases hL:largeB n with
 | true =>
  simp (disch:=omega) only [go_sem]
  refine awake8.at ?_
  simp (disch:=omega) only [go_sem]
 | false =>
 have hn:=large_small hL
 have ht:=large_thin hL
 have hr:=refbuild10 n ht (by omega)
 simp (disch:=omega) only [go_sem,nodeA,nodeF]
 refine (build9 n ht (by omega)).at ?_
 by_cases hE:buildE n=0
 ·have hA:buildA n=auA (buildM n):=by rw [buildA,if_pos hE]
  have hc:chkE n=0∧sz n≤3000:=by
   unfold buildE szP at hE
   by_cases hc:chkE n=0
   ·rw [if_pos hc] at hE
    refine ⟨hc,?_⟩
    split at hE
    ·omega
    ·omega
   ·rw [if_neg hc] at hE;exact absurd hE hc
  have hfit:=build_fit (chkE_ok hc.1).2 ht hc.2
  have hs:=same11 _ hfit
  rw [hA,hE] at hr ⊢
  simp (disch:=omega) only [go_sem,auA,auF,rowsD,nodeA,nodeF]
  refine hr.at ?_
  simp (disch:=omega) only [go_sem,auA,auF,rowsD]
  refine hs.at ?_
  simp (disch:=omega) only [go_sem]
  refine awake8.at ?_
  simp (disch:=omega) only [go_sem]
 ·have hA:buildA n=auZ:=by rw [buildA,if_neg hE]
  rw [hA] at hr ⊢
  simp (disch:=omega) only [go_sem,auZ,nodeA,nodeF]
  refine hr.at ?_
  simp (disch:=omega) only [go_sem,auZ]
  refine same11z.at ?_
  simp (disch:=omega) only [go_sem]
  refine awake8.at ?_
  simp (disch:=omega) only [go_sem]
end Go.Proofs.YtngdkenddfdhaaaGreatDoor
set_option linter.unusedVariables false
set_option linter.unusedSimpArgs false
set_option maxRecDepth 100000
namespace Go.Proofs.YtngdkenddfdhaaaGreatDoor
open Go Nv Pat
/- What comes in,as trees. -/
theorem int_td {n:Nat} {t:TypeId} {k:IntKind} {ds:List DV} (ht:Tryz.prog.underlying t=some (.int k)) (h:TD Tryz.prog n t ds):∃ z,ds=[.int k z]∧(Lit.int k z).wf=true:=by
 cases n with
 | zero=>exact h.elim
 | succ n=>simp only [TD,ht] at h;exact h
theorem rows_of {α:Type} {Q:DV→Prop} {f:α→DV}:∀ {xs:List DV},(∀ x,x∈xs→∃ a,x=f a)→∃ l:List α,xs=l.map f
 | [],_=>⟨[],rfl⟩
 | x::xs,h=>by
  obtain ⟨a,rfl⟩:=h x (by simp)
  obtain ⟨l,rfl⟩:=rows_of (Q:=Q) (xs:=xs) fun y hy=>h y (by simp [hy])
  exact ⟨a::l,rfl⟩
theorem range_td {n:Nat} {cs:List DV} (h:TD Tryz.prog n 57 cs):∃ r:Int × Int,cs=[.int .i32 r.1,.int .i32 r.2]:=by
 cases n with
 | zero=>exact h.elim
 | succ n =>
  simp only [TD,go_sem,List.mem_cons,List.not_mem_nil,or_false,forall_eq_or_imp,forall_eq] at h
  obtain ⟨hl,h0,h1⟩:=h
  match cs,hl with
  | [a,b],_ =>
   simp only [List.drop,List.take] at h0 h1
   obtain ⟨z0,e0,_⟩:=int_td Tryz.underlying21 h0
   obtain ⟨z1,e1,_⟩:=int_td Tryz.underlying21 h1
   simp only [List.cons.injEq,and_true] at e0 e1
   exact ⟨(z0,z1),by rw [e0,e1]⟩
theorem set_td {n:Nat} {ds:List DV} (h:TD Tryz.prog n 22 ds):∃ s,ds=[setD s]:=by
 cases n with
 | zero=>exact h.elim
 | succ n =>
  simp only [TD,go_sem] at h
  obtain ⟨xs,rfl,_,hx⟩:=h
  obtain ⟨l,rfl⟩:=rows_of (Q:=fun _=>True) (f:=rgD) fun x hm=>by
   obtain ⟨cs,rfl,hc⟩:=hx x hm
   obtain ⟨r,rfl⟩:=range_td hc
   exact ⟨r,by simp only [ofCells,go_sem,rgD]⟩
  exact ⟨l,rfl⟩
theorem node_td:∀ (n:Nat) {cs:List DV},TD Tryz.prog n 25 cs→∃ t:Tree,cs=nodeC t
 | 0,_,h=>h.elim
 | 1,_,h=>by
  simp only [TD,go_sem,List.mem_cons,List.not_mem_nil,or_false,forall_eq_or_imp,forall_eq] at h
 | n+2,cs,h=>by
  unfold TD at h
  simp only [go_sem,List.mem_cons,List.not_mem_nil,or_false,forall_eq_or_imp,forall_eq] at h
  obtain ⟨hl,h0,h1,h2,h3,h4⟩:=h
  match cs,hl with
  | [a,b,c,d,e],_ =>
   simp only [List.drop,List.take] at h0 h1 h2 h3 h4
   obtain ⟨z0,e0,_⟩:=int_td Tryz.underlying3 h0
   obtain ⟨s,e1⟩:=set_td h1
   obtain ⟨z3,e3,_⟩:=int_td Tryz.underlying3 h3
   obtain ⟨z4,e4,_⟩:=int_td Tryz.underlying3 h4
   unfold TD at h2
   simp only [go_sem] at h2
   obtain ⟨xs,e2,_,hx⟩:=h2
   obtain ⟨l,rfl⟩:=rows_of (Q:=fun _=>True) (f:=nodeD) fun x hm=>by
    obtain ⟨cs,rfl,hc⟩:=hx x hm
    obtain ⟨t,rfl⟩:=node_td n hc
    exact ⟨t,by simp only [ofCells,go_sem,nodeD_eq]⟩
   simp only [List.cons.injEq,and_true] at e0 e1 e2 e3 e4
   exact ⟨.mk z0 s l z3 z4,by rw [e0,e1,e2,e3,e4];simp only [nodeC,Tree.kind,Tree.set,Tree.sub,Tree.min,Tree.max]⟩
end Go.Proofs.YtngdkenddfdhaaaGreatDoor
