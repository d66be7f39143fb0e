/- Part of a proof about the functions of this seat. -/
import Derived.Test.YtngdkenddfdhaaaGreatDoorG26Fq32
import Derived.Test.YtngdkenddfdhaaaGreatDoorG12N32
set_option linter.unusedVariables false
set_option linter.unusedSimpArgs false
set_option maxRecDepth 100000
namespace Go.Proofs.YtngdkenddfdhaaaGreatDoor
open Go Nv Pat
theorem large_small {n:Tree} (h:largeB n=false):n.nodes≤200:=by
 unfold largeB grB at h
 simp only [Bool.or_eq_false_iff,decide_eq_false_iff_not] at h
 omega
theorem large_thin {n:Tree} (h:largeB n=false):Thin n:=by
 unfold largeB grB at h
 simp only [Bool.or_eq_false_iff,decide_eq_false_iff_not] at h
 exact thin_of n h.1.2
theorem law6 (n:Tree) (s:List UInt8) (hs:s.length≤140737488355328):PCall Tryz.prog 6 [nodeA n,.d (.str s)] (.d (.bool true)):=by
 refine fn6.pure noHint (Nat.le_refl _) (by simp only [go_sem,nodeA,nodeF,setD]) (by simp only [go_sem]) ?_
 simp (disch:=omega) only [go_sem,nodeA,nodeF]
 refine (large7 n).at ?_
 cases hL:largeB n with
 | true =>
  simp (disch:=omega) only [go_sem]
  refine awake8.at ?_
  simp (disch:=omega) only [go_sem]
 | false =>
 have hn:=large_small hL
 have ht:=large_thin hL
 by_cases hls:(20:Int)<s.length
 ·simp (disch:=omega) only [go_sem,hls]
  refine awake8.at ?_
  simp (disch:=omega) only [go_sem]
 simp (disch:=omega) only [go_sem,hls,nodeA,nodeF]
 refine (check35 n ht).at ?_
 by_cases hc:¬ chkE n=0
 ·simp (disch:=omega) only [go_sem,hc]
  refine awake8.at ?_
  simp (disch:=omega) only [go_sem]
 have hc:chkE n=0:=by omega
 have hc0:=(chkE_ok hc).2
 simp (disch:=omega) only [go_sem,hc,nodeA,nodeF]
 refine (weight30 n (by omega)).at ?_
 by_cases hw:2000<wt n
 ·simp (disch:=omega) only [go_sem,hw]
  refine awake8.at ?_
  simp (disch:=omega) only [go_sem]
 simp (disch:=omega) only [go_sem,hw,nodeA,nodeF]
 refine (build9 n ht (by omega)).at ?_
 by_cases hb:3000<sz n
 ·have hE:buildE n=5:=by unfold buildE szP;rw [if_pos hc,if_pos (by omega)]
  have hA:buildA n=auZ:=by unfold buildA;rw [if_neg (by rw [hE];decide)]
  rw [hE,hA]
  simp (disch:=omega) only [go_sem,auZ,nodeA,nodeF]
  refine awake8.at ?_
  simp (disch:=omega) only [go_sem]
 ·obtain ⟨hE,hA⟩:=kbuild hc (by omega)
  have hfit:=build_fit hc0 ht (by omega)
  have hok:okA (buildM n)=true:=okA_proper.2 (built_proper (build_is (chk_wf n hc0)) hc0 (by omega))
  have hm:=built_match (build_is (chk_wf n hc0)) hc (by omega) s
  rw [hE,hA]
  simp (disch:=omega) only [go_sem,auA,auF,rowsD,nodeA,nodeF]
  refine (check17 _ hfit).dat ?_
  simp (disch:=omega) only [go_sem,hok,auA,auF,rowsD]
  refine (match16 _ hfit s (by omega)).dat ?_
  simp (disch:=omega) only [go_sem,hm,nodeA,nodeF]
  refine (match17 n ht s (by omega)).dat ?_
  simp (disch:=omega) only [go_sem,beq_self_eq_true]
  refine awake8.dat ?_
  simp (disch:=omega) only [go_sem]
end Go.Proofs.YtngdkenddfdhaaaGreatDoor
set_option linter.unusedVariables false
set_option linter.unusedSimpArgs false
set_option maxRecDepth 100000
namespace Go.Proofs.YtngdkenddfdhaaaGreatDoor
open Go Nv Pat
/- What comes in,as trees. -/
theorem int_td {n:Nat} {t:TypeId} {k:IntKind} {ds:List DV} (ht:Tryz.prog.underlying t=some (.int k)) (h:TD Tryz.prog n t ds):∃ z,ds=[.int k z]∧(Lit.int k z).wf=true:=by
 cases n with
 | zero=>exact h.elim
 | succ n=>simp only [TD,ht] at h;exact h
theorem str_td {n:Nat} {t:TypeId} {ds:List DV} (ht:Tryz.prog.underlying t=some .string) (h:TD Tryz.prog n t ds):∃ s,ds=[.str s]:=by
 cases n with
 | zero=>exact h.elim
 | succ n=>simp only [TD,ht] at h;obtain ⟨s,h,_⟩:=h;exact ⟨s,h⟩
theorem rows_of {α:Type} {Q:DV→Prop} {f:α→DV}:∀ {xs:List DV},(∀ x,x∈xs→∃ a,x=f a)→∃ l:List α,xs=l.map f
 | [],_=>⟨[],rfl⟩
 | x::xs,h=>by
  obtain ⟨a,rfl⟩:=h x (by simp)
  obtain ⟨l,rfl⟩:=rows_of (Q:=Q) (xs:=xs) fun y hy=>h y (by simp [hy])
  exact ⟨a::l,rfl⟩
theorem range_td {n:Nat} {cs:List DV} (h:TD Tryz.prog n 57 cs):∃ r:Int × Int,cs=[.int .i32 r.1,.int .i32 r.2]:=by
 cases n with
 | zero=>exact h.elim
 | succ n =>
  simp only [TD,go_sem,List.mem_cons,List.not_mem_nil,or_false,forall_eq_or_imp,forall_eq] at h
  obtain ⟨hl,h0,h1⟩:=h
  match cs,hl with
  | [a,b],_ =>
   simp only [List.drop,List.take] at h0 h1
   obtain ⟨z0,e0,_⟩:=int_td Tryz.underlying21 h0
   obtain ⟨z1,e1,_⟩:=int_td Tryz.underlying21 h1
   simp only [List.cons.injEq,and_true] at e0 e1
   exact ⟨(z0,z1),by rw [e0,e1]⟩
theorem set_td {n:Nat} {ds:List DV} (h:TD Tryz.prog n 22 ds):∃ s,ds=[setD s]:=by
 cases n with
 | zero=>exact h.elim
 | succ n =>
  simp only [TD,go_sem] at h
  obtain ⟨xs,rfl,_,hx⟩:=h
  obtain ⟨l,rfl⟩:=rows_of (Q:=fun _=>True) (f:=rgD) fun x hm=>by
   obtain ⟨cs,rfl,hc⟩:=hx x hm
   obtain ⟨r,rfl⟩:=range_td hc
   exact ⟨r,by simp only [ofCells,go_sem,rgD]⟩
  exact ⟨l,rfl⟩
theorem node_td:∀ (n:Nat) {cs:List DV},TD Tryz.prog n 25 cs→∃ t:Tree,cs=nodeC t
 | 0,_,h=>h.elim
 | 1,_,h=>by
  simp only [TD,go_sem,List.mem_cons,List.not_mem_nil,or_false,forall_eq_or_imp,forall_eq] at h
 | n+2,cs,h=>by
  unfold TD at h
  simp only [go_sem,List.mem_cons,List.not_mem_nil,or_false,forall_eq_or_imp,forall_eq] at h
  obtain ⟨hl,h0,h1,h2,h3,h4⟩:=h
  match cs,hl with
  | [a,b,c,d,e],_ =>
   simp only [List.drop,List.take] at h0 h1 h2 h3 h4
   obtain ⟨z0,e0,_⟩:=int_td Tryz.underlying3 h0
   obtain ⟨s,e1⟩:=set_td h1
   obtain ⟨z3,e3,_⟩:=int_td Tryz.underlying3 h3
   obtain ⟨z4,e4,_⟩:=int_td Tryz.underlying3 h4
   unfold TD at h2
   simp only [go_sem] at h2
   obtain ⟨xs,e2,_,hx⟩:=h2
   obtain ⟨l,rfl⟩:=rows_of (Q:=fun _=>True) (f:=nodeD) fun x hm=>by
    obtain ⟨cs,rfl,hc⟩:=hx x hm
    obtain ⟨t,rfl⟩:=node_td n hc
    exact ⟨t,by simp only [ofCells,go_sem,nodeD_eq]⟩
   simp only [List.cons.injEq,and_true] at e0 e1 e2 e3 e4
   exact ⟨.mk z0 s l z3 z4,by rw [e0,e1,e2,e3,e4];simp only [nodeC,Tree.kind,Tree.set,Tree.sub,Tree.min,Tree.max]⟩
end Go.Proofs.YtngdkenddfdhaaaGreatDoor
