/- Part of a proof about the functions of this seat. -/
import Derived.Test.YtngdkenddfdhaaaDoorG22Fq3e
import Derived.Test.YtngdkenddfdhaaaDoorG11O3e
import Derived.Test.YtngdkenddfdhaaaDoorG17Fv3e
import Derived.Lib.ValidLaws
set_option linter.unusedVariables false
set_option linter.unusedSimpArgs false
set_option maxRecDepth 100000
namespace Go.Proofs.YtngdkenddfdhaaaDoor
open Go Nv Pat
/- The exported functions on automata that come in. -/
def gtB (A:Au):Bool:=decide (30<A.arcs.length) || decide (30<A.emp.length) || A.arcs.any (fun l=>decide (30<l.length)) || A.emp.any (fun l=>decide (30<l.length))
theorem gt_fit {A:Au} (h:gtB A=false):A.arcs.length≤30∧A.emp.length≤30∧(∀ l,l∈A.arcs→l.length≤30)∧∀ l,l∈A.emp→l.length≤30:=by
 unfold gtB at h
 simp only [Bool.or_eq_false_iff,decide_eq_false_iff_not,List.any_eq_false,decide_eq_true_eq] at h
 obtain ⟨⟨⟨h1,h2⟩,h3⟩,h4⟩:=h
 exact ⟨by omega,by omega,fun l hl=>by have:=h3 l hl;omega,fun l hl=>by have:=h4 l hl;omega⟩
theorem fit_of {A:Au} (h:gtB A=false):Fit A:=by
 obtain ⟨h1,h2,h3,h4⟩:=gt_fit h
 exact ⟨by omega,by omega,fun l hl=>by have:=h3 l hl;omega,fun l hl=>by have:=h4 l hl;omega⟩
theorem any_at {α:Type} {l:List α} {f:α→Bool} {d:α} {i:Nat} (hi:i<l.length) (h:f (l.getD i d)=true):l.any f=true:=by
 rw [List.any_eq_true]
 exact ⟨_,by rw [List.getD_eq_getElem?_getD,List.getElem?_eq_getElem hi];exact List.getElem_mem _,h⟩
theorem none_all {α:Type} {l:List α} {f:α→Bool} {d:α} (h:∀ i,i<l.length→f (l.getD i d)=false):l.any f=false:=by
 rw [List.any_eq_false]
 intro x hx
 obtain ⟨i,hi,rfl⟩:=List.mem_iff_getElem.1 hx
 have:=h i hi
 rw [List.getD_eq_getElem?_getD,List.getElem?_eq_getElem hi] at this
 rw [show f l[i]=false from this];simp
theorem great6 (A:Au):PCall Tryd.prog 6 [auA A] (.d (.int .i64 (if gtB A then 1 else 0))):=by
 refine fn6.pure noHint (Nat.le_refl _) (by simp only [go_sem,auA,auF,rowsD]) (by simp only [go_sem]) ?_
 have hla:((arcsL A.arcs).map (DV.list 3)).length=A.arcs.length:=by simp [arcsL]
 have hle:((intsL A.emp).map (DV.list 1)).length=A.emp.length:=by simp [intsL]
 obtain ⟨S,hS⟩:∃ S,S=[Blk.box 25 [AV.d (.int .i64 A.start),AV.d (.int .i64 A.accept),AV.d (.list 1 ((arcsL A.arcs).map (DV.list 3))),AV.d (.list 1 ((intsL A.emp).map (DV.list 1)))]]:=⟨_,rfl⟩
 have b0:stGet S 0=.box 25 [AV.d (.int .i64 A.start),AV.d (.int .i64 A.accept),AV.d (.list 1 ((arcsL A.arcs).map (DV.list 3))),AV.d (.list 1 ((intsL A.emp).map (DV.list 1)))]:=by rw [hS];rfl
 by_cases c1:(30:Int)<A.arcs.length
 ·have e:gtB A=true:=by unfold gtB;rw [decide_eq_true (show 30<A.arcs.length by omega)];rfl
  simp (disch:=omega) only [go_sem,auA,auF,rowsD,hla,hle,c1,e]
 by_cases c2:(30:Int)<A.emp.length
 ·have e:gtB A=true:=by unfold gtB;rw [decide_eq_true (show 30<A.emp.length by omega)];simp
  simp (disch:=omega) only [go_sem,auA,auF,rowsD,hla,hle,c1,c2,e]
 simp (disch:=omega) only [go_sem,auA,auF,rowsD,hla,hle,c1,c2]
 rw [← hS]
 refine wL_ind (fun (s:Nat) fr σ=>s≤A.arcs.length∧fr 1=.ptr 0 0∧fr 3=.d (.int .i64 s)∧σ=S∧∀ i,i<s→decide (30<(A.arcs.getD i []).length)=false) (fun s=>A.arcs.length - s) ?_ 0 ?_
 ·rintro s fr σ ⟨hs,f1,f3,rfl,hall⟩ ih
  by_cases hlt:s<A.arcs.length
  ·have hgt:=arows_get A.arcs s hlt
   by_cases c3:(30:Int)<(A.arcs.getD s []).length
   ·have e:gtB A=true:=by unfold gtB;rw [any_at (f:=fun l=>decide (30<l.length)) (d:=[]) hlt (decide_eq_true (by omega))];simp
    simp (disch:=omega) only [go_sem,f1,f3,b0,hla,hlt,hgt,c3,e,List.length_map]
   ·simp (disch:=omega) only [go_sem,f1,f3,b0,hla,hlt,hgt,c3,List.length_map]
    refine ih (s+1) _ _ (by omega) ⟨by omega,?_,?_,rfl,fun i hi=>?_⟩
    ·simp (disch:=omega) only [go_sem,f1]
    ·simp (disch:=omega) only [go_sem]
    ·by_cases hi2:i<s
     ·exact hall i hi2
     ·obtain rfl:i=s:=by omega
      exact decide_eq_false (by omega)
  ·have hse:s=A.arcs.length:=by omega
   subst hse
   have ha:=none_all (f:=fun l:List Arc=>decide (30<l.length)) hall
   simp (disch:=omega) only [go_sem,f1,f3,b0,hla,hlt]
   refine wL_ind (fun (s:Nat) fr σ'=>s≤A.emp.length∧fr 1=.ptr 0 0∧fr 4=.d (.int .i64 s)∧σ'=σ∧∀ i,i<s→decide (30<(A.emp.getD i []).length)=false) (fun s=>A.emp.length - s) ?_ 0 ?_
   ·rintro s fr σ' ⟨hs,f1,f4,rfl,hall⟩ ih2
    by_cases hlt:s<A.emp.length
    ·have hgt:=erows_get A.emp s hlt
     by_cases c3:(30:Int)<(A.emp.getD s []).length
     ·have e:gtB A=true:=by unfold gtB;rw [any_at (f:=fun l:List Int=>decide (30<l.length)) (d:=[]) hlt (decide_eq_true (by omega))];simp
      simp (disch:=omega) only [go_sem,f1,f4,b0,hle,hlt,hgt,c3,e,List.length_map]
     ·simp (disch:=omega) only [go_sem,f1,f4,b0,hle,hlt,hgt,c3,List.length_map]
      refine ih2 (s+1) _ _ (by omega) ⟨by omega,?_,?_,rfl,fun i hi=>?_⟩
      ·simp (disch:=omega) only [go_sem,f1]
      ·simp (disch:=omega) only [go_sem]
      ·by_cases hi2:i<s
       ·exact hall i hi2
       ·obtain rfl:i=s:=by omega
        exact decide_eq_false (by omega)
    ·have hse:s=A.emp.length:=by omega
     subst hse
     have hb:=none_all (f:=fun l:List Int=>decide (30<l.length)) hall
     have e:gtB A=false:=by unfold gtB;rw [ha,hb,decide_eq_false (show ¬ 30<A.arcs.length by omega),decide_eq_false (show ¬ 30<A.emp.length by omega)];rfl
     simp (disch:=omega) only [go_sem,f1,f4,b0,hle,hlt,e]
   ·refine ⟨by omega,?_,?_,rfl,fun i hi=>by omega⟩
    ·simp (disch:=omega) only [go_sem,f1]
    ·simp (disch:=omega) only [go_sem]
 ·refine ⟨by omega,?_,?_,rfl,fun i hi=>by omega⟩
  ·simp (disch:=omega) only [go_sem]
  ·simp (disch:=omega) only [go_sem]
theorem closure9 (A:Au) (hf:Fit A) (ho:okA A=true) (l:List Int) (hl:l.length≤1000000000000000):PCall Tryd.prog 9 [auA A,.d (intsD l)] (.d (intsD (closM A l))):=by
 have hp:=okA_proper.1 ho
 have hc:=check17 A hf
 rw [if_pos ho] at hc
 refine fn9.pure noHint (Nat.le_refl _) (by simp only [go_sem,auA,auF,rowsD,intsD]) (by simp only [go_sem,intsD]) ?_
 simp (disch:=omega) only [go_sem,auA,auF,rowsD]
 refine hc.at ?_
 simp (disch:=omega) only [go_sem,auA,auF,rowsD]
 refine (closure33 A hp hf l hl).at ?_
 simp (disch:=omega) only [go_sem,intsD]
theorem step11 (A:Au) (hf:Fit A) (ho:okA A=true) (l:List Int) (hl:l.length≤1000000000000000) (c:Int):PCall Tryd.prog 11 [auA A,.d (intsD l),.d (.int .i32 c)] (.d (intsD (StepM A l c))):=by
 have hp:=okA_proper.1 ho
 have hc:=check17 A hf
 rw [if_pos ho] at hc
 refine fn11.pure noHint (Nat.le_refl _) (by simp only [go_sem,auA,auF,rowsD,intsD]) (by simp only [go_sem,intsD]) ?_
 simp (disch:=omega) only [go_sem,auA,auF,rowsD]
 refine hc.at ?_
 simp (disch:=omega) only [go_sem,auA,auF,rowsD]
 refine (closure33 A hp hf l hl).dat ?_
 simp (disch:=omega) only [go_sem]
 refine (step35 A hp hf (closM A l) ?_ (fun z hz=>from_inR hp ((mem_clos hp l z).1 hz)) c).dat ?_
 ·have:=clos_len A l;have:=hp.most;omega
 simp (disch:=omega) only [go_sem,intsD,StepM]
theorem ints10 (l:List Int) (hl:l.length≤1000000000):PCall Tryd.prog 10 [.d (intsD l),.d (intsD l)] (.d (.bool true)):=by
 refine fn10.pure noHint (Nat.le_refl _) (by simp only [go_sem,intsD]) (by simp only [go_sem]) ?_
 have hll:(l.map intD).length=l.length:=by simp
 simp (disch:=omega) only [go_sem,intsD,hll]
 refine wL_ind (fun (i:Nat) fr σ=>i≤l.length∧fr 0=.d (.list 1 (l.map intD))∧fr 1=.d (.list 1 (l.map intD))∧fr 5=.d (.int .i64 i)) (fun i=>l.length - i) ?_ 0 ?_
 ·rintro i fr σ ⟨hi,f0,f1,f5⟩ ih
  by_cases hlt:i<l.length
  ·have hgt:(l.map intD).getD i default=.int .i64 (l.getD i 0):=by simp [List.getD_eq_getElem?_getD,hlt,intD]
   simp (disch:=omega) only [go_sem,f0,f1,f5,hlt,hll,hgt]
   refine ih (i+1) _ _ (by omega) ⟨by omega,?_,?_,?_⟩
   ·simp (disch:=omega) only [go_sem,f0]
   ·simp (disch:=omega) only [go_sem,f1]
   ·simp (disch:=omega) only [go_sem]
  ·have hie:i=l.length:=by omega
   subst hie
   simp (disch:=omega) only [go_sem,f0,f1,f5,hlt,hll]
 ·refine ⟨by omega,?_,?_,?_⟩
  ·simp (disch:=omega) only [go_sem]
  ·simp (disch:=omega) only [go_sem]
  ·simp (disch:=omega) only [go_sem]
end Go.Proofs.YtngdkenddfdhaaaDoor
set_option linter.unusedVariables false
set_option linter.unusedSimpArgs false
set_option maxRecDepth 100000
namespace Go.Proofs.YtngdkenddfdhaaaDoor
open Go Nv Pat
def hintsU:Nat→Hint:=fun i=>if i=44 then .freeze else if i=53 then .freeze else .no
@[go_sem] theorem hintsU_at (i:Nat):hintsU i=if i=44 then .freeze else if i=53 then .freeze else .no:=nrfl rfl
theorem law4 (A:Au) (k l:List Int) (c:Int):PCall Tryd.prog 4 [auA A,.d (intsD k),.d (intsD l),.d (.int .i32 c)] (.d (.bool true)):=by
 refine fn4.pure hintsU (Nat.le_refl _) (by simp only [go_sem,auA,auF,rowsD,intsD]) (by simp only [go_sem]) ?_
 have hkl:(k.map intD).length=k.length:=by simp
 have hll:(l.map intD).length=l.length:=by simp
 simp (disch:=omega) only [go_sem,auA,auF,rowsD,intsD]
 have hg:=great6 A
 cases hG:gtB A with
 | true =>
  rw [hG,if_pos rfl] at hg
  refine hg.at ?_
  simp (disch:=omega) only [go_sem]
  refine awake8.at ?_
  simp (disch:=omega) only [go_sem]
 | false =>
 have hf:=fit_of hG
 rw [hG,if_neg (by decide)] at hg
 refine hg.at ?_
 simp (disch:=omega) only [go_sem,auA,auF,rowsD]
 have hc:=check17 A hf
 cases ho:okA A with
 | false =>
  rw [ho,if_neg (by decide)] at hc
  refine hc.at ?_
  simp (disch:=omega) only [go_sem]
  refine awake8.at ?_
  simp (disch:=omega) only [go_sem]
 | true =>
 have hp:=okA_proper.1 ho
 rw [ho,if_pos rfl] at hc
 refine hc.at ?_
 by_cases ck:(30:Int)<k.length
 ·simp (disch:=omega) only [go_sem,hkl,ck]
  refine awake8.at ?_
  simp (disch:=omega) only [go_sem]
 by_cases cl:(30:Int)<l.length
 ·simp (disch:=omega) only [go_sem,hkl,hll,ck,cl]
  refine awake8.at ?_
  simp (disch:=omega) only [go_sem]
 have hx:(StepM A k c).length≤3000:=by
  have h1:=clos_len A (targets A (closM A k) c)
  have h2:=hp.most
  unfold StepM stepM;omega
 have hy:(StepM A l c).length≤3000:=by
  have h1:=clos_len A (targets A (closM A l) c)
  have h2:=hp.most
  unfold StepM stepM;omega
 have hkl2:(k++l).length≤60:=by rw [List.length_append];omega
 have hb:(StepM A (k++l) c).length≤3000:=by
  have h1:=clos_len A (targets A (closM A (k++l)) c)
  have h2:=hp.most
  unfold StepM stepM;omega
 have hu:=step_union hp k l c
 have hcc:closM A (StepM A (k++l) c)=StepM A (k++l) c:=clos_clos hp _
 have hmap:k.map intD++l.map intD=(k++l).map intD:=by simp
 have hmap2:(StepM A k c).map intD++(StepM A l c).map intD=(StepM A k c++StepM A l c).map intD:=by simp
 simp (disch:=omega) only [go_sem,hkl,hll,ck,cl,auA,auF,rowsD]
 refine (step11 A hf ho k (by omega) c).dat ?_
 simp (disch:=omega) only [go_sem]
 have t1:List.take k.length (k.map intD)=k.map intD:=List.take_of_length_le (by simp)
 have t2:List.take (StepM A k c).length ((StepM A k c).map intD)=(StepM A k c).map intD:=List.take_of_length_le (by simp)
 have t3:List.take (k.length+l.length) ((k++l).map intD)=(k++l).map intD:=List.take_of_length_le (by simp)
 have t4:List.take ((StepM A k c).length+(StepM A l c).length) ((StepM A k c++StepM A l c).map intD)=(StepM A k c++StepM A l c).map intD:=List.take_of_length_le (by simp)
 have n1:k.length * 8≤140737488355328:=by omega
 have n2:(k.length+l.length) * 8≤140737488355328:=by omega
 have n3:(StepM A k c).length * 8≤140737488355328:=by omega
 have n4:((StepM A k c).length+(StepM A l c).length) * 8≤140737488355328:=by omega
 have hxl:((StepM A k c).map intD).length=(StepM A k c).length:=by simp
 have hyl:((StepM A l c).map intD).length=(StepM A l c).length:=by simp
 have hbl:((k++l).map intD).length=k.length+l.length:=by simp
 have hbl2:((StepM A k c++StepM A l c).map intD).length=(StepM A k c).length+(StepM A l c).length:=by simp
 refine (step11 A hf ho l (by omega) c).dat ?_
 simp (disch:=omega) only [go_sem,auA,auF,rowsD,intsD,Nat.zero_add,Nat.le_refl,hkl,hll,t1,t3,n1,n2,hmap,hbl]
 refine (step11 A hf ho (k++l) (by omega) c).dat ?_
 simp (disch:=omega) only [go_sem,auA,auF,rowsD,intsD,Nat.zero_add,Nat.le_refl,hxl,hyl,t2,t4,n3,n4,hmap2,hbl2]
 refine (closure9 A hf ho (StepM A k c++StepM A l c) (by rw [List.length_append];omega)).dat ?_
 rw [← hu]
 simp (disch:=omega) only [go_sem,auA,auF,rowsD]
 refine (ints10 _ (by omega)).dat ?_
 simp (disch:=omega) only [go_sem,auA,auF,rowsD]
 refine (closure9 A hf ho (StepM A (k++l) c) (by omega)).dat ?_
 rw [hcc]
 simp (disch:=omega) only [go_sem]
 refine (ints10 _ (by omega)).dat ?_
 simp (disch:=omega) only [go_sem]
 refine awake8.dat ?_
 simp (disch:=omega) only [go_sem]
end Go.Proofs.YtngdkenddfdhaaaDoor
set_option linter.unusedVariables false
set_option linter.unusedSimpArgs false
set_option maxRecDepth 100000
namespace Go.Proofs.YtngdkenddfdhaaaDoor
open Go Nv Pat
/- What comes in,as trees. -/
theorem int_td {n:Nat} {t:TypeId} {k:IntKind} {ds:List DV} (ht:Tryd.prog.underlying t=some (.int k)) (h:TD Tryd.prog n t ds):∃ z,ds=[.int k z]∧(Lit.int k z).wf=true:=by
 cases n with
 | zero=>exact h.elim
 | succ n=>simp only [TD,ht] at h;exact h
theorem rows_of {α:Type} {Q:DV→Prop} {f:α→DV}:∀ {xs:List DV},(∀ x,x∈xs→∃ a,x=f a)→∃ l:List α,xs=l.map f
 | [],_=>⟨[],rfl⟩
 | x::xs,h=>by
  obtain ⟨a,rfl⟩:=h x (by simp)
  obtain ⟨l,rfl⟩:=rows_of (Q:=Q) (xs:=xs) fun y hy=>h y (by simp [hy])
  exact ⟨a::l,rfl⟩
theorem range_td {n:Nat} {cs:List DV} (h:TD Tryd.prog n 43 cs):∃ r:Int × Int,cs=[.int .i32 r.1,.int .i32 r.2]:=by
 cases n with
 | zero=>exact h.elim
 | succ n =>
  simp only [TD,go_sem,List.mem_cons,List.not_mem_nil,or_false,forall_eq_or_imp,forall_eq] at h
  obtain ⟨hl,h0,h1⟩:=h
  match cs,hl with
  | [a,b],_ =>
   simp only [List.drop,List.take] at h0 h1
   obtain ⟨z0,e0,_⟩:=int_td Tryd.underlying21 h0
   obtain ⟨z1,e1,_⟩:=int_td Tryd.underlying21 h1
   simp only [List.cons.injEq,and_true] at e0 e1
   exact ⟨(z0,z1),by rw [e0,e1]⟩
end Go.Proofs.YtngdkenddfdhaaaDoor
set_option linter.unusedVariables false
set_option linter.unusedSimpArgs false
set_option maxRecDepth 100000
namespace Go.Proofs.YtngdkenddfdhaaaDoor
open Go Nv Pat
/- The characters of two texts one after the other. -/
end Go.Proofs.YtngdkenddfdhaaaDoor
set_option linter.unusedVariables false
set_option linter.unusedSimpArgs false
set_option maxRecDepth 100000
namespace Go.Proofs.YtngdkenddfdhaaaDoor
open Go Nv Pat
end Go.Proofs.YtngdkenddfdhaaaDoor
set_option linter.unusedVariables false
set_option linter.unusedSimpArgs false
set_option maxRecDepth 100000
namespace Go.Proofs.YtngdkenddfdhaaaDoor
open Go Nv Pat
/- What comes in,as automata,sets of states,texts. -/
theorem arc_td {n:Nat} {cs:List DV} (h:TD Tryd.prog n 45 cs):∃ x:Arc,cs=[.int .i32 x.1,.int .i32 x.2.1,.int .i64 x.2.2]:=by
 cases n with
 | zero=>exact h.elim
 | succ n =>
  unfold TD at h
  simp only [go_sem,List.mem_cons,List.not_mem_nil,or_false,forall_eq_or_imp,forall_eq] at h
  obtain ⟨hl,h0,h1⟩:=h
  match cs,hl with
  | [a,b,c],_ =>
   simp only [List.drop,List.take] at h0 h1
   obtain ⟨r,e0⟩:=range_td h0
   obtain ⟨z,e1,_⟩:=int_td Tryd.underlying3 h1
   simp only [List.cons.injEq,and_true] at e0 e1
   exact ⟨(r.1,r.2,z),by rw [e0.1,e0.2,e1]⟩
theorem arow_td {n:Nat} {ds:List DV} (h:TD Tryd.prog n 40 ds):∃ l:List Arc,ds=[.list 3 (l.map arcD)]:=by
 cases n with
 | zero=>exact h.elim
 | succ n =>
  unfold TD at h
  simp only [go_sem] at h
  obtain ⟨xs,rfl,_,hx⟩:=h
  obtain ⟨l,rfl⟩:=rows_of (Q:=fun _=>True) (f:=arcD) fun x hm=>by
   obtain ⟨cs,rfl,hc⟩:=hx x hm
   obtain ⟨r,rfl⟩:=arc_td hc
   exact ⟨r,by simp only [ofCells,go_sem,arcD]⟩
  exact ⟨l,rfl⟩
theorem arows_td {n:Nat} {ds:List DV} (h:TD Tryd.prog n 22 ds):∃ L:List (List Arc),ds=[rowsD 3 (arcsL L)]:=by
 cases n with
 | zero=>exact h.elim
 | succ n =>
  unfold TD at h
  simp only [go_sem] at h
  obtain ⟨xs,rfl,_,hx⟩:=h
  obtain ⟨l,rfl⟩:=rows_of (Q:=fun _=>True) (f:=fun l:List Arc=>DV.list 3 (l.map arcD)) fun x hm=>by
   obtain ⟨cs,rfl,hc⟩:=hx x hm
   obtain ⟨r,rfl⟩:=arow_td hc
   exact ⟨r,by simp only [ofCells,go_sem,List.headD_cons]⟩
  exact ⟨l,by simp [rowsD,arcsL]⟩
theorem ints_td {n:Nat} {ds:List DV} (h:TD Tryd.prog n 26 ds):∃ l:List Int,ds=[intsD l]:=by
 cases n with
 | zero=>exact h.elim
 | succ n =>
  unfold TD at h
  simp only [go_sem] at h
  obtain ⟨xs,rfl,_,hx⟩:=h
  obtain ⟨l,rfl⟩:=rows_of (Q:=fun _=>True) (f:=intD) fun x hm=>by
   obtain ⟨cs,rfl,hc⟩:=hx x hm
   obtain ⟨z,rfl,_⟩:=int_td Tryd.underlying3 hc
   exact ⟨z,by simp only [ofCells,go_sem,intD,List.headD_cons]⟩
  exact ⟨l,rfl⟩
theorem erows_td {n:Nat} {ds:List DV} (h:TD Tryd.prog n 23 ds):∃ L:List (List Int),ds=[rowsD 1 (intsL L)]:=by
 cases n with
 | zero=>exact h.elim
 | succ n =>
  unfold TD at h
  simp only [go_sem] at h
  obtain ⟨xs,rfl,_,hx⟩:=h
  obtain ⟨l,rfl⟩:=rows_of (Q:=fun _=>True) (f:=fun l:List Int=>intsD l) fun x hm=>by
   obtain ⟨cs,rfl,hc⟩:=hx x hm
   obtain ⟨r,rfl⟩:=ints_td hc
   exact ⟨r,by simp only [ofCells,go_sem,List.headD_cons]⟩
  exact ⟨l,by simp [rowsD,intsL,intsD]⟩
def auC (A:Au):List DV:=[.int .i64 A.start,.int .i64 A.accept,rowsD 3 (arcsL A.arcs),rowsD 1 (intsL A.emp)]
theorem au_td {n:Nat} {cs:List DV} (h:TD Tryd.prog n 25 cs):∃ A:Au,cs=auC A:=by
 cases n with
 | zero=>exact h.elim
 | succ n =>
  unfold TD at h
  simp only [go_sem,List.mem_cons,List.not_mem_nil,or_false,forall_eq_or_imp,forall_eq] at h
  obtain ⟨hl,h0,h1,h2,h3⟩:=h
  match cs,hl with
  | [a,b,c,d],_ =>
   simp only [List.drop,List.take] at h0 h1 h2 h3
   obtain ⟨z0,e0,_⟩:=int_td Tryd.underlying3 h0
   obtain ⟨z1,e1,_⟩:=int_td Tryd.underlying3 h1
   obtain ⟨L,e2⟩:=arows_td h2
   obtain ⟨E,e3⟩:=erows_td h3
   simp only [List.cons.injEq,and_true] at e0 e1 e2 e3
   exact ⟨⟨z0,z1,L,E⟩,by rw [e0,e1,e2,e3];rfl⟩
theorem rune_td {n:Nat} {ds:List DV} (h:TD Tryd.prog n 21 ds):∃ z:Int,ds=[.int .i32 z]:=by
 obtain ⟨z,e,_⟩:=int_td Tryd.underlying21 h
 exact ⟨z,e⟩
end Go.Proofs.YtngdkenddfdhaaaDoor
