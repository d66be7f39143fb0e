/- Part of a proof about the functions of this seat. -/
import Derived.Test.YtngdkenddfdhaaaDoorG22Fq3e
import Derived.Test.YtngdkenddfdhaaaDoorG11O3e
import Derived.Test.YtngdkenddfdhaaaDoorG17Fv3e
import Derived.Lib.ValidLaws
set_option linter.unusedVariables false
set_option linter.unusedSimpArgs false
set_option maxRecDepth 100000
namespace Go.Proofs.YtngdkenddfdhaaaDoor
open Go Nv Pat
/- The exported functions on automata that come in. -/
def gtB (A:Au):Bool:=decide (30<A.arcs.length) || decide (30<A.emp.length) || A.arcs.any (fun l=>decide (30<l.length)) || A.emp.any (fun l=>decide (30<l.length))
theorem gt_fit {A:Au} (h:gtB A=false):A.arcs.length≤30∧A.emp.length≤30∧(∀ l,l∈A.arcs→l.length≤30)∧∀ l,l∈A.emp→l.length≤30:=by
 unfold gtB at h
 simp only [Bool.or_eq_false_iff,decide_eq_false_iff_not,List.any_eq_false,decide_eq_true_eq] at h
 obtain ⟨⟨⟨h1,h2⟩,h3⟩,h4⟩:=h
 exact ⟨by omega,by omega,fun l hl=>by have:=h3 l hl;omega,fun l hl=>by have:=h4 l hl;omega⟩
theorem fit_of {A:Au} (h:gtB A=false):Fit A:=by
 obtain ⟨h1,h2,h3,h4⟩:=gt_fit h
 exact ⟨by omega,by omega,fun l hl=>by have:=h3 l hl;omega,fun l hl=>by have:=h4 l hl;omega⟩
theorem any_at {α:Type} {l:List α} {f:α→Bool} {d:α} {i:Nat} (hi:i<l.length) (h:f (l.getD i d)=true):l.any f=true:=by
 rw [List.any_eq_true]
 exact ⟨_,by rw [List.getD_eq_getElem?_getD,List.getElem?_eq_getElem hi];exact List.getElem_mem _,h⟩
theorem none_all {α:Type} {l:List α} {f:α→Bool} {d:α} (h:∀ i,i<l.length→f (l.getD i d)=false):l.any f=false:=by
 rw [List.any_eq_false]
 intro x hx
 obtain ⟨i,hi,rfl⟩:=List.mem_iff_getElem.1 hx
 have:=h i hi
 rw [List.getD_eq_getElem?_getD,List.getElem?_eq_getElem hi] at this
 rw [show f l[i]=false from this];simp
theorem great6 (A:Au):PCall Tryd.prog 6 [auA A] (.d (.int .i64 (if gtB A then 1 else 0))):=by
 refine fn6.pure noHint (Nat.le_refl _) (by simp only [go_sem,auA,auF,rowsD]) (by simp only [go_sem]) ?_
 have hla:((arcsL A.arcs).map (DV.list 3)).length=A.arcs.length:=by simp [arcsL]
 have hle:((intsL A.emp).map (DV.list 1)).length=A.emp.length:=by simp [intsL]
 obtain ⟨S,hS⟩:∃ S,S=[Blk.box 25 [AV.d (.int .i64 A.start),AV.d (.int .i64 A.accept),AV.d (.list 1 ((arcsL A.arcs).map (DV.list 3))),AV.d (.list 1 ((intsL A.emp).map (DV.list 1)))]]:=⟨_,rfl⟩
 have b0:stGet S 0=.box 25 [AV.d (.int .i64 A.start),AV.d (.int .i64 A.accept),AV.d (.list 1 ((arcsL A.arcs).map (DV.list 3))),AV.d (.list 1 ((intsL A.emp).map (DV.list 1)))]:=by rw [hS];rfl
 by_cases c1:(30:Int)<A.arcs.length
 ·have e:gtB A=true:=by unfold gtB;rw [decide_eq_true (show 30<A.arcs.length by omega)];rfl
  simp (disch:=omega) only [go_sem,auA,auF,rowsD,hla,hle,c1,e]
 by_cases c2:(30:Int)<A.emp.length
 ·have e:gtB A=true:=by unfold gtB;rw [decide_eq_true (show 30<A.emp.length by omega)];simp
  simp (disch:=omega) only [go_sem,auA,auF,rowsD,hla,hle,c1,c2,e]
 simp (disch:=omega) only [go_sem,auA,auF,rowsD,hla,hle,c1,c2]
 rw [← hS]
 refine wL_ind (fun (s:Nat) fr σ=>s≤A.arcs.length∧fr 1=.ptr 0 0∧fr 3=.d (.int .i64 s)∧σ=S∧∀ i,i<s→decide (30<(A.arcs.getD i []).length)=false) (fun s=>A.arcs.length - s) ?_ 0 ?_
 ·rintro s fr σ ⟨hs,f1,f3,rfl,hall⟩ ih
  by_cases hlt:s<A.arcs.length
  ·have hgt:=arows_get A.arcs s hlt
   by_cases c3:(30:Int)<(A.arcs.getD s []).length
   ·have e:gtB A=true:=by unfold gtB;rw [any_at (f:=fun l=>decide (30<l.length)) (d:=[]) hlt (decide_eq_true (by omega))];simp
    simp (disch:=omega) only [go_sem,f1,f3,b0,hla,hlt,hgt,c3,e,List.length_map]
   ·simp (disch:=omega) only [go_sem,f1,f3,b0,hla,hlt,hgt,c3,List.length_map]
    refine ih (s+1) _ _ (by omega) ⟨by omega,?_,?_,rfl,fun i hi=>?_⟩
    ·simp (disch:=omega) only [go_sem,f1]
    ·simp (disch:=omega) only [go_sem]
    ·by_cases hi2:i<s
     ·exact hall i hi2
     ·obtain rfl:i=s:=by omega
      exact decide_eq_false (by omega)
  ·have hse:s=A.arcs.length:=by omega
   subst hse
   have ha:=none_all (f:=fun l:List Arc=>decide (30<l.length)) hall
   simp (disch:=omega) only [go_sem,f1,f3,b0,hla,hlt]
   refine wL_ind (fun (s:Nat) fr σ'=>s≤A.emp.length∧fr 1=.ptr 0 0∧fr 4=.d (.int .i64 s)∧σ'=σ∧∀ i,i<s→decide (30<(A.emp.getD i []).length)=false) (fun s=>A.emp.length - s) ?_ 0 ?_
   ·rintro s fr σ' ⟨hs,f1,f4,rfl,hall⟩ ih2
    by_cases hlt:s<A.emp.length
    ·have hgt:=erows_get A.emp s hlt
     by_cases c3:(30:Int)<(A.emp.getD s []).length
     ·have e:gtB A=true:=by unfold gtB;rw [any_at (f:=fun l:List Int=>decide (30<l.length)) (d:=[]) hlt (decide_eq_true (by omega))];simp
      simp (disch:=omega) only [go_sem,f1,f4,b0,hle,hlt,hgt,c3,e,List.length_map]
     ·simp (disch:=omega) only [go_sem,f1,f4,b0,hle,hlt,hgt,c3,List.length_map]
      refine ih2 (s+1) _ _ (by omega) ⟨by omega,?_,?_,rfl,fun i hi=>?_⟩
      ·simp (disch:=omega) only [go_sem,f1]
      ·simp (disch:=omega) only [go_sem]
      ·by_cases hi2:i<s
       ·exact hall i hi2
       ·obtain rfl:i=s:=by omega
        exact decide_eq_false (by omega)
    ·have hse:s=A.emp.length:=by omega
     subst hse
     have hb:=none_all (f:=fun l:List Int=>decide (30<l.length)) hall
     have e:gtB A=false:=by unfold gtB;rw [ha,hb,decide_eq_false (show ¬ 30<A.arcs.length by omega),decide_eq_false (show ¬ 30<A.emp.length by omega)];rfl
     simp (disch:=omega) only [go_sem,f1,f4,b0,hle,hlt,e]
   ·refine ⟨by omega,?_,?_,rfl,fun i hi=>by omega⟩
    ·simp (disch:=omega) only [go_sem,f1]
    ·simp (disch:=omega) only [go_sem]
 ·refine ⟨by omega,?_,?_,rfl,fun i hi=>by omega⟩
  ·simp (disch:=omega) only [go_sem]
  ·simp (disch:=omega) only [go_sem]
theorem closure9 (A:Au) (hf:Fit A) (ho:okA A=true) (l:List Int) (hl:l.length≤1000000000000000):PCall Tryd.prog 9 [auA A,.d (intsD l)] (.d (intsD (closM A l))):=by
 have hp:=okA_proper.1 ho
 have hc:=check17 A hf
 rw [if_pos ho] at hc
 refine fn9.pure noHint (Nat.le_refl _) (by simp only [go_sem,auA,auF,rowsD,intsD]) (by simp only [go_sem,intsD]) ?_
 simp (disch:=omega) only [go_sem,auA,auF,rowsD]
 refine hc.at ?_
 simp (disch:=omega) only [go_sem,auA,auF,rowsD]
 refine (closure33 A hp hf l hl).at ?_
 simp (disch:=omega) only [go_sem,intsD]
theorem ints10 (l:List Int) (hl:l.length≤1000000000):PCall Tryd.prog 10 [.d (intsD l),.d (intsD l)] (.d (.bool true)):=by
 refine fn10.pure noHint (Nat.le_refl _) (by simp only [go_sem,intsD]) (by simp only [go_sem]) ?_
 have hll:(l.map intD).length=l.length:=by simp
 simp (disch:=omega) only [go_sem,intsD,hll]
 refine wL_ind (fun (i:Nat) fr σ=>i≤l.length∧fr 0=.d (.list 1 (l.map intD))∧fr 1=.d (.list 1 (l.map intD))∧fr 5=.d (.int .i64 i)) (fun i=>l.length - i) ?_ 0 ?_
 ·rintro i fr σ ⟨hi,f0,f1,f5⟩ ih
  by_cases hlt:i<l.length
  ·have hgt:(l.map intD).getD i default=.int .i64 (l.getD i 0):=by simp [List.getD_eq_getElem?_getD,hlt,intD]
   simp (disch:=omega) only [go_sem,f0,f1,f5,hlt,hll,hgt]
   refine ih (i+1) _ _ (by omega) ⟨by omega,?_,?_,?_⟩
   ·simp (disch:=omega) only [go_sem,f0]
   ·simp (disch:=omega) only [go_sem,f1]
   ·simp (disch:=omega) only [go_sem]
  ·have hie:i=l.length:=by omega
   subst hie
   simp (disch:=omega) only [go_sem,f0,f1,f5,hlt,hll]
 ·refine ⟨by omega,?_,?_,?_⟩
  ·simp (disch:=omega) only [go_sem]
  ·simp (disch:=omega) only [go_sem]
  ·simp (disch:=omega) only [go_sem]
end Go.Proofs.YtngdkenddfdhaaaDoor
/- Maps keyed by strings: rules;lists of strings that a function of the library hands back. -/

set_option linter.unusedVariables false
set_option linter.unusedSimpArgs false
namespace Nv
open Go Go.RowKit
section
variable {P:Program} {ρ ρ':RHO} {σ σ':ST} {I I':Nat→Prop} {w w':World}
@[go_sem] theorem rMakeMap_def (σ:ST):rMakeMap σ=.ok (.map σ.length) (σ++[.map []]):=nrfl rfl
@[go_sem] theorem lookV_def (ok:Bool) (v:AV) (b:Bool) (σ:ST):lookV ok v b σ=.ok (bif ok then .tuple [v,.d (.bool b)] else v) σ:=nrfl rfl
@[go_sem] theorem rLookup_def (P:Program) (t:TypeId) (x k:AV) (ok:Bool) (σ:ST):rLookup P t x k ok σ =
 (match P.underlying t,x,k with
 | some (.map kt et),.map b,.d (.str s)=>match P.underlying kt,stGet σ b with
  | some .string,.map es=>lookR P et s es ok σ
  | _,_=>.bad
 | some (.map kt et),.d (.map es),.d (.str s)=>match P.underlying kt with
  | some .string=>lookR P et s es ok σ
  | _=>.bad
 | some (.map kt et),.map b,.d (.int k n)=>match P.underlying kt,stGet σ b with
  | some (.int k'),.map es=>if k=k' then lookRI P et k n es ok σ else .bad
  | _,_=>.bad
 | _,_,_=>.bad):=nrfl rfl
@[go_sem] theorem lookRI_def (P:Program) (et:TypeId) (k:IntKind) (n:Int) (es:List (DV × DV)) (ok:Bool) (σ:ST):lookRI P et k n es ok σ =
 (match keyAtI k n es 0 with
 | some (some j)=>lookV ok (.d (es.getD j default).2) true σ
 | some none=>.need (zeroA P et≠.any) (lookV ok (zeroA P et) false σ)
 | none=>.bad):=nrfl rfl
@[go_sem] theorem rMapUpdate_def (P:Program) (t:TypeId) (m k x:AV) (σ:ST):rMapUpdate P t m k x σ =
 (match P.underlying t,m,k,x with
 | some (.map kt _),.map b,.d (.str s),.d y=>match P.underlying kt,stGet σ b with
  | some .string,.map es=>match keyAt s es 0 with
   | some (some j)=>.ok .any (stSet σ b (.map (es.set j (.str s,y))))
   | some none=>.ok .any (stSet σ b (.map (es++[(.str s,y)])))
   | none=>.bad
  | _,_=>.bad
 | some (.map kt _),.map b,.d (.int k n),.d y=>match P.underlying kt,stGet σ b with
  | some (.int k'),.map es=>if k=k' then (match keyAtI k n es 0 with
   | some (some j)=>.ok .any (stSet σ b (.map (es.set j (.int k n,y))))
   | some none=>.ok .any (stSet σ b (.map (es++[(.int k n,y)])))
   | none=>.bad) else .bad
  | _,_=>.bad
 | _,_,_,_=>.bad):=nrfl rfl
end
end Nv
set_option linter.unusedVariables false
set_option linter.unusedSimpArgs false
set_option maxRecDepth 100000
namespace Go.Proofs.YtngdkenddfdhaaaDoor
open Go Nv Pat
/- A set of numbers as a map. -/
def insK (K:List Int) (z:Int):List Int:=if z∈K then K else K++[z]
def keysOf (l:List Int):List Int:=l.foldl insK []
theorem ins_mem (K:List Int) (z y:Int):y∈insK K z↔y∈K∨y=z:=by
 unfold insK
 split
 ·rename_i h
  exact ⟨.inl,fun q=>q.elim id fun e=>e ▸ h⟩
 ·simp
theorem ins_nodup {K:List Int} (h:K.Nodup) (z:Int):(insK K z).Nodup:=by
 unfold insK
 split
 ·exact h
 ·rename_i hz
  exact List.nodup_append.2 ⟨h,by simp,fun a ha b hb=>by rw [List.mem_singleton.1 hb];exact fun e=>hz (e ▸ ha)⟩
theorem keys_fold:∀ (l K:List Int),(∀ z,z∈l.foldl insK K↔z∈K∨z∈l)∧(K.Nodup→(l.foldl insK K).Nodup)
 | [],K=>⟨fun z=>by simp,id⟩
 | x::l,K=>by
  obtain ⟨h1,h2⟩:=keys_fold l (insK K x)
  refine ⟨fun z=>?_,fun h=>h2 (ins_nodup h x)⟩
  rw [List.foldl_cons,h1,ins_mem]
  simp only [List.mem_cons,or_assoc]
theorem mem_keys (l:List Int) (z:Int):z∈keysOf l↔z∈l:=by rw [keysOf,(keys_fold l []).1];simp
theorem nodup_keys (l:List Int):(keysOf l).Nodup:=(keys_fold l []).2 (by simp)
theorem keys_snoc (l:List Int) (z:Int):keysOf (l++[z])=insK (keysOf l) z:=by simp [keysOf]
def mapD (K:List Int):List (DV × DV):=K.map fun z=>(.int .i64 z,.int .i64 1)
theorem map_len (K:List Int):(mapD K).length=K.length:=by simp [mapD]
theorem keyI_out {z:Int}:∀ (K:List Int) (i:Nat),z ∉ K→keyAtI .i64 z (mapD K) i=some none
 | [],_,_=>rfl
 | t::l,i,h=>by
  have h1:z≠t:=fun e=>h (by simp [e])
  show keyAtI .i64 z ((.int .i64 t,.int .i64 1)::mapD l) i=_
  rw [keyAtI,if_pos rfl,decide_eq_false h1,cond_false,keyI_out l (i+1) (fun e=>h (by simp [e]))]
theorem keyI_in {z:Int}:∀ (K:List Int) (i:Nat),z∈K→∃ j,keyAtI .i64 z (mapD K) i=some (some (i+j))∧j<K.length∧(mapD K).getD j default=(.int .i64 z,.int .i64 1)
 | [],_,h=>by cases h
 | t::l,i,h=>by
  by_cases h1:z=t
  ·refine ⟨0,?_,by simp,by rw [h1];rfl⟩
   show keyAtI .i64 z ((.int .i64 t,.int .i64 1)::mapD l) i=_
   rw [keyAtI,if_pos rfl,decide_eq_true h1,cond_true,Nat.add_zero]
  ·obtain ⟨j,k1,k2,k3⟩:=keyI_in l (i+1) ((List.mem_cons.1 h).resolve_left h1)
   refine ⟨j+1,?_,by simp;omega,k3⟩
   show keyAtI .i64 z ((.int .i64 t,.int .i64 1)::mapD l) i=_
   rw [keyAtI,if_pos rfl,decide_eq_false h1,cond_false,k1,show i+1+j=i+(j+1) by omega]
theorem same_len {l m:List Int} (hl:l.Nodup) (hm:m.Nodup) (h:∀ z,z∈l↔z∈m):l.length=m.length :=
 ((List.perm_ext_iff_of_nodup hl hm).2 h).length_eq
theorem clos_nodup (A:Au) (l:List Int):(closM A l).Nodup:=by
 unfold closM
 rw [List.Nodup,List.pairwise_map]
 exact (List.nodup_range.filter _).imp fun h e=>h (by omega)
def hintsX:Nat→Hint:=fun i=>if i=47 then .freeze else .no
@[go_sem] theorem hintsX_at (i:Nat):hintsX i=if i=47 then .freeze else .no:=nrfl rfl
theorem law3 (A:Au) (k l:List Int):PCall Tryd.prog 3 [auA A,.d (intsD k),.d (intsD l)] (.d (.bool true)):=by
 refine fn3.pure hintsX (Nat.le_refl _) (by simp only [go_sem,auA,auF,rowsD,intsD]) (by simp only [go_sem]) ?_
 have hkl:(k.map intD).length=k.length:=by simp
 have hll:(l.map intD).length=l.length:=by simp
 simp (disch:=omega) only [go_sem,auA,auF,rowsD,intsD]
 have hg:=great6 A
 cases hG:gtB A with
 | true =>
  rw [hG,if_pos rfl] at hg
  refine hg.at ?_
  simp (disch:=omega) only [go_sem]
  refine awake8.at ?_
  simp (disch:=omega) only [go_sem]
 | false =>
 have hf:=fit_of hG
 rw [hG,if_neg (by decide)] at hg
 refine hg.at ?_
 simp (disch:=omega) only [go_sem,auA,auF,rowsD]
 have hc:=check17 A hf
 cases ho:okA A with
 | false =>
  rw [ho,if_neg (by decide)] at hc
  refine hc.at ?_
  simp (disch:=omega) only [go_sem]
  refine awake8.at ?_
  simp (disch:=omega) only [go_sem]
 | true =>
 have hp:=okA_proper.1 ho
 rw [ho,if_pos rfl] at hc
 refine hc.at ?_
 by_cases ck:(30:Int)<k.length
 ·simp (disch:=omega) only [go_sem,hkl,ck]
  refine awake8.at ?_
  simp (disch:=omega) only [go_sem]
 by_cases cl:(30:Int)<l.length
 ·simp (disch:=omega) only [go_sem,hkl,hll,ck,cl]
  refine awake8.at ?_
  simp (disch:=omega) only [go_sem]
 have hm3:=hp.most
 have hx:(closM A k).length≤3000:=by have:=clos_len A k;omega
 have hy:(closM A l).length≤3000:=by have:=clos_len A l;omega
 have hb:(closM A (k++l)).length≤3000:=by have:=clos_len A (k++l);omega
 have hkl2:(k++l).length≤60:=by rw [List.length_append];omega
 have hmap:k.map intD++l.map intD=(k++l).map intD:=by simp
 have hmap2:(closM A k).map intD++(closM A l).map intD=(closM A k++closM A l).map intD:=by simp
 have t1:List.take k.length (k.map intD)=k.map intD:=List.take_of_length_le (by simp)
 have t3:List.take (k.length+l.length) ((k++l).map intD)=(k++l).map intD:=List.take_of_length_le (by simp)
 have t2:List.take (closM A k).length ((closM A k).map intD)=(closM A k).map intD:=List.take_of_length_le (by simp)
 have n1:k.length * 8≤140737488355328:=by omega
 have n2:(k.length+l.length) * 8≤140737488355328:=by omega
 have n3:(closM A k).length * 8≤140737488355328:=by omega
 have n4:((closM A k).length+(closM A l).length) * 8≤140737488355328:=by omega
 have hxl:((closM A k).map intD).length=(closM A k).length:=by simp
 have hyl:((closM A l).map intD).length=(closM A l).length:=by simp
 have hbl:((k++l).map intD).length=k.length+l.length:=by simp
 have hXl:((closM A k++closM A l).map intD).length=(closM A k).length+(closM A l).length:=by simp
 simp (disch:=omega) only [go_sem,hkl,hll,ck,cl,auA,auF,rowsD]
 refine (closure9 A hf ho k (by omega)).dat ?_
 simp (disch:=omega) only [go_sem]
 refine (closure9 A hf ho l (by omega)).dat ?_
 simp (disch:=omega) only [go_sem,auA,auF,rowsD,intsD,Nat.zero_add,Nat.le_refl,hkl,hll,t1,t3,n1,n2,hmap,hbl]
 refine (closure9 A hf ho (k++l) (by omega)).dat ?_
 have hXlen:(closM A k++closM A l).length=(closM A k).length+(closM A l).length:=List.length_append
 have hmem:∀ z,z∈closM A (k++l)↔z∈closM A k++closM A l:=fun z=>by
  rw [List.mem_append,mem_clos hp,mem_clos hp,mem_clos hp,from_append]
 have hkin:∀ z,z∈k→0≤z→z<A.arcs.length→z∈closM A k++closM A l:=fun z h1 h2 h3 =>
  List.mem_append.2 (.inl ((mem_clos hp k z).2 (from_self h1 ⟨h2,h3⟩)))
 have hcc:closM A (closM A k)=closM A k:=clos_clos hp k
 have hlen:(closM A (k++l)).length=(keysOf (closM A k++closM A l)).length:=same_len (clos_nodup A _) (nodup_keys _) fun z=>by rw [hmem,mem_keys]
 have hclo:=closure9 A hf ho (closM A k) (by omega)
 rw [hcc] at hclo
 have hsam:=ints10 (closM A k) (by omega)
 simp (disch:=omega) only [go_sem,intsD,Nat.zero_add,Nat.le_refl,hxl,hyl,t2,n3,n4,hmap2,hXl]
 rw [← hXlen]
 obtain ⟨BA,hBA⟩:∃ BA,BA=Blk.box 25 [AV.d (.int .i64 A.start),AV.d (.int .i64 A.accept),AV.d (.list 1 ((arcsL A.arcs).map (DV.list 3))),AV.d (.list 1 ((intsL A.emp).map (DV.list 1)))]:=⟨_,rfl⟩
 rw [← hBA]
 have hla:((arcsL A.arcs).map (DV.list 3)).length=A.arcs.length:=by simp [arcsL]
 have hXb:(closM A k++closM A l).length≤6000:=by omega
 generalize hX:closM A k++closM A l=X at *
 generalize hB:closM A (k++l)=both at *
 have hXm:(X.map intD).length=X.length:=by simp
 have hBm:(both.map intD).length=both.length:=by simp
 refine wL_ind (fun (i:Nat) fr σ=>i≤X.length∧fr 1=.d (.list 1 (k.map intD))∧fr 3=.ptr 0 0∧fr 7=.d (.list 1 ((closM A k).map intD))∧fr 9=.d (.list 1 (both.map intD))∧fr 10=.map 2∧fr 54=.own 3 2 0 X.length∧fr 55=.d (.int .i64 X.length)∧fr 56=.d (.int .i64 i) ∧
  σ=[BA,.dead,.map (mapD (keysOf (X.take i))),.arr 2 ⟨1,3⟩ (X.map intD)]) (fun i=>X.length - i) ?_ 0 ?_
 ·rintro i fr σ ⟨hi,f1,f3,f7,f9,f10,f54,f55,f56,rfl⟩ ih
  by_cases hlt:i<X.length
  ·have hgt:(X.map intD).getD i default=.int .i64 (X.getD i 0):=by simp [List.getD_eq_getElem?_getD,hlt,intD]
   have htk:X.take (i+1)=X.take i++[X.getD i 0]:=by
    rw [List.take_succ_eq_append_getElem hlt,List.getD_eq_getElem?_getD,List.getElem?_eq_getElem hlt];rfl
   have hks:=keys_snoc (X.take i) (X.getD i 0)
   rw [← htk] at hks
   generalize X.getD i 0=z at *
   generalize hK:keysOf (X.take i)=K at *
   by_cases hz:z∈K
   ·obtain ⟨j,j1,j2,j3⟩:=keyI_in K 0 hz
    rw [Nat.zero_add] at j1
    have hset:(mapD K).set j (.int .i64 z,.int .i64 1)=mapD K:=by
     rw [← j3];exact set_getD_self (by rw [map_len];exact j2)
    rw [insK,if_pos hz] at hks
    simp (disch:=omega) only [go_sem,f10,f54,f55,f56,hlt,hXm,hgt,Nat.zero_add,j1,hset]
    refine ih (i+1) _ _ (by omega) ⟨by omega,?_,?_,?_,?_,?_,?_,?_,?_,by rw [hks]⟩
    ·simp (disch:=omega) only [go_sem,f1]
    ·simp (disch:=omega) only [go_sem,f3]
    ·simp (disch:=omega) only [go_sem,f7]
    ·simp (disch:=omega) only [go_sem,f9]
    ·simp (disch:=omega) only [go_sem,f10]
    ·simp (disch:=omega) only [go_sem,f54]
    ·simp (disch:=omega) only [go_sem,f55]
    ·simp (disch:=omega) only [go_sem]
   ·have j1:=keyI_out K 0 hz
    have hset:mapD K++[(.int .i64 z,.int .i64 1)]=mapD (K++[z]):=by simp [mapD]
    rw [insK,if_neg hz] at hks
    simp (disch:=omega) only [go_sem,f10,f54,f55,f56,hlt,hXm,hgt,Nat.zero_add,j1,hset]
    refine ih (i+1) _ _ (by omega) ⟨by omega,?_,?_,?_,?_,?_,?_,?_,?_,by rw [hks]⟩
    ·simp (disch:=omega) only [go_sem,f1]
    ·simp (disch:=omega) only [go_sem,f3]
    ·simp (disch:=omega) only [go_sem,f7]
    ·simp (disch:=omega) only [go_sem,f9]
    ·simp (disch:=omega) only [go_sem,f10]
    ·simp (disch:=omega) only [go_sem,f54]
    ·simp (disch:=omega) only [go_sem,f55]
    ·simp (disch:=omega) only [go_sem]
  ·have hie:i=X.length:=by omega
   subst hie
   rw [List.take_length]
   have hin:∀ z,z∈X→∃ j,keyAtI .i64 z (mapD (keysOf X)) 0=some (some j)∧((mapD (keysOf X)).getD j default).2=.int .i64 1:=fun z hz=>by
    obtain ⟨j,j1,_,j3⟩:=keyI_in (keysOf X) 0 ((mem_keys X z).2 hz)
    exact ⟨j,by rw [Nat.zero_add] at j1;exact j1,by rw [j3]⟩
   simp (disch:=omega) only [go_sem,f1,f55,f56,hlt,hkl]
   refine wL_ind (fun (i:Nat) fr σ=>i≤k.length∧fr 3=.ptr 0 0∧fr 7=.d (.list 1 ((closM A k).map intD))∧fr 9=.d (.list 1 (both.map intD))∧fr 10=.map 2∧fr 63=.d (.list 1 (k.map intD))∧fr 64=.d (.int .i64 k.length)∧fr 65=.d (.int .i64 i) ∧
    σ=[BA,.dead,.map (mapD (keysOf X)),.arr 2 ⟨1,3⟩ (X.map intD)]) (fun i=>k.length - i) ?_ 0 ?_
   ·rintro i fr σ ⟨hi,f3,f7,f9,f10,f63,f64,f65,rfl⟩ ih2
    by_cases hlk:i<k.length
    ·have hgt:(k.map intD).getD i default=.int .i64 (k.getD i 0):=by simp [List.getD_eq_getElem?_getD,hlk,intD]
     have hzk:k.getD i 0∈k:=by rw [List.getD_eq_getElem?_getD,List.getElem?_eq_getElem hlk];exact List.getElem_mem _
     have hkz:=hkin _ hzk
     generalize k.getD i 0=z at *
     by_cases z0:0≤z
     ·by_cases z1:z<A.arcs.length
      ·obtain ⟨j,j1,j2⟩:=hin z (hkz z0 z1)
       simp (disch:=omega) only [go_sem,f3,f10,f63,f64,f65,hlk,hkl,hgt,hBA,hla,z0,z1,j1,j2]
       refine ih2 (i+1) _ _ (by omega) ⟨by omega,?_,?_,?_,?_,?_,?_,?_,by rw [← hBA]⟩
       ·simp (disch:=omega) only [go_sem,f3]
       ·simp (disch:=omega) only [go_sem,f7]
       ·simp (disch:=omega) only [go_sem,f9]
       ·simp (disch:=omega) only [go_sem,f10]
       ·simp (disch:=omega) only [go_sem,f63]
       ·simp (disch:=omega) only [go_sem,f64]
       ·simp (disch:=omega) only [go_sem]
      ·simp (disch:=omega) only [go_sem,f3,f10,f63,f64,f65,hlk,hkl,hgt,hBA,hla,z0,z1]
       refine ih2 (i+1) _ _ (by omega) ⟨by omega,?_,?_,?_,?_,?_,?_,?_,by rw [← hBA]⟩
       ·simp (disch:=omega) only [go_sem,f3]
       ·simp (disch:=omega) only [go_sem,f7]
       ·simp (disch:=omega) only [go_sem,f9]
       ·simp (disch:=omega) only [go_sem,f10]
       ·simp (disch:=omega) only [go_sem,f63]
       ·simp (disch:=omega) only [go_sem,f64]
       ·simp (disch:=omega) only [go_sem]
     ·simp (disch:=omega) only [go_sem,f3,f10,f63,f64,f65,hlk,hkl,hgt,z0]
      refine ih2 (i+1) _ _ (by omega) ⟨by omega,?_,?_,?_,?_,?_,?_,?_,rfl⟩
      ·simp (disch:=omega) only [go_sem,f3]
      ·simp (disch:=omega) only [go_sem,f7]
      ·simp (disch:=omega) only [go_sem,f9]
      ·simp (disch:=omega) only [go_sem,f10]
      ·simp (disch:=omega) only [go_sem,f63]
      ·simp (disch:=omega) only [go_sem,f64]
      ·simp (disch:=omega) only [go_sem]
    ·have hik:i=k.length:=by omega
     subst hik
     simp (disch:=omega) only [go_sem,f9,f64,f65,hlk,hBm]
     refine wL_ind (fun (i:Nat) fr σ=>i≤both.length∧fr 3=.ptr 0 0∧fr 7=.d (.list 1 ((closM A k).map intD))∧fr 9=.d (.list 1 (both.map intD))∧fr 10=.map 2∧fr 85=.d (.list 1 (both.map intD))∧fr 86=.d (.int .i64 both.length)∧fr 87=.d (.int .i64 i) ∧
      σ=[BA,.dead,.map (mapD (keysOf X)),.arr 2 ⟨1,3⟩ (X.map intD)]) (fun i=>both.length - i) ?_ 0 ?_
     ·rintro i fr σ ⟨hi,f3,f7,f9,f10,f85,f86,f87,rfl⟩ ih3
      by_cases hlb:i<both.length
      ·have hgt:(both.map intD).getD i default=.int .i64 (both.getD i 0):=by simp [List.getD_eq_getElem?_getD,hlb,intD]
       have hzb:both.getD i 0∈both:=by rw [List.getD_eq_getElem?_getD,List.getElem?_eq_getElem hlb];exact List.getElem_mem _
       have hbz:=(hmem _).1 hzb
       generalize both.getD i 0=z at *
       obtain ⟨j,j1,j2⟩:=hin z hbz
       simp (disch:=omega) only [go_sem,f3,f10,f85,f86,f87,hlb,hBm,hgt,j1,j2]
       refine ih3 (i+1) _ _ (by omega) ⟨by omega,?_,?_,?_,?_,?_,?_,?_,rfl⟩
       ·simp (disch:=omega) only [go_sem,f3]
       ·simp (disch:=omega) only [go_sem,f7]
       ·simp (disch:=omega) only [go_sem,f9]
       ·simp (disch:=omega) only [go_sem,f10]
       ·simp (disch:=omega) only [go_sem,f85]
       ·simp (disch:=omega) only [go_sem,f86]
       ·simp (disch:=omega) only [go_sem]
      ·have hib:i=both.length:=by omega
       subst hib
       have hml:=map_len (keysOf X)
       simp (disch:=omega) only [go_sem,f3,f7,f9,f10,f86,f87,hlb,hBm,hml,hlen,hBA,auA,auF,rowsD]
       refine hclo.at ?_
       simp (disch:=omega) only [go_sem,f7,intsD]
       refine hsam.at ?_
       simp (disch:=omega) only [go_sem]
       refine awake8.at ?_
       simp (disch:=omega) only [go_sem]
     ·refine ⟨by omega,?_,?_,?_,?_,?_,?_,?_,rfl⟩
      ·simp (disch:=omega) only [go_sem,f3]
      ·simp (disch:=omega) only [go_sem,f7]
      ·simp (disch:=omega) only [go_sem,f9]
      ·simp (disch:=omega) only [go_sem,f10]
      ·simp (disch:=omega) only [go_sem,f9]
      ·simp (disch:=omega) only [go_sem,hBm]
      ·simp (disch:=omega) only [go_sem]
   ·refine ⟨by omega,?_,?_,?_,?_,?_,?_,?_,rfl⟩
    ·simp (disch:=omega) only [go_sem,f3]
    ·simp (disch:=omega) only [go_sem,f7]
    ·simp (disch:=omega) only [go_sem,f9]
    ·simp (disch:=omega) only [go_sem,f10]
    ·simp (disch:=omega) only [go_sem,f1]
    ·simp (disch:=omega) only [go_sem]
    ·simp (disch:=omega) only [go_sem]
 ·refine ⟨by omega,?_,?_,?_,?_,?_,?_,?_,?_,rfl⟩
  ·simp (disch:=omega) only [go_sem]
  ·simp (disch:=omega) only [go_sem]
  ·simp (disch:=omega) only [go_sem]
  ·simp (disch:=omega) only [go_sem]
  ·simp (disch:=omega) only [go_sem]
  ·simp (disch:=omega) only [go_sem]
  ·simp (disch:=omega) only [go_sem]
  ·simp (disch:=omega) only [go_sem]
end Go.Proofs.YtngdkenddfdhaaaDoor
set_option linter.unusedVariables false
set_option linter.unusedSimpArgs false
set_option maxRecDepth 100000
namespace Go.Proofs.YtngdkenddfdhaaaDoor
open Go Nv Pat
/- What comes in,as trees. -/
theorem int_td {n:Nat} {t:TypeId} {k:IntKind} {ds:List DV} (ht:Tryd.prog.underlying t=some (.int k)) (h:TD Tryd.prog n t ds):∃ z,ds=[.int k z]∧(Lit.int k z).wf=true:=by
 cases n with
 | zero=>exact h.elim
 | succ n=>simp only [TD,ht] at h;exact h
theorem rows_of {α:Type} {Q:DV→Prop} {f:α→DV}:∀ {xs:List DV},(∀ x,x∈xs→∃ a,x=f a)→∃ l:List α,xs=l.map f
 | [],_=>⟨[],rfl⟩
 | x::xs,h=>by
  obtain ⟨a,rfl⟩:=h x (by simp)
  obtain ⟨l,rfl⟩:=rows_of (Q:=Q) (xs:=xs) fun y hy=>h y (by simp [hy])
  exact ⟨a::l,rfl⟩
theorem range_td {n:Nat} {cs:List DV} (h:TD Tryd.prog n 43 cs):∃ r:Int × Int,cs=[.int .i32 r.1,.int .i32 r.2]:=by
 cases n with
 | zero=>exact h.elim
 | succ n =>
  simp only [TD,go_sem,List.mem_cons,List.not_mem_nil,or_false,forall_eq_or_imp,forall_eq] at h
  obtain ⟨hl,h0,h1⟩:=h
  match cs,hl with
  | [a,b],_ =>
   simp only [List.drop,List.take] at h0 h1
   obtain ⟨z0,e0,_⟩:=int_td Tryd.underlying21 h0
   obtain ⟨z1,e1,_⟩:=int_td Tryd.underlying21 h1
   simp only [List.cons.injEq,and_true] at e0 e1
   exact ⟨(z0,z1),by rw [e0,e1]⟩
end Go.Proofs.YtngdkenddfdhaaaDoor
set_option linter.unusedVariables false
set_option linter.unusedSimpArgs false
set_option maxRecDepth 100000
namespace Go.Proofs.YtngdkenddfdhaaaDoor
open Go Nv Pat
/- The characters of two texts one after the other. -/
end Go.Proofs.YtngdkenddfdhaaaDoor
set_option linter.unusedVariables false
set_option linter.unusedSimpArgs false
set_option maxRecDepth 100000
namespace Go.Proofs.YtngdkenddfdhaaaDoor
open Go Nv Pat
end Go.Proofs.YtngdkenddfdhaaaDoor
set_option linter.unusedVariables false
set_option linter.unusedSimpArgs false
set_option maxRecDepth 100000
namespace Go.Proofs.YtngdkenddfdhaaaDoor
open Go Nv Pat
/- What comes in,as automata,sets of states,texts. -/
theorem arc_td {n:Nat} {cs:List DV} (h:TD Tryd.prog n 45 cs):∃ x:Arc,cs=[.int .i32 x.1,.int .i32 x.2.1,.int .i64 x.2.2]:=by
 cases n with
 | zero=>exact h.elim
 | succ n =>
  unfold TD at h
  simp only [go_sem,List.mem_cons,List.not_mem_nil,or_false,forall_eq_or_imp,forall_eq] at h
  obtain ⟨hl,h0,h1⟩:=h
  match cs,hl with
  | [a,b,c],_ =>
   simp only [List.drop,List.take] at h0 h1
   obtain ⟨r,e0⟩:=range_td h0
   obtain ⟨z,e1,_⟩:=int_td Tryd.underlying3 h1
   simp only [List.cons.injEq,and_true] at e0 e1
   exact ⟨(r.1,r.2,z),by rw [e0.1,e0.2,e1]⟩
theorem arow_td {n:Nat} {ds:List DV} (h:TD Tryd.prog n 40 ds):∃ l:List Arc,ds=[.list 3 (l.map arcD)]:=by
 cases n with
 | zero=>exact h.elim
 | succ n =>
  unfold TD at h
  simp only [go_sem] at h
  obtain ⟨xs,rfl,_,hx⟩:=h
  obtain ⟨l,rfl⟩:=rows_of (Q:=fun _=>True) (f:=arcD) fun x hm=>by
   obtain ⟨cs,rfl,hc⟩:=hx x hm
   obtain ⟨r,rfl⟩:=arc_td hc
   exact ⟨r,by simp only [ofCells,go_sem,arcD]⟩
  exact ⟨l,rfl⟩
theorem arows_td {n:Nat} {ds:List DV} (h:TD Tryd.prog n 22 ds):∃ L:List (List Arc),ds=[rowsD 3 (arcsL L)]:=by
 cases n with
 | zero=>exact h.elim
 | succ n =>
  unfold TD at h
  simp only [go_sem] at h
  obtain ⟨xs,rfl,_,hx⟩:=h
  obtain ⟨l,rfl⟩:=rows_of (Q:=fun _=>True) (f:=fun l:List Arc=>DV.list 3 (l.map arcD)) fun x hm=>by
   obtain ⟨cs,rfl,hc⟩:=hx x hm
   obtain ⟨r,rfl⟩:=arow_td hc
   exact ⟨r,by simp only [ofCells,go_sem,List.headD_cons]⟩
  exact ⟨l,by simp [rowsD,arcsL]⟩
theorem ints_td {n:Nat} {ds:List DV} (h:TD Tryd.prog n 26 ds):∃ l:List Int,ds=[intsD l]:=by
 cases n with
 | zero=>exact h.elim
 | succ n =>
  unfold TD at h
  simp only [go_sem] at h
  obtain ⟨xs,rfl,_,hx⟩:=h
  obtain ⟨l,rfl⟩:=rows_of (Q:=fun _=>True) (f:=intD) fun x hm=>by
   obtain ⟨cs,rfl,hc⟩:=hx x hm
   obtain ⟨z,rfl,_⟩:=int_td Tryd.underlying3 hc
   exact ⟨z,by simp only [ofCells,go_sem,intD,List.headD_cons]⟩
  exact ⟨l,rfl⟩
theorem erows_td {n:Nat} {ds:List DV} (h:TD Tryd.prog n 23 ds):∃ L:List (List Int),ds=[rowsD 1 (intsL L)]:=by
 cases n with
 | zero=>exact h.elim
 | succ n =>
  unfold TD at h
  simp only [go_sem] at h
  obtain ⟨xs,rfl,_,hx⟩:=h
  obtain ⟨l,rfl⟩:=rows_of (Q:=fun _=>True) (f:=fun l:List Int=>intsD l) fun x hm=>by
   obtain ⟨cs,rfl,hc⟩:=hx x hm
   obtain ⟨r,rfl⟩:=ints_td hc
   exact ⟨r,by simp only [ofCells,go_sem,List.headD_cons]⟩
  exact ⟨l,by simp [rowsD,intsL,intsD]⟩
def auC (A:Au):List DV:=[.int .i64 A.start,.int .i64 A.accept,rowsD 3 (arcsL A.arcs),rowsD 1 (intsL A.emp)]
theorem au_td {n:Nat} {cs:List DV} (h:TD Tryd.prog n 25 cs):∃ A:Au,cs=auC A:=by
 cases n with
 | zero=>exact h.elim
 | succ n =>
  unfold TD at h
  simp only [go_sem,List.mem_cons,List.not_mem_nil,or_false,forall_eq_or_imp,forall_eq] at h
  obtain ⟨hl,h0,h1,h2,h3⟩:=h
  match cs,hl with
  | [a,b,c,d],_ =>
   simp only [List.drop,List.take] at h0 h1 h2 h3
   obtain ⟨z0,e0,_⟩:=int_td Tryd.underlying3 h0
   obtain ⟨z1,e1,_⟩:=int_td Tryd.underlying3 h1
   obtain ⟨L,e2⟩:=arows_td h2
   obtain ⟨E,e3⟩:=erows_td h3
   simp only [List.cons.injEq,and_true] at e0 e1 e2 e3
   exact ⟨⟨z0,z1,L,E⟩,by rw [e0,e1,e2,e3];rfl⟩
end Go.Proofs.YtngdkenddfdhaaaDoor
