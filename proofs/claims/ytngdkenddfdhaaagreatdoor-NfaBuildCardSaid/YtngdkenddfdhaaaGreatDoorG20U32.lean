/- Part of a proof about the functions of this seat. -/
import Derived.Test.YtngdkenddfdhaaaGreatDoorG19Nfd
import Derived.Test.YtngdkenddfdhaaaGreatDoorG09Base32
import Derived.Test.YtngdkenddfdhaaaGreatDoorG12Nfr
import Derived.Lib.ValidLaws
set_option linter.unusedVariables false
set_option linter.unusedSimpArgs false
set_option maxRecDepth 100000
namespace Go.Proofs.YtngdkenddfdhaaaGreatDoor
open Go Nv Pat
def bitsL (s:List Bool):List DV:=s.map DV.bool
structure CloS (B0:Blk) (σ:Nv.ST) (s:List Bool × List Int):Prop where
 s0:stGet σ 0=B0
 s1:stGet σ 1=.arr 0 ⟨1,4⟩ (bitsL s.1)
 s2:stGet σ 2=.box 71 [.own 1 0 0 s.1.length]
 s3:∃ o,stGet σ 3=.box 51 [o]∧((o=.d .nilslice∧s.2=[])∨∃ b g xs,4≤b∧o=.own b g 0 s.2.length∧stGet σ b=.arr g ⟨1,3⟩ xs∧s.2.length≤xs.length∧xs.take s.2.length=s.2.map intD)
theorem bits_get (s:List Bool) (i:Nat) (h:i<s.length):(bitsL s).getD i default=.bool (s.getD i false):=by
 simp [bitsL,List.getD_eq_getElem?_getD,h]
theorem bits_len (s:List Bool):(bitsL s).length=s.length:=by simp [bitsL]
theorem stGet_sl2 {σ m:Nv.ST} {b b' k:Nat} {x y:Blk} (h:k<σ.length) (h1:k≠b) (h2:k≠b'):stGet (stSet (stSet σ b' y) b x++m) k=stGet σ k:=by
 rw [stGet_sl (by rw [stSet_len];exact h) h1,stGet_set_ne h2]
theorem stSet_sl2 {σ m:Nv.ST} {b b' k:Nat} {x y z:Blk} (h:k<σ.length):stSet (stSet (stSet σ b' y) b x++m) k z=stSet (stSet (stSet σ b' y) b x) k z++m:=by
 rw [stSet_sl (by rw [stSet_len];exact h)]
theorem push58 {B0:Blk} {σ:Nv.ST} {s:List Bool × List Int} (hC:CloS B0 σ s) (h1:s.1.length≤1000000) (h2:s.2.length≤1000000) (x:Int) :
  RCall Tryz.prog 58 [.d (.int .i64 x),.ptr 2 0,.ptr 3 0] σ fun v σ'=>v=.tuple []∧CloS B0 σ' (pushC s x):=by
 obtain ⟨seen,opn⟩:=s
 have hs1:=hC.s1
 have hs2:=hC.s2
 dsimp only at hs1 hs2 h1 h2
 refine fn58.rel noHint (Nat.le_refl _) ?_
 by_cases c1:¬ 0≤x
 ·have e:pushC (seen,opn) x=(seen,opn):=if_neg fun h=>c1 h.1
  simp (disch:=omega) only [go_sem,c1]
  exact ⟨_,rfl,rfl,by rw [e];exact hC⟩
 have c1:0≤x:=by omega
 by_cases c2:¬ x<seen.length
 ·have e:pushC (seen,opn) x=(seen,opn):=if_neg fun h=>c2 h.2.1
  simp (disch:=omega) only [go_sem,c1,c2,hs2,hs1]
  exact ⟨_,rfl,rfl,by rw [e];exact hC⟩
 have c2:x<seen.length:=by omega
 obtain ⟨i,rfl⟩:∃ i:Nat,x=i:=⟨x.toNat,by omega⟩
 have hi:i<seen.length:=by omega
 cases c3:seen.getD i false with
 | true =>
  have e:pushC (seen,opn) i=(seen,opn):=if_neg fun h=>by have:=h.2.2;simp only [Int.toNat_natCast] at this;rw [c3] at this;cases this
  simp (disch:=omega) only [go_sem,c1,c2,hs2,hs1,bits_len,bits_get,hi,c3,Int.toNat_natCast,Nat.zero_add]
  exact ⟨_,rfl,rfl,by rw [e];exact hC⟩
 | false =>
  have e:pushC (seen,opn) i=(seen.set i true,opn++[(i:Int)]):=if_pos ⟨c1,c2,by simpa using c3⟩
  rw [e]
  obtain ⟨o,hs3,ho⟩:=hC.s3
  have hl3:=lt_of_get hs3 (by simp)
  have hs0:=hC.s0
  have hbit:(bitsL seen).set i (DV.bool true)=bitsL (seen.set i true):=by simp [bitsL,List.map_set]
  rcases ho with ⟨rfl,ho⟩ | ⟨b,g,xs,hb4,rfl,hb,hxl,htk⟩
  ·dsimp only at ho
   subst ho
   simp (disch:=omega) only [go_sem,c1,c2,hs2,hs1,hs3,bits_len,bits_get,hi,c3,Int.toNat_natCast,Nat.zero_add,hbit,stGet_set_ne,stGet_left,stSet_left,stGet_sl,stSet_sl,apR]
   refine ⟨_,rfl,rfl,?_⟩
   have hg:∀ (y z:Blk) (τ:Nv.ST) k,k<σ.length→k≠3→k≠1→stGet (stSet (stSet σ 1 y) 3 z++τ) k=stGet σ k:=fun y z τ k=>stGet_sl2
   have hln:∀ (y z:Blk),(stSet (stSet σ 1 y) 3 z).length=σ.length:=fun y z=>by rw [stSet_len,stSet_len]
   refine ⟨?_,?_,?_,⟨.own (σ.length+1) 0 0 1,?_,.inr ⟨σ.length+1,0,[.int .i64 i],by omega,rfl,?_,Nat.le_refl _,rfl⟩⟩⟩
   ·rw [hg _ _ _ 0 (by omega) (by omega) (by omega)];exact hs0
   ·rw [stGet_sl (by rw [stSet_len];omega) (by omega),stGet_set_eq (by omega)]
   ·rw [hg _ _ _ 2 (by omega) (by omega) (by omega)];simpa using hs2
   ·rw [stGet_left _ _ _ (by rw [hln];omega),stGet_set_eq (by rw [stSet_len];omega),stSet_len]
   ·rw [stGet_add 1 (hln _ _)];rfl
  ·have hbl:=lt_of_get hb (by simp)
   dsimp only at hxl htk
   have hcap:(opn.length+1) * 8≤140737488355328:=by omega
   have hol:(opn.map intD).length=opn.length:=by simp
   simp (disch:=omega) only [go_sem,c1,c2,hs2,hs1,hs3,hb,htk,hol,hxl,hcap,bits_len,bits_get,hi,c3,Int.toNat_natCast,Nat.zero_add,hbit,stGet_set_ne,stGet_left,stSet_left,stGet_sl,stSet_sl,stGet_sl2,stSet_sl2,apR]
   refine ⟨_,rfl,rfl,?_⟩
   have hln:∀ (y z v:Blk),(stSet (stSet (stSet σ 1 y) b z) 3 v).length=σ.length:=fun y z v=>by rw [stSet_len,stSet_len,stSet_len]
   have hg:∀ (y z v:Blk) (τ:Nv.ST) k,k<σ.length→k≠3→k≠1→k≠b→stGet (stSet (stSet (stSet σ 1 y) b z) 3 v++τ) k=stGet σ k:=fun y z v τ k h1 h2 h3 h4=>by
    rw [stGet_left _ _ _ (by rw [hln];exact h1),stGet_set_ne h2,stGet_set_ne h4,stGet_set_ne h3]
   refine ⟨?_,?_,?_,⟨.own b (g+1) 0 (opn.length+1),?_,.inr ⟨b,g+1,opn.map intD++[.int .i64 i],hb4,by simp,?_,by simp,?_⟩⟩⟩
   ·rw [hg _ _ _ _ 0 (by omega) (by omega) (by omega) (by omega)];exact hs0
   ·rw [stGet_left _ _ _ (by rw [hln];omega),stGet_set_ne (by omega),stGet_set_ne (by omega),stGet_set_eq (by omega)]
   ·rw [hg _ _ _ _ 2 (by omega) (by omega) (by omega) (by omega)];simpa using hs2
   ·rw [stGet_left _ _ _ (by rw [hln];omega),stGet_set_eq (by rw [stSet_len,stSet_len];omega)]
   ·rw [stGet_left _ _ _ (by rw [hln];omega),stGet_set_ne (by omega),stGet_set_eq (by rw [stSet_len];omega)]
   ·dsimp only
    rw [List.take_of_length_le (by simp)];simp [intD]
def hintsC:Nat→Hint:=fun i=>if i=13 then .own ⟨1,3⟩ else if i=4 then .freeze else .no
@[go_sem] theorem hintsC_at (i:Nat):hintsC i=if i=13 then .own ⟨1,3⟩ else if i=4 then .freeze else .no:=nrfl rfl
theorem inZ_iff (n:Nat) (z:Int):inZ n z=true↔inR n z:=by simp [inZ,inR]
theorem all_rows {α:Type} {L:List (List α)} {P:α→Prop}:(∀ l,l∈L→∀ x,x∈l→P x)↔∀ j,j<L.length→∀ x,x∈L.getD j []→P x:=by
 constructor
 ·intro h j hj x hx
  rw [List.getD_eq_getElem?_getD,List.getElem?_eq_getElem hj] at hx
  exact h _ (List.getElem_mem hj) x hx
 ·intro h l hl x hx
  obtain ⟨j,hj,rfl⟩:=List.mem_iff_getElem.1 hl
  exact h j hj x (by rw [List.getD_eq_getElem?_getD,List.getElem?_eq_getElem hj];exact hx)
theorem okA_proper {A:Au}:okA A=true↔A.Proper:=by
 have hrow:∀ j,rowB A j=true↔(∀ x,x∈A.arcs.getD j []→scalar x.1∧scalar x.2.1∧x.1≤x.2.1∧inR A.arcs.length x.2.2)∧∀ z,z∈A.emp.getD j []→inR A.arcs.length z:=by
  intro j
  unfold rowB arcB
  simp only [Bool.and_eq_true,List.all_eq_true,charB_iff2,inZ_iff,decide_eq_true_eq,and_assoc]
 unfold okA
 simp only [Bool.and_eq_true,decide_eq_true_eq,inZ_iff,List.all_eq_true,List.mem_range,hrow]
 constructor
 ·rintro ⟨⟨⟨⟨⟨h1,h2⟩,h3⟩,h4⟩,h5⟩,h6⟩
  exact ⟨h1,h2,h3,h4,h5,all_rows.2 fun j hj=>(h6 j hj).1,all_rows.2 fun j hj=>(h6 j (by omega)).2⟩
 ·rintro ⟨h1,h2,h3,h4,h5,h6,h7⟩
  exact ⟨⟨⟨⟨⟨h1,h2⟩,h3⟩,h4⟩,h5⟩,fun j hj=>⟨all_rows.1 h6 j hj,all_rows.1 h7 j (by omega)⟩⟩
theorem closure33 (A:Au) (hp:A.Proper) (hf:Fit A) (l:List Int) (hl:l.length≤1000000000000000):PCall Tryz.prog 33 [auA A,.d (intsD l)] (.d (intsD (closM A l))):=by
 refine fn33.pure hintsC (Nat.le_refl _) (by simp only [go_sem,auA,auF,rowsD,intsD]) (by simp only [go_sem]) ?_
 have hla:((arcsL A.arcs).map (DV.list 3)).length=A.arcs.length:=by simp [arcsL]
 have hle:((intsL A.emp).map (DV.list 1)).length=A.emp.length:=by simp [intsL]
 have hpos:=hp.pos
 have hmost:=hp.most
 have hsame:=hp.same
 simp (disch:=omega) only [go_sem,auA,auF,rowsD,hla,hle,intsD,List.length_map,Int.toNat_natCast,Nat.le_refl]
 refine ⟨by omega,?_⟩
 obtain ⟨B0,hB0⟩:∃ B0,B0=Blk.box 31 [AV.d (.int .i64 A.start),AV.d (.int .i64 A.accept),AV.d (.list 1 ((arcsL A.arcs).map (DV.list 3))),AV.d (.list 1 ((intsL A.emp).map (DV.list 1)))]:=⟨_,rfl⟩
 rw [← hB0]
 refine wL_ind (fun (i:Nat) fr σ=>i≤l.length∧fr 2=.ptr 0 0∧fr 5=.ptr 2 0∧fr 6=.ptr 3 0∧fr 7=.func (.func 58) [] [.ptr 2 0,.ptr 3 0]∧fr 21=.d (.list 1 (l.map intD))∧fr 22=.d (.int .i64 l.length)∧fr 23=.d (.int .i64 i) ∧
  ∃ s,CloS B0 σ s∧Dfs A l (fun _=>False) s∧(∀ z,z∈l.take i→inR A.arcs.length z→Seen s.1 z)∧meas s≤2 * A.arcs.length) (fun i=>l.length - i) ?_ 0 ?_
 ·rintro i fr σ ⟨hi,f2,f5,f6,f7,f21,f22,f23,s,hC,hD,hseen,hm⟩ ih
  have hsl:=hD.len
  have hol:s.2.length≤2 * A.arcs.length:=by unfold meas at hm;omega
  by_cases hlt:i<l.length
  ·have hg:=emp_get l i hlt
   have hxl:l.getD i default∈l:=getD_mem l i hlt
   have htk:=take_succ' l i hlt
   generalize l.getD i default=x at *
   simp (disch:=omega) only [go_sem,f2,f5,f6,f7,f21,f22,f23,hlt,hg]
   refine (push58 hC (by omega) (by omega) x).at ?_
   rintro v σ' ⟨rfl,hC'⟩
   simp (disch:=omega) only [go_sem,f23]
   refine ih (i+1) _ _ (by omega) ⟨by omega,?_,?_,?_,?_,?_,?_,?_,pushC s x,hC',hD.push fun hx=>⟨x,hxl,hx,.refl x⟩,fun z hz hr=>?_,Nat.le_trans (push_meas s x) hm⟩
   ·simp (disch:=omega) only [go_sem,f2]
   ·simp (disch:=omega) only [go_sem,f5]
   ·simp (disch:=omega) only [go_sem,f6]
   ·simp (disch:=omega) only [go_sem,f7]
   ·simp (disch:=omega) only [go_sem,f21]
   ·simp (disch:=omega) only [go_sem,f22]
   ·simp (disch:=omega) only [go_sem]
   ·rw [htk] at hz
    rcases List.mem_append.1 hz with h | h
    ·exact seen_mono _ _ _ (hseen z h hr)
    ·rw [List.mem_singleton.1 h]
     exact seen_self _ _ (by rw [hsl];exact List.mem_singleton.1 h ▸ hr)
  ·have hil:i=l.length:=by omega
   subst hil
   rw [List.take_length] at hseen
   simp (disch:=omega) only [go_sem,f2,f5,f6,f7,f21,f22,f23,hlt]
   refine wL_ind (fun (s:List Bool × List Int) fr σ=>fr 2=.ptr 0 0∧fr 5=.ptr 2 0∧fr 6=.ptr 3 0∧fr 7=.func (.func 58) [] [.ptr 2 0,.ptr 3 0] ∧
    CloS B0 σ s∧Dfs A l (fun _=>False) s∧(∀ z,z∈l→inR A.arcs.length z→Seen s.1 z)∧meas s≤2 * A.arcs.length) meas ?_ s ?_
   ·rintro ⟨seen,opn⟩ fr σ ⟨f2,f5,f6,f7,hC,hD,hseen,hm⟩ ih2
    have hsl:=hD.len
    have hm':2 * unseen seen+opn.length≤2 * A.arcs.length:=hm
    have hol:opn.length≤2 * A.arcs.length:=by omega
    dsimp only at hsl
    have hs0:=hC.s0
    obtain ⟨o,hs3,ho⟩:=hC.s3
    by_cases hne:opn=[]
    ·subst hne
     have hdone:=Dfs.done hD hseen
     have hclos:=clos_of hsl hdone
     have hs1:=hC.s1
     have hs2:=hC.s2
     have hl3:=lt_of_get hs3 (by simp)
     have hlt2:2<σ.length:=by omega
     have hres:intsD (closM A l)=.list 1 ((((List.range seen.length).filter fun i=>seen.getD i false).map fun (i:Nat)=>(i:Int)).map intD):=by rw [hclos];rfl
     rcases ho with ⟨rfl,_⟩ | ⟨b,g,xs,hb4,rfl,hb,_,_⟩
     case' inl=>simp (disch:=omega) only [go_sem,f2,f5,f6,f7,hs3,hs2,hs1,bits_len,stGet_left,stSet_left,apR]
     case' inr=>simp (disch:=omega) only [go_sem,f2,f5,f6,f7,hs3,hb,hs2,hs1,bits_len,List.length_nil,stGet_left,stSet_left,apR]
     all_goals
      refine wL_ind (fun (j:Nat) fr τ=>j≤seen.length∧fr 59=.own 1 0 0 seen.length∧fr 60=.d (.int .i64 seen.length)∧fr 61=.d (.int .i64 j) ∧
       ∃ (m g:Nat) (rs:List Int),fr 13=.own m g 0 rs.length∧stGet τ m=.arr g ⟨1,3⟩ (rs.map intD)∧4≤m∧stGet τ 1=.arr 0 ⟨1,4⟩ (bitsL seen)∧rs=((List.range j).filter fun i=>seen.getD i false).map fun (i:Nat)=>(i:Int)) (fun j=>seen.length - j) ?_ 0 ?_
      ·rintro j fr τ ⟨hj,f59,f60,f61,m,g',rs,f13,hm9,hm4,hs1',hrs⟩ ih3
       have hml:=lt_of_get hm9 (by simp)
       have hrl:rs.length≤j:=by rw [hrs,List.length_map];exact Nat.le_trans (List.length_filter_le _ _) (by simp)
       have hrn:(rs.map intD).length=rs.length:=by simp
       by_cases hlt:j<seen.length
       ·have hcap:(rs.length+1) * 8≤140737488355328:=by omega
        have hta:List.take rs.length (rs.map intD)=rs.map intD:=List.take_of_length_le (by simp)
        cases hbj:seen.getD j false with
        | true =>
         simp (disch:=omega) only [go_sem,f13,f59,f60,f61,hlt,hm9,hs1',hrn,hta,hcap,bits_len,bits_get,hbj,Nat.zero_add,Nat.le_refl,stGet_left,stSet_left,apR]
         refine ih3 (j+1) _ _ (by omega) ⟨by omega,?_,?_,?_,m,g'+1,rs++[(j:Int)],?_,?_,hm4,?_,?_⟩
         ·simp (disch:=omega) only [go_sem,f59]
         ·simp (disch:=omega) only [go_sem,f60]
         ·simp (disch:=omega) only [go_sem]
         ·simp (disch:=omega) only [go_sem,List.length_append]
         ·rw [(own_turn _ _ hml).1];simp [intD]
         ·rw [(own_turn _ _ hml).2.1 1 (by omega) (by omega)];exact hs1'
         ·rw [List.range_succ,List.filter_append,List.map_append,← hrs];simp only [List.filter_cons,List.filter_nil,hbj,if_true,List.map_cons,List.map_nil]
        | false =>
         simp (disch:=omega) only [go_sem,f13,f59,f60,f61,hlt,hm9,hs1',bits_len,bits_get,hbj,Nat.zero_add,Nat.le_refl]
         refine ih3 (j+1) _ _ (by omega) ⟨by omega,?_,?_,?_,m,g',rs,?_,hm9,hm4,hs1',?_⟩
         ·simp (disch:=omega) only [go_sem,f59]
         ·simp (disch:=omega) only [go_sem,f60]
         ·simp (disch:=omega) only [go_sem]
         ·simp (disch:=omega) only [go_sem,f13]
         ·rw [List.range_succ,List.filter_append,List.map_append,← hrs];simp only [List.filter_cons,List.filter_nil,hbj,Bool.false_eq_true,if_false,List.map_nil,List.append_nil]
       ·have hjl:j=seen.length:=by omega
        subst hjl
        have hta:List.take rs.length (rs.map intD)=rs.map intD:=List.take_of_length_le (by simp)
        simp (disch:=omega) only [go_sem,f13,f59,f60,f61,hlt,hm9,hrn,hta,Nat.zero_add,Nat.le_refl,List.drop_zero]
        rw [hclos,← hrs]
      ·refine ⟨by omega,?_,?_,?_,σ.length,0,[],?_,?_,by omega,?_,rfl⟩
       ·simp (disch:=omega) only [go_sem]
       ·simp (disch:=omega) only [go_sem]
       ·simp (disch:=omega) only [go_sem]
       ·simp (disch:=omega) only [go_sem]
       ·simp [stGet]
       ·rw [stGet_left _ _ _ (by omega)];exact hs1
    ·obtain ⟨op,x,rfl⟩:∃ op x,opn=op++[x]:=⟨opn.dropLast,opn.getLast hne,(List.dropLast_concat_getLast hne).symm⟩
     rcases ho with ⟨_,h1⟩ | ⟨b,g,xs,hb4,rfl,hb,hxl,htk⟩
     ·simp at h1
     dsimp only at hb hxl htk
     have hbl:=lt_of_get hb (by simp)
     have hl3:=lt_of_get hs3 (by simp)
     have hgx:xs.getD op.length default=.int .i64 x:=by
      have h:=congrArg (fun l=>l.getD op.length default) htk
      simp only [List.map_append,List.length_append,List.length_singleton] at h hxl
      rw [List.getD_eq_getElem?_getD,List.getElem?_take,if_pos (by omega),← List.getD_eq_getElem?_getD] at h
      rw [h,List.getD_eq_getElem?_getD,List.getElem?_append_right (by simp)]
      simp [intD]
     have hsx:Seen seen x:=hD.opn x (by simp)
     have hxr:=hsx.inR hsl
     simp only [List.length_append,List.length_singleton] at hxl hol hs3
     have hl0:=lt_of_get hs0 (by rw [hB0];simp)
     have ex1:((op.length+1:Nat):Int) - 1=op.length:=by omega
     have ex2:(op.length:Int)+1 - 1=op.length:=by omega
     have hxe:x<A.emp.length:=by have:=hxr.2;omega
     have hx0:0≤x:=hxr.1
     have he:=erows_get A.emp x.toNat (by omega)
     have hre:=hp.emp (A.emp.getD x.toNat []) (by rw [List.getD_eq_getElem?_getD,List.getElem?_eq_getElem (by omega)];exact List.getElem_mem _)
     obtain ⟨erow,herow⟩:∃ erow,erow=A.emp.getD x.toNat []:=⟨_,rfl⟩
     rw [← herow] at he hre
     have hltx:op.length<op.length+1:=by omega
     have hgt0:(0:Int)<((op.length+1:Nat):Int):=by omega
     simp (disch:=omega) only [go_sem,f2,f5,f6,f7,hs3,hb,hxl,hgt0,hgx,ex1,ex2,hs0,hB0,hle,he,hxe,hx0,hltx,Nat.zero_add,List.length_map,stGet_set_ne,stGet_set_eq,apR]
     refine ⟨by omega,by omega,?_⟩
     have hrl:=hf.erow erow (by rw [herow,List.getD_eq_getElem?_getD,List.getElem?_eq_getElem (by omega)];exact List.getElem_mem _)
     have hs1:=hC.s1
     have hs2:=hC.s2
     have hC2:CloS B0 (stSet σ 3 (.box 51 [.own b g 0 op.length])) (seen,op):=by
      refine ⟨?_,?_,?_,⟨.own b g 0 op.length,?_,.inr ⟨b,g,xs,hb4,rfl,?_,by simp only;omega,?_⟩⟩⟩
      ·rw [stGet_set_ne (by omega)];exact hs0
      ·rw [stGet_set_ne (by omega)];exact hs1
      ·rw [stGet_set_ne (by omega)];exact hs2
      ·rw [stGet_set_eq hl3]
      ·rw [stGet_set_ne (by omega)];exact hb
      ·have h:=congrArg (List.take op.length) htk
       rw [List.take_take,Nat.min_eq_left (by simp),List.map_append,List.take_append_of_le_length (by simp)] at h
       rw [h]
       exact List.take_of_length_le (by simp)
     have hM:meas (seen,op)+1=meas (seen,op++[x]):=by simp [meas];omega
     refine wL_ind (fun (i:Nat) fr σ=>i≤erow.length∧fr 2=.ptr 0 0∧fr 5=.ptr 2 0∧fr 6=.ptr 3 0∧fr 7=.func (.func 58) [] [.ptr 2 0,.ptr 3 0]∧fr 49=.d (.list 1 (erow.map intD))∧fr 50=.d (.int .i64 erow.length)∧fr 51=.d (.int .i64 i) ∧
      ∃ s,CloS B0 σ s∧Dfs A l (fun z=>z=x) s∧(∀ z,z∈l→inR A.arcs.length z→Seen s.1 z)∧(∀ y,y∈erow.take i→Seen s.1 y)∧Seen s.1 x∧meas s≤meas (seen,op)) (fun i=>erow.length - i) ?_ 0 ?_
     ·rintro i fr σ ⟨hi,f2,f5,f6,f7,f49,f50,f51,s,hC,hD,hseen,hrow,hsx,hms⟩ ih3
      have hsl:=hD.len
      have hms2:2 * unseen s.1+s.2.length≤meas (seen,op):=hms
      have h11:meas (seen,op++[x])≤2 * A.arcs.length:=hm
      have hol2:s.2.length≤2 * A.arcs.length:=by omega
      by_cases hlt:i<erow.length
      ·have hg:=emp_get erow i hlt
       have hyl:erow.getD i default∈erow:=getD_mem erow i hlt
       have htk:=take_succ' erow i hlt
       generalize erow.getD i default=y at *
       have hyr:=hre y hyl
       simp (disch:=omega) only [go_sem,f2,f5,f6,f7,f49,f50,f51,hlt,hg]
       refine (push58 hC (by omega) (by omega) y).at ?_
       rintro v σ' ⟨rfl,hC'⟩
       simp (disch:=omega) only [go_sem,f51]
       refine ih3 (i+1) _ _ (by omega) ⟨by omega,?_,?_,?_,?_,?_,?_,?_,pushC s y,hC',hD.push fun _=>?_,fun z hz hr=>seen_mono _ _ _ (hseen z hz hr),fun z hz=>?_,seen_mono _ _ _ hsx,Nat.le_trans (push_meas s y) hms⟩
       ·simp (disch:=omega) only [go_sem,f2]
       ·simp (disch:=omega) only [go_sem,f5]
       ·simp (disch:=omega) only [go_sem,f6]
       ·simp (disch:=omega) only [go_sem,f7]
       ·simp (disch:=omega) only [go_sem,f49]
       ·simp (disch:=omega) only [go_sem,f50]
       ·simp (disch:=omega) only [go_sem]
       ·obtain ⟨q,h1,h2,h3⟩:=hD.snd x hsx
        exact ⟨q,h1,h2,h3.trans (.step (by rw [← herow];exact hyl) (.refl y))⟩
       ·rw [htk] at hz
        rcases List.mem_append.1 hz with h | h
        ·exact seen_mono _ _ _ (hrow z h)
        ·rw [List.mem_singleton.1 h]
         exact seen_self _ _ (by rw [hsl];exact hyr)
      ·rw [List.take_of_length_le (by omega)] at hrow
       simp (disch:=omega) only [go_sem,f2,f5,f6,f7,f49,f50,f51,hlt]
       refine ih2 s _ _ (by omega) ⟨?_,?_,?_,?_,hC,hD.shut (by rw [← herow];exact hrow),hseen,?_⟩
       ·simp (disch:=omega) only [go_sem,f2]
       ·simp (disch:=omega) only [go_sem,f5]
       ·simp (disch:=omega) only [go_sem,f6]
       ·simp (disch:=omega) only [go_sem,f7]
       ·have h11:meas (seen,op++[x])≤2 * A.arcs.length:=hm
        omega
     ·refine ⟨by omega,?_,?_,?_,?_,?_,?_,?_,(seen,op),hC2,hD.pop,hseen,fun y hy=>(by cases hy),hsx,Nat.le_refl _⟩
      all_goals simp (disch:=omega) only [go_sem,f2,f5,f6,f7]
   ·exact ⟨by simp (disch:=omega) only [go_sem,f2],by simp (disch:=omega) only [go_sem,f5],by simp (disch:=omega) only [go_sem,f6],by simp (disch:=omega) only [go_sem,f7],hC,hD,hseen,hm⟩
 ·refine ⟨by omega,?_,?_,?_,?_,?_,?_,?_,(List.replicate A.arcs.length false,[]),⟨rfl,?_,?_,⟨.d .nilslice,rfl,.inl ⟨rfl,rfl⟩⟩⟩,Dfs.start A l,fun z hz=>(by cases hz),?_⟩
  ·simp (disch:=omega) only [go_sem]
  ·simp (disch:=omega) only [go_sem]
  ·simp (disch:=omega) only [go_sem]
  ·simp (disch:=omega) only [go_sem]
  ·simp (disch:=omega) only [go_sem]
  ·simp (disch:=omega) only [go_sem]
  ·simp (disch:=omega) only [go_sem]
  ·simp [stGet,bitsL]
  ·simp [stGet]
  ·have h9:unseen (List.replicate A.arcs.length false)≤(List.replicate A.arcs.length false).length:=List.countP_le_length
   rw [List.length_replicate] at h9
   have h10:meas (List.replicate A.arcs.length false,[])=2 * unseen (List.replicate A.arcs.length false):=rfl
   rw [h10];omega
end Go.Proofs.YtngdkenddfdhaaaGreatDoor
set_option linter.unusedVariables false
set_option linter.unusedSimpArgs false
set_option maxRecDepth 100000
namespace Go.Proofs.YtngdkenddfdhaaaGreatDoor
open Go Nv Pat
def hintsT:Nat→Hint:=fun i=>if i=7 then .own ⟨1,3⟩ else if i=48 then .freeze else .no
@[go_sem] theorem hintsT_at (i:Nat):hintsT i=if i=7 then .own ⟨1,3⟩ else if i=48 then .freeze else .no:=nrfl rfl
theorem hits_snoc {c:Int} {row:List Arc} {i:Nat} (h:i<row.length):hitsC c (row.take (i+1))=hitsC c (row.take i)++(if (row.getD i default).1≤c∧c≤(row.getD i default).2.1 then [(row.getD i default).2.2] else []):=by
 rw [take_succ' row i h]
 unfold hitsC
 rw [List.filterMap_append]
 congr 1
 simp only [List.filterMap_cons,List.filterMap_nil]
 split <;> simp_all
theorem hits_len (c:Int) (row:List Arc):(hitsC c row).length≤row.length:=List.length_filterMap_le _ _
theorem targets_snoc (A:Au) {l:List Int} {j:Nat} (c:Int) (h:j<l.length):targets A (l.take (j+1)) c=targets A (l.take j) c++hitsC c (A.arcs.getD (l.getD j default).toNat []):=by
 rw [take_succ' l j h,targets_append];simp [targets]
theorem targets_len {A:Au} (hf:Fit A) (c:Int):∀ l:List Int,(targets A l c).length≤l.length * 1000000000
 | []=>by simp [targets]
 | x::l=>by
  have h:=targets_len hf c l
  have hr:(A.arcs.getD x.toNat []).length≤1000000000:=by
   rw [List.getD_eq_getElem?_getD]
   cases hx:A.arcs[x.toNat]? with
   | none=>simp
   | some r=>exact hf.arow r (List.mem_of_getElem? hx)
  have h2:=hits_len c (A.arcs.getD x.toNat [])
  have e:targets A (x::l) c=hitsC c (A.arcs.getD x.toNat [])++targets A l c:=by simp [targets]
  rw [e,List.length_append,List.length_cons,Nat.add_mul]
  omega
theorem step35 (A:Au) (hp:A.Proper) (hf:Fit A) (l:List Int) (hl:l.length≤3000) (hr:∀ z,z∈l→inR A.arcs.length z) (c:Int) :
  PCall Tryz.prog 35 [auA A,.d (intsD l),.d (.int .i32 c)] (.d (intsD (stepM A l c))):=by
 refine fn35.pure hintsT (Nat.le_refl _) (by simp only [go_sem,auA,auF,rowsD,intsD]) (by simp only [go_sem]) ?_
 have hla:((arcsL A.arcs).map (DV.list 3)).length=A.arcs.length:=by simp [arcsL]
 have hmost:=hp.most
 simp (disch:=omega) only [go_sem,auA,auF,rowsD,hla,intsD,List.length_map]
 obtain ⟨B0,hB0⟩:∃ B0,B0=Blk.box 31 [AV.d (.int .i64 A.start),AV.d (.int .i64 A.accept),AV.d (.list 1 ((arcsL A.arcs).map (DV.list 3))),AV.d (.list 1 ((intsL A.emp).map (DV.list 1)))]:=⟨_,rfl⟩
 rw [← hB0]
 refine wL_ind (fun (j:Nat) fr σ=>j≤l.length∧fr 2=.d (.int .i32 c)∧fr 3=.ptr 0 0∧fr 12=.d (.list 1 (l.map intD))∧fr 13=.d (.int .i64 l.length)∧fr 14=.d (.int .i64 j) ∧
  ∃ (m g:Nat),fr 7=.own m g 0 (targets A (l.take j) c).length∧stGet σ 0=B0∧stGet σ m=.arr g ⟨1,3⟩ ((targets A (l.take j) c).map intD)∧0<m) (fun j=>l.length - j) ?_ 0 ?_
 ·rintro j fr σ ⟨hj,f2,f3,f12,f13,f14,m,g,f7,hs0,hsm,hm0⟩ ih
  have hml:=lt_of_get hsm (by simp)
  have hts:=targets_len hf c (l.take j)
  have hjl:(l.take j).length≤3000:=by rw [List.length_take];omega
  have hts2:(targets A (l.take j) c).length≤3000 * 1000000000:=Nat.le_trans hts (Nat.mul_le_mul_right _ hjl)
  by_cases hlt:j<l.length
  ·have hg:=emp_get l j hlt
   have hsn:=targets_snoc A c hlt
   have hxr:=hr _ (getD_mem l j hlt)
   generalize l.getD j default=x at *
   have hx0:=hxr.1
   have hxn:=hxr.2
   have ha:=arows_get A.arcs x.toNat (by omega)
   have hrl:=hf.arow (A.arcs.getD x.toNat []) (by rw [List.getD_eq_getElem?_getD,List.getElem?_eq_getElem (by omega)];exact List.getElem_mem _)
   generalize A.arcs.getD x.toNat []=row at *
   generalize targets A (l.take j) c=ts at *
   simp (disch:=omega) only [go_sem,f2,f3,f7,f12,f13,f14,hlt,hg,hs0,hB0,hla,ha,hx0,hxn,List.length_map]
   refine wL_ind (fun (i:Nat) fr σ=>i≤row.length∧fr 2=.d (.int .i32 c)∧fr 3=.ptr 0 0∧fr 12=.d (.list 1 (l.map intD))∧fr 13=.d (.int .i64 l.length)∧fr 14=.d (.int .i64 j) ∧
    fr 22=.d (.list 3 (row.map arcD))∧fr 23=.d (.int .i64 row.length)∧fr 24=.d (.int .i64 i) ∧
    ∃ (m g:Nat),fr 7=.own m g 0 (ts++hitsC c (row.take i)).length∧stGet σ 0=B0∧stGet σ m=.arr g ⟨1,3⟩ ((ts++hitsC c (row.take i)).map intD)∧0<m) (fun i=>row.length - i) ?_ 0 ?_
   ·rintro i fr σ ⟨hi,f2,f3,f12,f13,f14,f22,f23,f24,m,g,f7,hs0,hsm,hm0⟩ ih2
    have hml:=lt_of_get hsm (by simp)
    have hhl:=hits_len c (row.take i)
    have htil:(row.take i).length≤row.length:=by rw [List.length_take];omega
    by_cases hil:i<row.length
    ·have hga:=arc_get row i hil
     have hsn2:=hits_snoc (c:=c) hil
     generalize row.getD i default=y at *
     obtain ⟨lo,hi',to⟩:=y
     generalize hT:ts++hitsC c (row.take i)=T at *
     have hTl:T.length≤3000 * 1000000000+1000000000:=by rw [← hT,List.length_append];omega
     have hcap:(T.length+1) * 8≤140737488355328:=by omega
     have hTn:(T.map intD).length=T.length:=by simp
     have hta:List.take T.length (T.map intD)=T.map intD:=List.take_of_length_le (by simp)
     have hl0:=lt_of_get hs0 (by rw [hB0];simp)
     have hnew:ts++hitsC c (row.take (i+1))=T++(if lo≤c∧c≤hi' then [to] else []):=by rw [hsn2,← List.append_assoc,hT]
     have frs:∀ (x:AV) (fr':FR),True:=fun _ _=>trivial
     by_cases c1:lo≤c
     ·by_cases c2:c≤hi'
      ·rw [if_pos ⟨c1,c2⟩] at hnew
       simp (disch:=omega) only [go_sem,f2,f3,f7,f12,f13,f14,f22,f23,f24,hil,hga,c1,c2,hsm,hta,hTn,hcap,Nat.zero_add,Nat.le_refl,stGet_left,stSet_left,apR]
       refine ih2 (i+1) _ _ (by omega) ⟨by omega,?_,?_,?_,?_,?_,?_,?_,?_,m,g+1,?_,?_,?_,hm0⟩
       ·simp (disch:=omega) only [go_sem,f2]
       ·simp (disch:=omega) only [go_sem,f3]
       ·simp (disch:=omega) only [go_sem,f12]
       ·simp (disch:=omega) only [go_sem,f13]
       ·simp (disch:=omega) only [go_sem,f14]
       ·simp (disch:=omega) only [go_sem,f22]
       ·simp (disch:=omega) only [go_sem,f23]
       ·simp (disch:=omega) only [go_sem]
       ·rw [hnew];simp (disch:=omega) only [go_sem,List.length_append,List.length_cons,List.length_nil]
       ·rw [(own_turn _ _ hml).2.1 0 (by omega) (by omega)];exact hs0
       ·rw [(own_turn _ _ hml).1,hnew];simp [intD]
      ·rw [if_neg (fun h=>c2 h.2),List.append_nil] at hnew
       simp (disch:=omega) only [go_sem,f2,f3,f7,f12,f13,f14,f22,f23,f24,hil,hga,c1,c2,apR]
       refine ih2 (i+1) _ _ (by omega) ⟨by omega,?_,?_,?_,?_,?_,?_,?_,?_,m,g,?_,?_,?_,hm0⟩
       ·simp (disch:=omega) only [go_sem,f2]
       ·simp (disch:=omega) only [go_sem,f3]
       ·simp (disch:=omega) only [go_sem,f12]
       ·simp (disch:=omega) only [go_sem,f13]
       ·simp (disch:=omega) only [go_sem,f14]
       ·simp (disch:=omega) only [go_sem,f22]
       ·simp (disch:=omega) only [go_sem,f23]
       ·simp (disch:=omega) only [go_sem]
       ·rw [hnew];simp (disch:=omega) only [go_sem,f7]
       ·rw [stGet_left _ _ _ (by omega)];exact hs0
       ·rw [stGet_left _ _ _ (by omega),hnew];exact hsm
     ·rw [if_neg (fun h=>c1 h.1),List.append_nil] at hnew
      simp (disch:=omega) only [go_sem,f2,f3,f7,f12,f13,f14,f22,f23,f24,hil,hga,c1,apR]
      refine ih2 (i+1) _ _ (by omega) ⟨by omega,?_,?_,?_,?_,?_,?_,?_,?_,m,g,?_,?_,?_,hm0⟩
      ·simp (disch:=omega) only [go_sem,f2]
      ·simp (disch:=omega) only [go_sem,f3]
      ·simp (disch:=omega) only [go_sem,f12]
      ·simp (disch:=omega) only [go_sem,f13]
      ·simp (disch:=omega) only [go_sem,f14]
      ·simp (disch:=omega) only [go_sem,f22]
      ·simp (disch:=omega) only [go_sem,f23]
      ·simp (disch:=omega) only [go_sem]
      ·rw [hnew];simp (disch:=omega) only [go_sem,f7]
      ·rw [stGet_left _ _ _ (by omega)];exact hs0
      ·rw [stGet_left _ _ _ (by omega),hnew];exact hsm
    ·rw [List.take_of_length_le (by omega)] at f7 hsm
     simp (disch:=omega) only [go_sem,f2,f3,f7,f12,f13,f14,f22,f23,f24,hil]
     refine ih (j+1) _ _ (by omega) ⟨by omega,?_,?_,?_,?_,?_,m,g,?_,hs0,?_,hm0⟩
     ·simp (disch:=omega) only [go_sem,f2]
     ·simp (disch:=omega) only [go_sem,f3]
     ·simp (disch:=omega) only [go_sem,f12]
     ·simp (disch:=omega) only [go_sem,f13]
     ·simp (disch:=omega) only [go_sem]
     ·simp (disch:=omega) only [go_sem,f7,hsn]
     ·rw [hsn];exact hsm
   ·refine ⟨by omega,?_,?_,?_,?_,?_,?_,?_,?_,m,g,?_,hs0,?_,hm0⟩
    all_goals simp (disch:=omega) only [go_sem,f2,f3,f7,f12,f13,f14,List.take_zero,show hitsC c []=[] from rfl,List.append_nil,hsm]
  ·have hje:j=l.length:=by omega
   subst hje
   rw [List.take_length] at f7 hsm hts2
   have hta:List.take (targets A l c).length ((targets A l c).map intD)=(targets A l c).map intD:=List.take_of_length_le (by simp)
   have htl:((targets A l c).map intD).length=(targets A l c).length:=by simp
   simp (disch:=omega) only [go_sem,f2,f3,f7,f12,f13,f14,hlt,hs0,hB0,hsm,hta,htl,Nat.zero_add,Nat.le_refl,List.drop_zero]
   refine (closure33 A hp hf (targets A l c) (by omega)).at ?_
   simp (disch:=omega) only [go_sem,intsD]
   rfl
 ·refine ⟨by omega,?_,?_,?_,?_,?_,1,0,?_,?_,?_,by omega⟩
  all_goals simp (disch:=omega) only [go_sem,List.take_zero,show targets A [] c=[] from rfl,List.length_nil,List.map_nil]
end Go.Proofs.YtngdkenddfdhaaaGreatDoor
/- The prepared code of further functions. Written by a program of mine (gen.py) out of what the loaded dump prints. -/

set_option linter.unusedVariables false
set_option maxRecDepth 100000
namespace Go.Proofs.YtngdkenddfdhaaaGreatDoor
open Go Nv
theorem fn32:FnIs Tryz.prog 32 2 [Go.ResultVar.tmp 4,Go.ResultVar.tmp 5] (.seq (.region [⟨some 4,Go.Op.assign (Go.Operand.const (Go.Value.slice none 0 0)),62,none⟩,
   ⟨some 5,Go.Op.assign (Go.Operand.const (Go.Value.string { data:=#[] })),9,none⟩])
  (.seq (.region [⟨some 12,Go.Op.move (Go.Operand.tmp 0),9,none⟩,
   ⟨some 13,Go.Op.move (Go.Operand.tmp 1),9,none⟩,
   ⟨some 14,Go.Op.binOp Go.BinOp.add 9 (Go.Operand.tmp 12) (Go.Operand.tmp 13) 9,9,none⟩,
   ⟨some 6,Go.Op.assign (Go.Operand.tmp 14),9,none⟩])
  (.seq (.region [⟨some 7,Go.Op.assign (Go.Operand.const (Go.Value.slice none 0 0)),62,none⟩])
  (.seq (.region [⟨some 8,Go.Op.alloc 97,0,none⟩])
  (.seq (.region [⟨some 9,Go.Op.assign (Go.Operand.const (Go.Value.int Go.IntKind.i64 0)),3,none⟩])
  (.seq (.seq (.region [⟨some 15,Go.Op.move (Go.Operand.tmp 6),9,none⟩,
   ⟨some 16,Go.Op.call { callee:=Go.Callee.builtin Go.Builtin.len,args:=#[Go.Operand.tmp 15],argTypes:=#[9] },3,none⟩,
   ⟨some 17,Go.Op.move (Go.Operand.const (Go.Value.int Go.IntKind.i64 0)),3,none⟩])
  (.block 0
   (.loop
    (.seq (.region [⟨some 18,Go.Op.binOp Go.BinOp.lss 3 (Go.Operand.tmp 17) (Go.Operand.tmp 16) 3,4,none⟩])
    (.seq (.cond (Go.Operand.tmp 18)
     .skip
     (.exit 0))
    (.seq (.block 1
     (.seq (.region [⟨some 19,Go.Op.move (Go.Operand.tmp 17),3,none⟩,
      ⟨some 10,Go.Op.assign (Go.Operand.tmp 19),3,none⟩])
     (.seq (.region [⟨some 20,Go.Op.move (Go.Operand.tmp 6),9,none⟩,
      ⟨some 21,Go.Op.move (Go.Operand.tmp 10),3,none⟩,
      ⟨some 22,Go.Op.index 9 (Go.Operand.tmp 20) (Go.Operand.tmp 21),5,none⟩,
      ⟨some 11,Go.Op.assign (Go.Operand.tmp 22),5,none⟩])
     (.seq (.seq (.region [⟨some 23,Go.Op.fieldAddr 97 (Go.Operand.tmp 8) 1,0,none⟩,
      ⟨some 24,Go.Op.load 3 (Go.Operand.tmp 23),3,none⟩,
      ⟨some 25,Go.Op.binOp Go.BinOp.gtr 3 (Go.Operand.tmp 24) (Go.Operand.const (Go.Value.int Go.IntKind.i64 0)) 3,4,none⟩,
      ⟨some 26,Go.Op.move (Go.Operand.tmp 25),4,none⟩,
      ⟨some 27,Go.Op.move (Go.Operand.tmp 11),5,(some (26,true))⟩,
      ⟨some 28,Go.Op.fieldAddr 97 (Go.Operand.tmp 8) 2,0,(some (26,true))⟩,
      ⟨some 29,Go.Op.load 5 (Go.Operand.tmp 28),5,(some (26,true))⟩,
      ⟨some 30,Go.Op.binOp Go.BinOp.geq 5 (Go.Operand.tmp 27) (Go.Operand.tmp 29) 5,4,(some (26,true))⟩,
      ⟨some 31,Go.Op.pick (Go.Operand.tmp 26) (Go.Operand.tmp 30) (Go.Operand.const (Go.Value.bool false)),4,none⟩,
      ⟨some 32,Go.Op.move (Go.Operand.tmp 31),4,none⟩,
      ⟨some 33,Go.Op.move (Go.Operand.tmp 11),5,(some (32,true))⟩,
      ⟨some 34,Go.Op.fieldAddr 97 (Go.Operand.tmp 8) 3,0,(some (32,true))⟩,
      ⟨some 35,Go.Op.load 5 (Go.Operand.tmp 34),5,(some (32,true))⟩,
      ⟨some 36,Go.Op.binOp Go.BinOp.leq 5 (Go.Operand.tmp 33) (Go.Operand.tmp 35) 5,4,(some (32,true))⟩,
      ⟨some 37,Go.Op.pick (Go.Operand.tmp 32) (Go.Operand.tmp 36) (Go.Operand.const (Go.Value.bool false)),4,none⟩])
     (.cond (Go.Operand.tmp 37)
      (.seq (.region [⟨some 38,Go.Op.fieldAddr 97 (Go.Operand.tmp 8) 0,0,none⟩,
       ⟨some 39,Go.Op.load 21 (Go.Operand.tmp 38),21,none⟩,
       ⟨some 40,Go.Op.binOp Go.BinOp.shl 21 (Go.Operand.tmp 39) (Go.Operand.const (Go.Value.int Go.IntKind.u64 6)) 86,21,none⟩,
       ⟨some 41,Go.Op.move (Go.Operand.tmp 11),5,none⟩,
       ⟨some 42,Go.Op.binOp Go.BinOp.and 5 (Go.Operand.tmp 41) (Go.Operand.const (Go.Value.int Go.IntKind.u8 63)) 5,5,none⟩,
       ⟨some 43,Go.Op.convert 5 21 (Go.Operand.tmp 42),21,none⟩,
       ⟨some 44,Go.Op.binOp Go.BinOp.or 21 (Go.Operand.tmp 40) (Go.Operand.tmp 43) 21,21,none⟩,
       ⟨some 45,Go.Op.fieldAddr 97 (Go.Operand.tmp 8) 1,0,none⟩,
       ⟨some 46,Go.Op.load 3 (Go.Operand.tmp 45),3,none⟩,
       ⟨some 47,Go.Op.binOp Go.BinOp.sub 3 (Go.Operand.tmp 46) (Go.Operand.const (Go.Value.int Go.IntKind.i64 1)) 3,3,none⟩,
       ⟨some 48,Go.Op.build 97 #[(0,Go.Operand.tmp 44),(1,Go.Operand.tmp 47),(2,Go.Operand.const (Go.Value.int Go.IntKind.u8 128)),(3,Go.Operand.const (Go.Value.int Go.IntKind.u8 191))],97,none⟩,
       ⟨none,Go.Op.store 97 (Go.Operand.tmp 8) (Go.Operand.tmp 48),0,none⟩])
      (.seq (.seq (.region [⟨some 49,Go.Op.fieldAddr 97 (Go.Operand.tmp 8) 1,0,none⟩,
       ⟨some 50,Go.Op.load 3 (Go.Operand.tmp 49),3,none⟩,
       ⟨some 51,Go.Op.binOp Go.BinOp.eql 3 (Go.Operand.tmp 50) (Go.Operand.const (Go.Value.int Go.IntKind.i64 0)) 3,4,none⟩])
      (.cond (Go.Operand.tmp 51)
       (.region [⟨some 52,Go.Op.move (Go.Operand.tmp 7),62,none⟩,
        ⟨some 53,Go.Op.fieldAddr 97 (Go.Operand.tmp 8) 0,0,none⟩,
        ⟨some 54,Go.Op.load 21 (Go.Operand.tmp 53),21,none⟩,
        ⟨some 55,Go.Op.buildSlice 62 1 #[(0,Go.Operand.tmp 54)],62,none⟩,
        ⟨some 56,Go.Op.call { callee:=Go.Callee.builtin Go.Builtin.append,args:=#[Go.Operand.tmp 52,Go.Operand.tmp 55],argTypes:=#[62,62] },62,none⟩,
        ⟨some 7,Go.Op.assign (Go.Operand.tmp 56),62,none⟩])
       .skip))
      (.exit 1)))
      .skip))
     (.seq (.seq (.region [⟨some 57,Go.Op.fieldAddr 97 (Go.Operand.tmp 8) 1,0,none⟩,
      ⟨some 58,Go.Op.load 3 (Go.Operand.tmp 57),3,none⟩,
      ⟨some 59,Go.Op.binOp Go.BinOp.gtr 3 (Go.Operand.tmp 58) (Go.Operand.const (Go.Value.int Go.IntKind.i64 0)) 3,4,none⟩])
     (.cond (Go.Operand.tmp 59)
      (.region [⟨some 60,Go.Op.move (Go.Operand.tmp 7),62,none⟩,
       ⟨some 61,Go.Op.buildSlice 62 1 #[(0,Go.Operand.const (Go.Value.int Go.IntKind.i32 65533))],62,none⟩,
       ⟨some 62,Go.Op.call { callee:=Go.Callee.builtin Go.Builtin.append,args:=#[Go.Operand.tmp 60,Go.Operand.tmp 61],argTypes:=#[62,62] },62,none⟩,
       ⟨some 7,Go.Op.assign (Go.Operand.tmp 62),62,none⟩])
      .skip))
     (.seq (.region [⟨some 63,Go.Op.move (Go.Operand.tmp 11),5,none⟩,
      ⟨some 64,Go.Op.call { callee:=Go.Callee.value (Go.Operand.func 57),args:=#[Go.Operand.tmp 63],argTypes:=#[5] },97,none⟩,
      ⟨some 65,Go.Op.move (Go.Operand.tmp 10),3,none⟩,
      ⟨none,Go.Op.store 97 (Go.Operand.tmp 8) (Go.Operand.tmp 64),0,none⟩,
      ⟨some 9,Go.Op.assign (Go.Operand.tmp 65),3,none⟩])
     (.block 2
      (.seq (.region [⟨some 67,Go.Op.move (Go.Operand.tmp 11),5,none⟩,
       ⟨some 68,Go.Op.binOp Go.BinOp.lss 5 (Go.Operand.tmp 67) (Go.Operand.const (Go.Value.int Go.IntKind.u8 128)) 5,4,none⟩,
       ⟨some 66,Go.Op.assign (Go.Operand.tmp 68),4,none⟩])
      (.cond (Go.Operand.tmp 66)
       (.region [⟨some 69,Go.Op.move (Go.Operand.tmp 7),62,none⟩,
        ⟨some 70,Go.Op.move (Go.Operand.tmp 11),5,none⟩,
        ⟨some 71,Go.Op.convert 5 21 (Go.Operand.tmp 70),21,none⟩,
        ⟨some 72,Go.Op.buildSlice 62 1 #[(0,Go.Operand.tmp 71)],62,none⟩,
        ⟨some 73,Go.Op.call { callee:=Go.Callee.builtin Go.Builtin.append,args:=#[Go.Operand.tmp 69,Go.Operand.tmp 72],argTypes:=#[62,62] },62,none⟩,
        ⟨some 7,Go.Op.assign (Go.Operand.tmp 73),62,none⟩])
       (.seq (.region [⟨some 75,Go.Op.fieldAddr 97 (Go.Operand.tmp 8) 1,0,none⟩,
        ⟨some 76,Go.Op.load 3 (Go.Operand.tmp 75),3,none⟩,
        ⟨some 77,Go.Op.binOp Go.BinOp.eql 3 (Go.Operand.tmp 76) (Go.Operand.const (Go.Value.int Go.IntKind.i64 0)) 3,4,none⟩,
        ⟨some 74,Go.Op.assign (Go.Operand.tmp 77),4,none⟩])
       (.cond (Go.Operand.tmp 74)
        (.region [⟨some 78,Go.Op.move (Go.Operand.tmp 7),62,none⟩,
         ⟨some 79,Go.Op.buildSlice 62 1 #[(0,Go.Operand.const (Go.Value.int Go.IntKind.i32 65533))],62,none⟩,
         ⟨some 80,Go.Op.call { callee:=Go.Callee.builtin Go.Builtin.append,args:=#[Go.Operand.tmp 78,Go.Operand.tmp 79],argTypes:=#[62,62] },62,none⟩,
         ⟨some 7,Go.Op.assign (Go.Operand.tmp 80),62,none⟩])
        .skip)))))))))))
    (.region [⟨some 81,Go.Op.binOp Go.BinOp.add 3 (Go.Operand.tmp 17) (Go.Operand.const (Go.Value.int Go.IntKind.i64 1)) 3,3,none⟩,
     ⟨some 17,Go.Op.move (Go.Operand.tmp 81),3,none⟩])))))))
  (.seq (.seq (.region [⟨some 82,Go.Op.fieldAddr 97 (Go.Operand.tmp 8) 1,0,none⟩,
   ⟨some 83,Go.Op.load 3 (Go.Operand.tmp 82),3,none⟩,
   ⟨some 84,Go.Op.binOp Go.BinOp.eql 3 (Go.Operand.tmp 83) (Go.Operand.const (Go.Value.int Go.IntKind.i64 0)) 3,4,none⟩])
  (.cond (Go.Operand.tmp 84)
   (.seq (.region [⟨some 85,Go.Op.move (Go.Operand.tmp 7),62,none⟩,
    ⟨some 4,Go.Op.assign (Go.Operand.tmp 85),62,none⟩,
    ⟨some 5,Go.Op.assign (Go.Operand.const (Go.Value.string { data:=#[] })),9,none⟩])
   .ret)
   .skip))
  (.seq (.draw true [⟨⟨some 86,Go.Op.move (Go.Operand.tmp 7),62,none⟩,false,false,false⟩,
   ⟨⟨some 87,Go.Op.move (Go.Operand.tmp 6),9,none⟩,false,false,false⟩,
   ⟨⟨some 88,Go.Op.move (Go.Operand.tmp 9),3,none⟩,false,false,false⟩,
   ⟨⟨some 89,Go.Op.slice 9 (Go.Operand.tmp 87) (some (Go.Operand.tmp 88)) none none,9,none⟩,false,false,false⟩,
   ⟨⟨some 4,Go.Op.assign (Go.Operand.tmp 86),62,none⟩,false,false,false⟩,
   ⟨⟨some 5,Go.Op.assign (Go.Operand.tmp 89),9,none⟩,false,false,false⟩] [[],[],[],[1,2],[0],[0,1,2,3,4]])
  .ret)))))))) :=
 ⟨foll,Tryz.f32,Tryz.func32,by kernel_rfl,by kernel_rfl,by kernel_rfl,by rw [Tryz.ntmps32];decide⟩
theorem fn34:FnIs Tryz.prog 34 1 [Go.ResultVar.tmp 2] (.seq (.region [⟨some 2,Go.Op.assign (Go.Operand.const (Go.Value.slice none 0 0)),62,none⟩])
  (.seq (.region [⟨some 6,Go.Op.move (Go.Operand.tmp 0),9,none⟩,
   ⟨some 7,Go.Op.call { callee:=Go.Callee.value (Go.Operand.func 32),args:=#[Go.Operand.const (Go.Value.string { data:=#[] }),Go.Operand.tmp 6],argTypes:=#[9,9] },63,none⟩,
   ⟨some 5,Go.Op.move (Go.Operand.tmp 7),63,none⟩,
   ⟨some 8,Go.Op.extract (Go.Operand.tmp 5) 0,62,none⟩,
   ⟨some 9,Go.Op.extract (Go.Operand.tmp 5) 1,9,none⟩,
   ⟨some 3,Go.Op.assign (Go.Operand.tmp 8),62,none⟩,
   ⟨some 4,Go.Op.assign (Go.Operand.tmp 9),9,none⟩])
  (.seq (.seq (.region [⟨some 10,Go.Op.move (Go.Operand.tmp 4),9,none⟩,
   ⟨some 11,Go.Op.binOp Go.BinOp.neq 9 (Go.Operand.tmp 10) (Go.Operand.const (Go.Value.string { data:=#[] })) 9,4,none⟩])
  (.cond (Go.Operand.tmp 11)
   (.region [⟨some 12,Go.Op.move (Go.Operand.tmp 3),62,none⟩,
    ⟨some 13,Go.Op.buildSlice 62 1 #[(0,Go.Operand.const (Go.Value.int Go.IntKind.i32 65533))],62,none⟩,
    ⟨some 14,Go.Op.call { callee:=Go.Callee.builtin Go.Builtin.append,args:=#[Go.Operand.tmp 12,Go.Operand.tmp 13],argTypes:=#[62,62] },62,none⟩,
    ⟨some 3,Go.Op.assign (Go.Operand.tmp 14),62,none⟩])
   .skip))
  (.seq (.region [⟨some 15,Go.Op.move (Go.Operand.tmp 3),62,none⟩,
   ⟨some 2,Go.Op.assign (Go.Operand.tmp 15),62,none⟩])
  .ret)))) :=
 ⟨foll,Tryz.f34,Tryz.func34,by kernel_rfl,by kernel_rfl,by kernel_rfl,by rw [Tryz.ntmps34];decide⟩
theorem fn57:FnIs Tryz.prog 57 1 [Go.ResultVar.cell 2 97] (.seq (.region [⟨some 2,Go.Op.alloc 97,0,none⟩])
  (.seq (.region [⟨some 4,Go.Op.build 97 #[(2,Go.Operand.const (Go.Value.int Go.IntKind.u8 128)),(3,Go.Operand.const (Go.Value.int Go.IntKind.u8 191))],97,none⟩,
   ⟨some 3,Go.Op.alloc 97,0,none⟩,
   ⟨none,Go.Op.store 97 (Go.Operand.tmp 3) (Go.Operand.tmp 4),0,none⟩])
  (.seq (.block 0
   (.seq (.region [⟨some 6,Go.Op.move (Go.Operand.tmp 0),5,none⟩,
    ⟨some 7,Go.Op.binOp Go.BinOp.geq 5 (Go.Operand.tmp 6) (Go.Operand.const (Go.Value.int Go.IntKind.u8 194)) 5,4,none⟩,
    ⟨some 8,Go.Op.move (Go.Operand.tmp 7),4,none⟩,
    ⟨some 9,Go.Op.move (Go.Operand.tmp 0),5,(some (8,true))⟩,
    ⟨some 10,Go.Op.binOp Go.BinOp.leq 5 (Go.Operand.tmp 9) (Go.Operand.const (Go.Value.int Go.IntKind.u8 223)) 5,4,(some (8,true))⟩,
    ⟨some 11,Go.Op.pick (Go.Operand.tmp 8) (Go.Operand.tmp 10) (Go.Operand.const (Go.Value.bool false)),4,none⟩,
    ⟨some 5,Go.Op.assign (Go.Operand.tmp 11),4,none⟩])
   (.cond (Go.Operand.tmp 5)
    (.region [⟨some 12,Go.Op.move (Go.Operand.tmp 0),5,none⟩,
     ⟨some 13,Go.Op.binOp Go.BinOp.and 5 (Go.Operand.tmp 12) (Go.Operand.const (Go.Value.int Go.IntKind.u8 31)) 5,5,none⟩,
     ⟨some 14,Go.Op.convert 5 21 (Go.Operand.tmp 13),21,none⟩,
     ⟨some 15,Go.Op.fieldAddr 97 (Go.Operand.tmp 3) 0,0,none⟩,
     ⟨none,Go.Op.store 21 (Go.Operand.tmp 15) (Go.Operand.tmp 14),0,none⟩,
     ⟨some 16,Go.Op.fieldAddr 97 (Go.Operand.tmp 3) 1,0,none⟩,
     ⟨none,Go.Op.store 3 (Go.Operand.tmp 16) (Go.Operand.const (Go.Value.int Go.IntKind.i64 1)),0,none⟩])
    (.seq (.region [⟨some 18,Go.Op.move (Go.Operand.tmp 0),5,none⟩,
     ⟨some 19,Go.Op.binOp Go.BinOp.geq 5 (Go.Operand.tmp 18) (Go.Operand.const (Go.Value.int Go.IntKind.u8 224)) 5,4,none⟩,
     ⟨some 20,Go.Op.move (Go.Operand.tmp 19),4,none⟩,
     ⟨some 21,Go.Op.move (Go.Operand.tmp 0),5,(some (20,true))⟩,
     ⟨some 22,Go.Op.binOp Go.BinOp.leq 5 (Go.Operand.tmp 21) (Go.Operand.const (Go.Value.int Go.IntKind.u8 239)) 5,4,(some (20,true))⟩,
     ⟨some 23,Go.Op.pick (Go.Operand.tmp 20) (Go.Operand.tmp 22) (Go.Operand.const (Go.Value.bool false)),4,none⟩,
     ⟨some 17,Go.Op.assign (Go.Operand.tmp 23),4,none⟩])
    (.cond (Go.Operand.tmp 17)
     (.region [⟨some 24,Go.Op.move (Go.Operand.tmp 0),5,none⟩,
      ⟨some 25,Go.Op.binOp Go.BinOp.and 5 (Go.Operand.tmp 24) (Go.Operand.const (Go.Value.int Go.IntKind.u8 15)) 5,5,none⟩,
      ⟨some 26,Go.Op.convert 5 21 (Go.Operand.tmp 25),21,none⟩,
      ⟨some 27,Go.Op.fieldAddr 97 (Go.Operand.tmp 3) 0,0,none⟩,
      ⟨none,Go.Op.store 21 (Go.Operand.tmp 27) (Go.Operand.tmp 26),0,none⟩,
      ⟨some 28,Go.Op.fieldAddr 97 (Go.Operand.tmp 3) 1,0,none⟩,
      ⟨none,Go.Op.store 3 (Go.Operand.tmp 28) (Go.Operand.const (Go.Value.int Go.IntKind.i64 2)),0,none⟩])
     (.seq (.region [⟨some 30,Go.Op.move (Go.Operand.tmp 0),5,none⟩,
      ⟨some 31,Go.Op.binOp Go.BinOp.geq 5 (Go.Operand.tmp 30) (Go.Operand.const (Go.Value.int Go.IntKind.u8 240)) 5,4,none⟩,
      ⟨some 32,Go.Op.move (Go.Operand.tmp 31),4,none⟩,
      ⟨some 33,Go.Op.move (Go.Operand.tmp 0),5,(some (32,true))⟩,
      ⟨some 34,Go.Op.binOp Go.BinOp.leq 5 (Go.Operand.tmp 33) (Go.Operand.const (Go.Value.int Go.IntKind.u8 244)) 5,4,(some (32,true))⟩,
      ⟨some 35,Go.Op.pick (Go.Operand.tmp 32) (Go.Operand.tmp 34) (Go.Operand.const (Go.Value.bool false)),4,none⟩,
      ⟨some 29,Go.Op.assign (Go.Operand.tmp 35),4,none⟩])
     (.cond (Go.Operand.tmp 29)
      (.region [⟨some 36,Go.Op.move (Go.Operand.tmp 0),5,none⟩,
       ⟨some 37,Go.Op.binOp Go.BinOp.and 5 (Go.Operand.tmp 36) (Go.Operand.const (Go.Value.int Go.IntKind.u8 7)) 5,5,none⟩,
       ⟨some 38,Go.Op.convert 5 21 (Go.Operand.tmp 37),21,none⟩,
       ⟨some 39,Go.Op.fieldAddr 97 (Go.Operand.tmp 3) 0,0,none⟩,
       ⟨none,Go.Op.store 21 (Go.Operand.tmp 39) (Go.Operand.tmp 38),0,none⟩,
       ⟨some 40,Go.Op.fieldAddr 97 (Go.Operand.tmp 3) 1,0,none⟩,
       ⟨none,Go.Op.store 3 (Go.Operand.tmp 40) (Go.Operand.const (Go.Value.int Go.IntKind.i64 3)),0,none⟩])
      .skip)))))))
  (.seq (.seq (.region [⟨some 41,Go.Op.move (Go.Operand.tmp 0),5,none⟩])
  (.block 1
   (.seq (.region [⟨some 43,Go.Op.binOp Go.BinOp.eql 5 (Go.Operand.tmp 41) (Go.Operand.const (Go.Value.int Go.IntKind.u8 224)) 5,4,none⟩,
    ⟨some 42,Go.Op.assign (Go.Operand.tmp 43),4,none⟩])
   (.cond (Go.Operand.tmp 42)
    (.region [⟨some 44,Go.Op.fieldAddr 97 (Go.Operand.tmp 3) 2,0,none⟩,
     ⟨none,Go.Op.store 5 (Go.Operand.tmp 44) (Go.Operand.const (Go.Value.int Go.IntKind.u8 160)),0,none⟩])
    (.seq (.region [⟨some 46,Go.Op.binOp Go.BinOp.eql 5 (Go.Operand.tmp 41) (Go.Operand.const (Go.Value.int Go.IntKind.u8 237)) 5,4,none⟩,
     ⟨some 45,Go.Op.assign (Go.Operand.tmp 46),4,none⟩])
    (.cond (Go.Operand.tmp 45)
     (.region [⟨some 47,Go.Op.fieldAddr 97 (Go.Operand.tmp 3) 3,0,none⟩,
      ⟨none,Go.Op.store 5 (Go.Operand.tmp 47) (Go.Operand.const (Go.Value.int Go.IntKind.u8 159)),0,none⟩])
     (.seq (.region [⟨some 49,Go.Op.binOp Go.BinOp.eql 5 (Go.Operand.tmp 41) (Go.Operand.const (Go.Value.int Go.IntKind.u8 240)) 5,4,none⟩,
      ⟨some 48,Go.Op.assign (Go.Operand.tmp 49),4,none⟩])
     (.cond (Go.Operand.tmp 48)
      (.region [⟨some 50,Go.Op.fieldAddr 97 (Go.Operand.tmp 3) 2,0,none⟩,
       ⟨none,Go.Op.store 5 (Go.Operand.tmp 50) (Go.Operand.const (Go.Value.int Go.IntKind.u8 144)),0,none⟩])
      (.seq (.region [⟨some 52,Go.Op.binOp Go.BinOp.eql 5 (Go.Operand.tmp 41) (Go.Operand.const (Go.Value.int Go.IntKind.u8 244)) 5,4,none⟩,
       ⟨some 51,Go.Op.assign (Go.Operand.tmp 52),4,none⟩])
      (.cond (Go.Operand.tmp 51)
       (.region [⟨some 53,Go.Op.fieldAddr 97 (Go.Operand.tmp 3) 3,0,none⟩,
        ⟨none,Go.Op.store 5 (Go.Operand.tmp 53) (Go.Operand.const (Go.Value.int Go.IntKind.u8 143)),0,none⟩])
       .skip))))))))))
  (.seq (.region [⟨some 54,Go.Op.load 97 (Go.Operand.tmp 3),97,none⟩,
   ⟨none,Go.Op.store 97 (Go.Operand.tmp 2) (Go.Operand.tmp 54),0,none⟩])
  .ret))))) :=
 ⟨foll,Tryz.f57,Tryz.func57,by kernel_rfl,by kernel_rfl,by kernel_rfl,by rw [Tryz.ntmps57];decide⟩
end Go.Proofs.YtngdkenddfdhaaaGreatDoor
set_option linter.unusedVariables false
set_option linter.unusedSimpArgs false
set_option maxRecDepth 100000
namespace Go.Proofs.YtngdkenddfdhaaaGreatDoor
open Go Nv Pat
end Go.Proofs.YtngdkenddfdhaaaGreatDoor
set_option linter.unusedVariables false
set_option linter.unusedSimpArgs false
set_option maxRecDepth 100000
namespace Go.Proofs.YtngdkenddfdhaaaGreatDoor
open Go Nv Pat
end Go.Proofs.YtngdkenddfdhaaaGreatDoor
set_option linter.unusedVariables false
set_option linter.unusedSimpArgs false
set_option maxRecDepth 100000
namespace Go.Proofs.YtngdkenddfdhaaaGreatDoor
open Go Nv Pat
end Go.Proofs.YtngdkenddfdhaaaGreatDoor
set_option linter.unusedVariables false
set_option linter.unusedSimpArgs false
set_option maxRecDepth 100000
namespace Go.Proofs.YtngdkenddfdhaaaGreatDoor
open Go Nv Pat
structure Sq where
 value:Int
 missing:Int
 low:Int
 high:Int
 deriving Inhabited
def Sq.avs (s:Sq):List AV:=[.d (.int .i32 s.value),.d (.int .i64 s.missing),.d (.int .u8 s.low),.d (.int .u8 s.high)]
def Sq.av (s:Sq):AV:=.agg s.avs
def m8 (b m:Int):Int:=((BitVec.ofInt 8 b &&& BitVec.ofInt 8 m).toNat:Int)
def beginM (b:Int):Sq :=
 if 194≤b∧b≤223 then ⟨m8 b 31,1,128,191⟩
 else if 224≤b∧b≤239 then ⟨m8 b 15,2,if b=224 then 160 else 128,if b=237 then 159 else 191⟩
 else if 240≤b∧b≤244 then ⟨m8 b 7,3,if b=240 then 144 else 128,if b=244 then 143 else 191⟩
 else ⟨0,0,128,191⟩
inductive OkSeq:List UInt8→Prop
 | one {b:UInt8}:b.toNat<128→OkSeq [b]
 | two {b c:UInt8}:(beginM (bt b)).missing=1→(beginM (bt b)).low≤bt c→bt c≤(beginM (bt b)).high→OkSeq [b,c]
 | three {b c d:UInt8}:(beginM (bt b)).missing=2→(beginM (bt b)).low≤bt c→bt c≤(beginM (bt b)).high→128≤bt d→bt d≤191→OkSeq [b,c,d]
 | four {b c d e:UInt8}:(beginM (bt b)).missing=3→(beginM (bt b)).low≤bt c→bt c≤(beginM (bt b)).high→128≤bt d→bt d≤191→128≤bt e→bt e≤191→OkSeq [b,c,d,e]
theorem first_begin:∀ b:Fin 256,128≤b.val →
  ((beginM (b.val:Int)).missing=0∧Lib.firstT b.val % 8≠2∧Lib.firstT b.val % 8≠3∧Lib.firstT b.val % 8≠4) ∨
  ((beginM (b.val:Int)).missing+1=(Lib.firstT b.val % 8:Nat)∧(Lib.firstT b.val % 8=2∨Lib.firstT b.val % 8=3∨Lib.firstT b.val % 8=4) ∧
   (beginM (b.val:Int)).low=(Lib.accLo (Lib.firstT b.val / 16):Nat)∧(beginM (b.val:Int)).high=(Lib.accHi (Lib.firstT b.val / 16):Nat)):=by decide +kernel
theorem begin_first (b:UInt8) (h:128≤b.toNat) :
  ((beginM (bt b)).missing=0∧Lib.firstT b.toNat % 8≠2∧Lib.firstT b.toNat % 8≠3∧Lib.firstT b.toNat % 8≠4) ∨
  ((beginM (bt b)).missing+1=(Lib.firstT b.toNat % 8:Nat)∧(Lib.firstT b.toNat % 8=2∨Lib.firstT b.toNat % 8=3∨Lib.firstT b.toNat % 8=4) ∧
   (beginM (bt b)).low=(Lib.accLo (Lib.firstT b.toNat / 16):Nat)∧(beginM (bt b)).high=(Lib.accHi (Lib.firstT b.toNat / 16):Nat)) :=
 first_begin ⟨b.toNat,b.toNat_lt⟩ h
theorem valid_split {s:List UInt8} (h:Lib.validD s=true) (hne:s≠[]):∃ p r,s=p++r∧OkSeq p∧Lib.validD r=true:=by
 cases s with
 | nil=>exact absurd rfl hne
 | cons b t =>
  rcases Nat.lt_or_ge b.toNat 128 with hb | hb
  ·exact ⟨[b],t,rfl,.one hb,by rwa [Lib.validD_cons _ _ hb] at h⟩
  ·rw [Lib.validD_lead _ (by simp) (by simpa using hb)] at h
   simp only [List.getD_cons_zero,List.getD_cons_succ,List.length_cons] at h
   rcases begin_first b hb with ⟨k1,k2,k3,k4⟩ | ⟨k1,k2,k3,k4⟩
   ·simp only [Lib.checkN,k2,k3,k4,if_false] at h;exact absurd h (by simp)
   ·rcases k2 with e | e | e
    ·simp only [e,Lib.checkN,if_true] at h
     split at h
     ·exact absurd h (by simp)
     ·rename_i hk
      split at hk
      ·cases hk
      ·rename_i hc
       cases hk
       match t,hc with
       | [],hc=>simp at hc
       | c::t,hc =>
        simp only [List.getD_cons_zero,List.getD_cons_succ,List.length_cons] at hc
        refine ⟨[b,c],t,rfl,.two (by omega) ?_ ?_,by simpa using h⟩ <;> (unfold bt at *;omega)
    ·simp only [e,Lib.checkN,if_true,show ¬ (3:Nat)=2 by omega,if_false] at h
     split at h
     ·exact absurd h (by simp)
     ·rename_i hk
      split at hk
      ·cases hk
      ·rename_i hc
       cases hk
       match t,hc with
       | [],hc=>simp at hc
       | [c],hc=>simp at hc
       | c::d::t,hc =>
        simp only [List.getD_cons_zero,List.getD_cons_succ,List.length_cons] at hc
        refine ⟨[b,c,d],t,rfl,.three (by omega) ?_ ?_ ?_ ?_,by simpa using h⟩ <;> (unfold bt at *;omega)
    ·simp only [e,Lib.checkN,if_true,show ¬ (4:Nat)=2 by omega,show ¬ (4:Nat)=3 by omega,if_false] at h
     split at h
     ·exact absurd h (by simp)
     ·rename_i hk
      split at hk
      ·cases hk
      ·rename_i hc
       cases hk
       match t,hc with
       | [],hc=>simp at hc
       | [c],hc=>simp at hc
       | [c,d],hc=>simp at hc
       | c::d::f::t,hc =>
        simp only [List.getD_cons_zero,List.getD_cons_succ,List.length_cons] at hc
        refine ⟨[b,c,d,f],t,rfl,.four (by omega) ?_ ?_ ?_ ?_ ?_ ?_,by simpa using h⟩ <;> (unfold bt at *;omega)
theorem valid_ind {P:List UInt8→Prop} (h0:P []) (h1:∀ p r,OkSeq p→Lib.validD r=true→P r→P (p++r)):∀ (n:Nat) (s:List UInt8),s.length≤n→Lib.validD s=true→P s
 | 0,s,hn,_=>by rw [List.eq_nil_of_length_eq_zero (l:=s) (by omega)];exact h0
 | n+1,s,hn,hv=>by
  by_cases hne:s=[]
  ·rw [hne];exact h0
  ·obtain ⟨p,r,rfl,hp,hr⟩:=valid_split hv hne
   have hl:0<p.length:=by cases hp <;> simp
   rw [List.length_append] at hn
   exact h1 p r hp hr (valid_ind h0 h1 n r (by omega) hr)
end Go.Proofs.YtngdkenddfdhaaaGreatDoor
set_option linter.unusedVariables false
set_option linter.unusedSimpArgs false
set_option maxRecDepth 100000
namespace Go.Proofs.YtngdkenddfdhaaaGreatDoor
open Go Nv Pat
theorem begin46 (b:Int):PCall Tryz.prog 57 [.d (.int .u8 b)] (beginM b).av:=by
 refine fn57.pure noHint (Nat.le_refl _) (by simp only [go_sem]) (by simp only [go_sem,Sq.av,Sq.avs]) ?_
 simp (disch:=omega) only [go_sem]
 have n224:b<224→¬ b=224∧¬ b=237∧¬ b=240∧¬ b=244:=fun _=>by omega
 by_cases h1:194≤b∧b≤223
 ·have e:beginM b=⟨m8 b 31,1,128,191⟩:=if_pos h1
  have h1a:b ≥ 194:=h1.1
  have h1b:=h1.2
  obtain ⟨q1,q2,q3,q4⟩:=n224 (by omega)
  simp (disch:=omega) only [go_sem,h1a,h1b,q1,q2,q3,q4,e,Sq.av,Sq.avs,m8]
  rfl
 by_cases h2:224≤b∧b≤239
 ·have e:beginM b=⟨m8 b 15,2,if b=224 then 160 else 128,if b=237 then 159 else 191⟩:=by rw [beginM,if_neg h1,if_pos h2]
  have h2a:b ≥ 224:=h2.1
  have h2b:=h2.2
  have h1a:b ≥ 194:=by omega
  have h1b:¬ b≤223:=by omega
  have q3:¬ b=240:=by omega
  have q4:¬ b=244:=by omega
  by_cases q1:b=224
  ·have q2:¬ b=237:=by omega
   rw [if_pos q1,if_neg q2] at e
   simp (disch:=omega) only [go_sem,h1a,h1b,h2a,h2b,e,Sq.av,Sq.avs,m8]
   simp (disch:=omega) only [go_sem,q1]
   rfl
  ·by_cases q2:b=237
   ·rw [if_neg q1,if_pos q2] at e
    simp (disch:=omega) only [go_sem,h1a,h1b,h2a,h2b,e,Sq.av,Sq.avs,m8]
    simp (disch:=omega) only [go_sem,q1]
    simp (disch:=omega) only [go_sem,q2]
    rfl
   ·rw [if_neg q1,if_neg q2] at e
    simp (disch:=omega) only [go_sem,h1a,h1b,h2a,h2b,e,Sq.av,Sq.avs,m8,q1,q2,q3,q4]
    rfl
 by_cases h3:240≤b∧b≤244
 ·have e:beginM b=⟨m8 b 7,3,if b=240 then 144 else 128,if b=244 then 143 else 191⟩:=by rw [beginM,if_neg h1,if_neg h2,if_pos h3]
  have h3a:b ≥ 240:=h3.1
  have h3b:=h3.2
  have h1a:b ≥ 194:=by omega
  have h1b:¬ b≤223:=by omega
  have h2a:b ≥ 224:=by omega
  have h2b:¬ b≤239:=by omega
  have q1:¬ b=224:=by omega
  have q2:¬ b=237:=by omega
  by_cases q3:b=240
  ·have q4:¬ b=244:=by omega
   rw [if_pos q3,if_neg q4] at e
   simp (disch:=omega) only [go_sem,h1a,h1b,h2a,h2b,h3a,h3b,e,Sq.av,Sq.avs,m8,q1,q2]
   simp (disch:=omega) only [go_sem,q3]
   rfl
  ·by_cases q4:b=244
   ·rw [if_neg q3,if_pos q4] at e
    simp (disch:=omega) only [go_sem,h1a,h1b,h2a,h2b,h3a,h3b,e,Sq.av,Sq.avs,m8,q1,q2,q3]
    simp (disch:=omega) only [go_sem,q4]
    rfl
   ·rw [if_neg q3,if_neg q4] at e
    simp (disch:=omega) only [go_sem,h1a,h1b,h2a,h2b,h3a,h3b,e,Sq.av,Sq.avs,m8,q1,q2,q3,q4]
    rfl
 ·have e:beginM b=⟨0,0,128,191⟩:=by rw [beginM,if_neg h1,if_neg h2,if_neg h3]
  have q1:¬ b=224:=by omega
  have q2:¬ b=237:=by omega
  have q3:¬ b=240:=by omega
  have q4:¬ b=244:=by omega
  by_cases h1a:b ≥ 194
  ·have h1b:¬ b≤223:=by omega
   have h2a:b ≥ 224:=by omega
   have h2b:¬ b≤239:=by omega
   have h3a:b ≥ 240:=by omega
   have h3b:¬ b≤244:=by omega
   simp (disch:=omega) only [go_sem,h1a,h1b,h2a,h2b,h3a,h3b,e,Sq.av,Sq.avs,q1,q2,q3,q4]
  ·have h2a:¬ b ≥ 224:=by omega
   have h3a:¬ b ≥ 240:=by omega
   simp (disch:=omega) only [go_sem,h1a,h2a,h3a,e,Sq.av,Sq.avs,q1,q2,q3,q4]
end Go.Proofs.YtngdkenddfdhaaaGreatDoor
