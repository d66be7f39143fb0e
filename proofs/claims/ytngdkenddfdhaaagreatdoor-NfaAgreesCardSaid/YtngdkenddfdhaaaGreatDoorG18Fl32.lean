/- Part of a proof about the functions of this seat. -/
import Derived.Test.YtngdkenddfdhaaaGreatDoorG17Nfd
set_option linter.unusedVariables false
set_option linter.unusedSimpArgs false
set_option maxRecDepth 100000
namespace Go.Proofs.YtngdkenddfdhaaaGreatDoor
open Go Nv Pat
def bitsL (s:List Bool):List DV:=s.map DV.bool
structure CloS (B0:Blk) (σ:Nv.ST) (s:List Bool × List Int):Prop where
 s0:stGet σ 0=B0
 s1:stGet σ 1=.arr 0 ⟨1,4⟩ (bitsL s.1)
 s2:stGet σ 2=.box 71 [.own 1 0 0 s.1.length]
 s3:∃ o,stGet σ 3=.box 51 [o]∧((o=.d .nilslice∧s.2=[])∨∃ b g xs,4≤b∧o=.own b g 0 s.2.length∧stGet σ b=.arr g ⟨1,3⟩ xs∧s.2.length≤xs.length∧xs.take s.2.length=s.2.map intD)
theorem bits_get (s:List Bool) (i:Nat) (h:i<s.length):(bitsL s).getD i default=.bool (s.getD i false):=by
 simp [bitsL,List.getD_eq_getElem?_getD,h]
theorem bits_len (s:List Bool):(bitsL s).length=s.length:=by simp [bitsL]
theorem stGet_sl2 {σ m:Nv.ST} {b b' k:Nat} {x y:Blk} (h:k<σ.length) (h1:k≠b) (h2:k≠b'):stGet (stSet (stSet σ b' y) b x++m) k=stGet σ k:=by
 rw [stGet_sl (by rw [stSet_len];exact h) h1,stGet_set_ne h2]
theorem stSet_sl2 {σ m:Nv.ST} {b b' k:Nat} {x y z:Blk} (h:k<σ.length):stSet (stSet (stSet σ b' y) b x++m) k z=stSet (stSet (stSet σ b' y) b x) k z++m:=by
 rw [stSet_sl (by rw [stSet_len];exact h)]
theorem push58 {B0:Blk} {σ:Nv.ST} {s:List Bool × List Int} (hC:CloS B0 σ s) (h1:s.1.length≤1000000) (h2:s.2.length≤1000000) (x:Int) :
  RCall Tryz.prog 58 [.d (.int .i64 x),.ptr 2 0,.ptr 3 0] σ fun v σ'=>v=.tuple []∧CloS B0 σ' (pushC s x):=by
 obtain ⟨seen,opn⟩:=s
 have hs1:=hC.s1
 have hs2:=hC.s2
 dsimp only at hs1 hs2 h1 h2
 refine fn58.rel noHint (Nat.le_refl _) ?_
 by_cases c1:¬ 0≤x
 ·have e:pushC (seen,opn) x=(seen,opn):=if_neg fun h=>c1 h.1
  simp (disch:=omega) only [go_sem,c1]
  exact ⟨_,rfl,rfl,by rw [e];exact hC⟩
 have c1:0≤x:=by omega
 by_cases c2:¬ x<seen.length
 ·have e:pushC (seen,opn) x=(seen,opn):=if_neg fun h=>c2 h.2.1
  simp (disch:=omega) only [go_sem,c1,c2,hs2,hs1]
  exact ⟨_,rfl,rfl,by rw [e];exact hC⟩
 have c2:x<seen.length:=by omega
 obtain ⟨i,rfl⟩:∃ i:Nat,x=i:=⟨x.toNat,by omega⟩
 have hi:i<seen.length:=by omega
 cases c3:seen.getD i false with
 | true =>
  have e:pushC (seen,opn) i=(seen,opn):=if_neg fun h=>by have:=h.2.2;simp only [Int.toNat_natCast] at this;rw [c3] at this;cases this
  simp (disch:=omega) only [go_sem,c1,c2,hs2,hs1,bits_len,bits_get,hi,c3,Int.toNat_natCast,Nat.zero_add]
  exact ⟨_,rfl,rfl,by rw [e];exact hC⟩
 | false =>
  have e:pushC (seen,opn) i=(seen.set i true,opn++[(i:Int)]):=if_pos ⟨c1,c2,by simpa using c3⟩
  rw [e]
  obtain ⟨o,hs3,ho⟩:=hC.s3
  have hl3:=lt_of_get hs3 (by simp)
  have hs0:=hC.s0
  have hbit:(bitsL seen).set i (DV.bool true)=bitsL (seen.set i true):=by simp [bitsL,List.map_set]
  rcases ho with ⟨rfl,ho⟩ | ⟨b,g,xs,hb4,rfl,hb,hxl,htk⟩
  ·dsimp only at ho
   subst ho
   simp (disch:=omega) only [go_sem,c1,c2,hs2,hs1,hs3,bits_len,bits_get,hi,c3,Int.toNat_natCast,Nat.zero_add,hbit,stGet_set_ne,stGet_left,stSet_left,stGet_sl,stSet_sl,apR]
   refine ⟨_,rfl,rfl,?_⟩
   have hg:∀ (y z:Blk) (τ:Nv.ST) k,k<σ.length→k≠3→k≠1→stGet (stSet (stSet σ 1 y) 3 z++τ) k=stGet σ k:=fun y z τ k=>stGet_sl2
   have hln:∀ (y z:Blk),(stSet (stSet σ 1 y) 3 z).length=σ.length:=fun y z=>by rw [stSet_len,stSet_len]
   refine ⟨?_,?_,?_,⟨.own (σ.length+1) 0 0 1,?_,.inr ⟨σ.length+1,0,[.int .i64 i],by omega,rfl,?_,Nat.le_refl _,rfl⟩⟩⟩
   ·rw [hg _ _ _ 0 (by omega) (by omega) (by omega)];exact hs0
   ·rw [stGet_sl (by rw [stSet_len];omega) (by omega),stGet_set_eq (by omega)]
   ·rw [hg _ _ _ 2 (by omega) (by omega) (by omega)];simpa using hs2
   ·rw [stGet_left _ _ _ (by rw [hln];omega),stGet_set_eq (by rw [stSet_len];omega),stSet_len]
   ·rw [stGet_add 1 (hln _ _)];rfl
  ·have hbl:=lt_of_get hb (by simp)
   dsimp only at hxl htk
   have hcap:(opn.length+1) * 8≤140737488355328:=by omega
   have hol:(opn.map intD).length=opn.length:=by simp
   simp (disch:=omega) only [go_sem,c1,c2,hs2,hs1,hs3,hb,htk,hol,hxl,hcap,bits_len,bits_get,hi,c3,Int.toNat_natCast,Nat.zero_add,hbit,stGet_set_ne,stGet_left,stSet_left,stGet_sl,stSet_sl,stGet_sl2,stSet_sl2,apR]
   refine ⟨_,rfl,rfl,?_⟩
   have hln:∀ (y z v:Blk),(stSet (stSet (stSet σ 1 y) b z) 3 v).length=σ.length:=fun y z v=>by rw [stSet_len,stSet_len,stSet_len]
   have hg:∀ (y z v:Blk) (τ:Nv.ST) k,k<σ.length→k≠3→k≠1→k≠b→stGet (stSet (stSet (stSet σ 1 y) b z) 3 v++τ) k=stGet σ k:=fun y z v τ k h1 h2 h3 h4=>by
    rw [stGet_left _ _ _ (by rw [hln];exact h1),stGet_set_ne h2,stGet_set_ne h4,stGet_set_ne h3]
   refine ⟨?_,?_,?_,⟨.own b (g+1) 0 (opn.length+1),?_,.inr ⟨b,g+1,opn.map intD++[.int .i64 i],hb4,by simp,?_,by simp,?_⟩⟩⟩
   ·rw [hg _ _ _ _ 0 (by omega) (by omega) (by omega) (by omega)];exact hs0
   ·rw [stGet_left _ _ _ (by rw [hln];omega),stGet_set_ne (by omega),stGet_set_ne (by omega),stGet_set_eq (by omega)]
   ·rw [hg _ _ _ _ 2 (by omega) (by omega) (by omega) (by omega)];simpa using hs2
   ·rw [stGet_left _ _ _ (by rw [hln];omega),stGet_set_eq (by rw [stSet_len,stSet_len];omega)]
   ·rw [stGet_left _ _ _ (by rw [hln];omega),stGet_set_ne (by omega),stGet_set_eq (by rw [stSet_len];omega)]
   ·dsimp only
    rw [List.take_of_length_le (by simp)];simp [intD]
def hintsC:Nat→Hint:=fun i=>if i=13 then .own ⟨1,3⟩ else if i=4 then .freeze else .no
@[go_sem] theorem hintsC_at (i:Nat):hintsC i=if i=13 then .own ⟨1,3⟩ else if i=4 then .freeze else .no:=nrfl rfl
theorem inZ_iff (n:Nat) (z:Int):inZ n z=true↔inR n z:=by simp [inZ,inR]
theorem all_rows {α:Type} {L:List (List α)} {P:α→Prop}:(∀ l,l∈L→∀ x,x∈l→P x)↔∀ j,j<L.length→∀ x,x∈L.getD j []→P x:=by
 constructor
 ·intro h j hj x hx
  rw [List.getD_eq_getElem?_getD,List.getElem?_eq_getElem hj] at hx
  exact h _ (List.getElem_mem hj) x hx
 ·intro h l hl x hx
  obtain ⟨j,hj,rfl⟩:=List.mem_iff_getElem.1 hl
  exact h j hj x (by rw [List.getD_eq_getElem?_getD,List.getElem?_eq_getElem hj];exact hx)
theorem okA_proper {A:Au}:okA A=true↔A.Proper:=by
 have hrow:∀ j,rowB A j=true↔(∀ x,x∈A.arcs.getD j []→scalar x.1∧scalar x.2.1∧x.1≤x.2.1∧inR A.arcs.length x.2.2)∧∀ z,z∈A.emp.getD j []→inR A.arcs.length z:=by
  intro j
  unfold rowB arcB
  simp only [Bool.and_eq_true,List.all_eq_true,charB_iff2,inZ_iff,decide_eq_true_eq,and_assoc]
 unfold okA
 simp only [Bool.and_eq_true,decide_eq_true_eq,inZ_iff,List.all_eq_true,List.mem_range,hrow]
 constructor
 ·rintro ⟨⟨⟨⟨⟨h1,h2⟩,h3⟩,h4⟩,h5⟩,h6⟩
  exact ⟨h1,h2,h3,h4,h5,all_rows.2 fun j hj=>(h6 j hj).1,all_rows.2 fun j hj=>(h6 j (by omega)).2⟩
 ·rintro ⟨h1,h2,h3,h4,h5,h6,h7⟩
  exact ⟨⟨⟨⟨⟨h1,h2⟩,h3⟩,h4⟩,h5⟩,fun j hj=>⟨all_rows.1 h6 j hj,all_rows.1 h7 j (by omega)⟩⟩
theorem closure33 (A:Au) (hp:A.Proper) (hf:Fit A) (l:List Int) (hl:l.length≤1000000000000000):PCall Tryz.prog 33 [auA A,.d (intsD l)] (.d (intsD (closM A l))):=by
 refine fn33.pure hintsC (Nat.le_refl _) (by simp only [go_sem,auA,auF,rowsD,intsD]) (by simp only [go_sem]) ?_
 have hla:((arcsL A.arcs).map (DV.list 3)).length=A.arcs.length:=by simp [arcsL]
 have hle:((intsL A.emp).map (DV.list 1)).length=A.emp.length:=by simp [intsL]
 have hpos:=hp.pos
 have hmost:=hp.most
 have hsame:=hp.same
 simp (disch:=omega) only [go_sem,auA,auF,rowsD,hla,hle,intsD,List.length_map,Int.toNat_natCast,Nat.le_refl]
 refine ⟨by omega,?_⟩
 obtain ⟨B0,hB0⟩:∃ B0,B0=Blk.box 31 [AV.d (.int .i64 A.start),AV.d (.int .i64 A.accept),AV.d (.list 1 ((arcsL A.arcs).map (DV.list 3))),AV.d (.list 1 ((intsL A.emp).map (DV.list 1)))]:=⟨_,rfl⟩
 rw [← hB0]
 refine wL_ind (fun (i:Nat) fr σ=>i≤l.length∧fr 2=.ptr 0 0∧fr 5=.ptr 2 0∧fr 6=.ptr 3 0∧fr 7=.func (.func 58) [] [.ptr 2 0,.ptr 3 0]∧fr 21=.d (.list 1 (l.map intD))∧fr 22=.d (.int .i64 l.length)∧fr 23=.d (.int .i64 i) ∧
  ∃ s,CloS B0 σ s∧Dfs A l (fun _=>False) s∧(∀ z,z∈l.take i→inR A.arcs.length z→Seen s.1 z)∧meas s≤2 * A.arcs.length) (fun i=>l.length - i) ?_ 0 ?_
 ·rintro i fr σ ⟨hi,f2,f5,f6,f7,f21,f22,f23,s,hC,hD,hseen,hm⟩ ih
  have hsl:=hD.len
  have hol:s.2.length≤2 * A.arcs.length:=by unfold meas at hm;omega
  by_cases hlt:i<l.length
  ·have hg:=emp_get l i hlt
   have hxl:l.getD i default∈l:=getD_mem l i hlt
   have htk:=take_succ' l i hlt
   generalize l.getD i default=x at *
   simp (disch:=omega) only [go_sem,f2,f5,f6,f7,f21,f22,f23,hlt,hg]
   refine (push58 hC (by omega) (by omega) x).at ?_
   rintro v σ' ⟨rfl,hC'⟩
   simp (disch:=omega) only [go_sem,f23]
   refine ih (i+1) _ _ (by omega) ⟨by omega,?_,?_,?_,?_,?_,?_,?_,pushC s x,hC',hD.push fun hx=>⟨x,hxl,hx,.refl x⟩,fun z hz hr=>?_,Nat.le_trans (push_meas s x) hm⟩
   ·simp (disch:=omega) only [go_sem,f2]
   ·simp (disch:=omega) only [go_sem,f5]
   ·simp (disch:=omega) only [go_sem,f6]
   ·simp (disch:=omega) only [go_sem,f7]
   ·simp (disch:=omega) only [go_sem,f21]
   ·simp (disch:=omega) only [go_sem,f22]
   ·simp (disch:=omega) only [go_sem]
   ·rw [htk] at hz
    rcases List.mem_append.1 hz with h | h
    ·exact seen_mono _ _ _ (hseen z h hr)
    ·rw [List.mem_singleton.1 h]
     exact seen_self _ _ (by rw [hsl];exact List.mem_singleton.1 h ▸ hr)
  ·have hil:i=l.length:=by omega
   subst hil
   rw [List.take_length] at hseen
   simp (disch:=omega) only [go_sem,f2,f5,f6,f7,f21,f22,f23,hlt]
   refine wL_ind (fun (s:List Bool × List Int) fr σ=>fr 2=.ptr 0 0∧fr 5=.ptr 2 0∧fr 6=.ptr 3 0∧fr 7=.func (.func 58) [] [.ptr 2 0,.ptr 3 0] ∧
    CloS B0 σ s∧Dfs A l (fun _=>False) s∧(∀ z,z∈l→inR A.arcs.length z→Seen s.1 z)∧meas s≤2 * A.arcs.length) meas ?_ s ?_
   ·rintro ⟨seen,opn⟩ fr σ ⟨f2,f5,f6,f7,hC,hD,hseen,hm⟩ ih2
    have hsl:=hD.len
    have hm':2 * unseen seen+opn.length≤2 * A.arcs.length:=hm
    have hol:opn.length≤2 * A.arcs.length:=by omega
    dsimp only at hsl
    have hs0:=hC.s0
    obtain ⟨o,hs3,ho⟩:=hC.s3
    by_cases hne:opn=[]
    ·subst hne
     have hdone:=Dfs.done hD hseen
     have hclos:=clos_of hsl hdone
     have hs1:=hC.s1
     have hs2:=hC.s2
     have hl3:=lt_of_get hs3 (by simp)
     have hlt2:2<σ.length:=by omega
     have hres:intsD (closM A l)=.list 1 ((((List.range seen.length).filter fun i=>seen.getD i false).map fun (i:Nat)=>(i:Int)).map intD):=by rw [hclos];rfl
     rcases ho with ⟨rfl,_⟩ | ⟨b,g,xs,hb4,rfl,hb,_,_⟩
     case' inl=>simp (disch:=omega) only [go_sem,f2,f5,f6,f7,hs3,hs2,hs1,bits_len,stGet_left,stSet_left,apR]
     case' inr=>simp (disch:=omega) only [go_sem,f2,f5,f6,f7,hs3,hb,hs2,hs1,bits_len,List.length_nil,stGet_left,stSet_left,apR]
     all_goals
      refine wL_ind (fun (j:Nat) fr τ=>j≤seen.length∧fr 59=.own 1 0 0 seen.length∧fr 60=.d (.int .i64 seen.length)∧fr 61=.d (.int .i64 j) ∧
       ∃ (m g:Nat) (rs:List Int),fr 13=.own m g 0 rs.length∧stGet τ m=.arr g ⟨1,3⟩ (rs.map intD)∧4≤m∧stGet τ 1=.arr 0 ⟨1,4⟩ (bitsL seen)∧rs=((List.range j).filter fun i=>seen.getD i false).map fun (i:Nat)=>(i:Int)) (fun j=>seen.length - j) ?_ 0 ?_
      ·rintro j fr τ ⟨hj,f59,f60,f61,m,g',rs,f13,hm9,hm4,hs1',hrs⟩ ih3
       have hml:=lt_of_get hm9 (by simp)
       have hrl:rs.length≤j:=by rw [hrs,List.length_map];exact Nat.le_trans (List.length_filter_le _ _) (by simp)
       have hrn:(rs.map intD).length=rs.length:=by simp
       by_cases hlt:j<seen.length
       ·have hcap:(rs.length+1) * 8≤140737488355328:=by omega
        have hta:List.take rs.length (rs.map intD)=rs.map intD:=List.take_of_length_le (by simp)
        cases hbj:seen.getD j false with
        | true =>
         simp (disch:=omega) only [go_sem,f13,f59,f60,f61,hlt,hm9,hs1',hrn,hta,hcap,bits_len,bits_get,hbj,Nat.zero_add,Nat.le_refl,stGet_left,stSet_left,apR]
         refine ih3 (j+1) _ _ (by omega) ⟨by omega,?_,?_,?_,m,g'+1,rs++[(j:Int)],?_,?_,hm4,?_,?_⟩
         ·simp (disch:=omega) only [go_sem,f59]
         ·simp (disch:=omega) only [go_sem,f60]
         ·simp (disch:=omega) only [go_sem]
         ·simp (disch:=omega) only [go_sem,List.length_append]
         ·rw [(own_turn _ _ hml).1];simp [intD]
         ·rw [(own_turn _ _ hml).2.1 1 (by omega) (by omega)];exact hs1'
         ·rw [List.range_succ,List.filter_append,List.map_append,← hrs];simp only [List.filter_cons,List.filter_nil,hbj,if_true,List.map_cons,List.map_nil]
        | false =>
         simp (disch:=omega) only [go_sem,f13,f59,f60,f61,hlt,hm9,hs1',bits_len,bits_get,hbj,Nat.zero_add,Nat.le_refl]
         refine ih3 (j+1) _ _ (by omega) ⟨by omega,?_,?_,?_,m,g',rs,?_,hm9,hm4,hs1',?_⟩
         ·simp (disch:=omega) only [go_sem,f59]
         ·simp (disch:=omega) only [go_sem,f60]
         ·simp (disch:=omega) only [go_sem]
         ·simp (disch:=omega) only [go_sem,f13]
         ·rw [List.range_succ,List.filter_append,List.map_append,← hrs];simp only [List.filter_cons,List.filter_nil,hbj,Bool.false_eq_true,if_false,List.map_nil,List.append_nil]
       ·have hjl:j=seen.length:=by omega
        subst hjl
        have hta:List.take rs.length (rs.map intD)=rs.map intD:=List.take_of_length_le (by simp)
        simp (disch:=omega) only [go_sem,f13,f59,f60,f61,hlt,hm9,hrn,hta,Nat.zero_add,Nat.le_refl,List.drop_zero]
        rw [hclos,← hrs]
      ·refine ⟨by omega,?_,?_,?_,σ.length,0,[],?_,?_,by omega,?_,rfl⟩
       ·simp (disch:=omega) only [go_sem]
       ·simp (disch:=omega) only [go_sem]
       ·simp (disch:=omega) only [go_sem]
       ·simp (disch:=omega) only [go_sem]
       ·simp [stGet]
       ·rw [stGet_left _ _ _ (by omega)];exact hs1
    ·obtain ⟨op,x,rfl⟩:∃ op x,opn=op++[x]:=⟨opn.dropLast,opn.getLast hne,(List.dropLast_concat_getLast hne).symm⟩
     rcases ho with ⟨_,h1⟩ | ⟨b,g,xs,hb4,rfl,hb,hxl,htk⟩
     ·simp at h1
     dsimp only at hb hxl htk
     have hbl:=lt_of_get hb (by simp)
     have hl3:=lt_of_get hs3 (by simp)
     have hgx:xs.getD op.length default=.int .i64 x:=by
      have h:=congrArg (fun l=>l.getD op.length default) htk
      simp only [List.map_append,List.length_append,List.length_singleton] at h hxl
      rw [List.getD_eq_getElem?_getD,List.getElem?_take,if_pos (by omega),← List.getD_eq_getElem?_getD] at h
      rw [h,List.getD_eq_getElem?_getD,List.getElem?_append_right (by simp)]
      simp [intD]
     have hsx:Seen seen x:=hD.opn x (by simp)
     have hxr:=hsx.inR hsl
     simp only [List.length_append,List.length_singleton] at hxl hol hs3
     have hl0:=lt_of_get hs0 (by rw [hB0];simp)
     have ex1:((op.length+1:Nat):Int) - 1=op.length:=by omega
     have ex2:(op.length:Int)+1 - 1=op.length:=by omega
     have hxe:x<A.emp.length:=by have:=hxr.2;omega
     have hx0:0≤x:=hxr.1
     have he:=erows_get A.emp x.toNat (by omega)
     have hre:=hp.emp (A.emp.getD x.toNat []) (by rw [List.getD_eq_getElem?_getD,List.getElem?_eq_getElem (by omega)];exact List.getElem_mem _)
     obtain ⟨erow,herow⟩:∃ erow,erow=A.emp.getD x.toNat []:=⟨_,rfl⟩
     rw [← herow] at he hre
     have hltx:op.length<op.length+1:=by omega
     have hgt0:(0:Int)<((op.length+1:Nat):Int):=by omega
     simp (disch:=omega) only [go_sem,f2,f5,f6,f7,hs3,hb,hxl,hgt0,hgx,ex1,ex2,hs0,hB0,hle,he,hxe,hx0,hltx,Nat.zero_add,List.length_map,stGet_set_ne,stGet_set_eq,apR]
     refine ⟨by omega,by omega,?_⟩
     have hrl:=hf.erow erow (by rw [herow,List.getD_eq_getElem?_getD,List.getElem?_eq_getElem (by omega)];exact List.getElem_mem _)
     have hs1:=hC.s1
     have hs2:=hC.s2
     have hC2:CloS B0 (stSet σ 3 (.box 51 [.own b g 0 op.length])) (seen,op):=by
      refine ⟨?_,?_,?_,⟨.own b g 0 op.length,?_,.inr ⟨b,g,xs,hb4,rfl,?_,by simp only;omega,?_⟩⟩⟩
      ·rw [stGet_set_ne (by omega)];exact hs0
      ·rw [stGet_set_ne (by omega)];exact hs1
      ·rw [stGet_set_ne (by omega)];exact hs2
      ·rw [stGet_set_eq hl3]
      ·rw [stGet_set_ne (by omega)];exact hb
      ·have h:=congrArg (List.take op.length) htk
       rw [List.take_take,Nat.min_eq_left (by simp),List.map_append,List.take_append_of_le_length (by simp)] at h
       rw [h]
       exact List.take_of_length_le (by simp)
     have hM:meas (seen,op)+1=meas (seen,op++[x]):=by simp [meas];omega
     refine wL_ind (fun (i:Nat) fr σ=>i≤erow.length∧fr 2=.ptr 0 0∧fr 5=.ptr 2 0∧fr 6=.ptr 3 0∧fr 7=.func (.func 58) [] [.ptr 2 0,.ptr 3 0]∧fr 49=.d (.list 1 (erow.map intD))∧fr 50=.d (.int .i64 erow.length)∧fr 51=.d (.int .i64 i) ∧
      ∃ s,CloS B0 σ s∧Dfs A l (fun z=>z=x) s∧(∀ z,z∈l→inR A.arcs.length z→Seen s.1 z)∧(∀ y,y∈erow.take i→Seen s.1 y)∧Seen s.1 x∧meas s≤meas (seen,op)) (fun i=>erow.length - i) ?_ 0 ?_
     ·rintro i fr σ ⟨hi,f2,f5,f6,f7,f49,f50,f51,s,hC,hD,hseen,hrow,hsx,hms⟩ ih3
      have hsl:=hD.len
      have hms2:2 * unseen s.1+s.2.length≤meas (seen,op):=hms
      have h11:meas (seen,op++[x])≤2 * A.arcs.length:=hm
      have hol2:s.2.length≤2 * A.arcs.length:=by omega
      by_cases hlt:i<erow.length
      ·have hg:=emp_get erow i hlt
       have hyl:erow.getD i default∈erow:=getD_mem erow i hlt
       have htk:=take_succ' erow i hlt
       generalize erow.getD i default=y at *
       have hyr:=hre y hyl
       simp (disch:=omega) only [go_sem,f2,f5,f6,f7,f49,f50,f51,hlt,hg]
       refine (push58 hC (by omega) (by omega) y).at ?_
       rintro v σ' ⟨rfl,hC'⟩
       simp (disch:=omega) only [go_sem,f51]
       refine ih3 (i+1) _ _ (by omega) ⟨by omega,?_,?_,?_,?_,?_,?_,?_,pushC s y,hC',hD.push fun _=>?_,fun z hz hr=>seen_mono _ _ _ (hseen z hz hr),fun z hz=>?_,seen_mono _ _ _ hsx,Nat.le_trans (push_meas s y) hms⟩
       ·simp (disch:=omega) only [go_sem,f2]
       ·simp (disch:=omega) only [go_sem,f5]
       ·simp (disch:=omega) only [go_sem,f6]
       ·simp (disch:=omega) only [go_sem,f7]
       ·simp (disch:=omega) only [go_sem,f49]
       ·simp (disch:=omega) only [go_sem,f50]
       ·simp (disch:=omega) only [go_sem]
       ·obtain ⟨q,h1,h2,h3⟩:=hD.snd x hsx
        exact ⟨q,h1,h2,h3.trans (.step (by rw [← herow];exact hyl) (.refl y))⟩
       ·rw [htk] at hz
        rcases List.mem_append.1 hz with h | h
        ·exact seen_mono _ _ _ (hrow z h)
        ·rw [List.mem_singleton.1 h]
         exact seen_self _ _ (by rw [hsl];exact hyr)
      ·rw [List.take_of_length_le (by omega)] at hrow
       simp (disch:=omega) only [go_sem,f2,f5,f6,f7,f49,f50,f51,hlt]
       refine ih2 s _ _ (by omega) ⟨?_,?_,?_,?_,hC,hD.shut (by rw [← herow];exact hrow),hseen,?_⟩
       ·simp (disch:=omega) only [go_sem,f2]
       ·simp (disch:=omega) only [go_sem,f5]
       ·simp (disch:=omega) only [go_sem,f6]
       ·simp (disch:=omega) only [go_sem,f7]
       ·have h11:meas (seen,op++[x])≤2 * A.arcs.length:=hm
        omega
     ·refine ⟨by omega,?_,?_,?_,?_,?_,?_,?_,(seen,op),hC2,hD.pop,hseen,fun y hy=>(by cases hy),hsx,Nat.le_refl _⟩
      all_goals simp (disch:=omega) only [go_sem,f2,f5,f6,f7]
   ·exact ⟨by simp (disch:=omega) only [go_sem,f2],by simp (disch:=omega) only [go_sem,f5],by simp (disch:=omega) only [go_sem,f6],by simp (disch:=omega) only [go_sem,f7],hC,hD,hseen,hm⟩
 ·refine ⟨by omega,?_,?_,?_,?_,?_,?_,?_,(List.replicate A.arcs.length false,[]),⟨rfl,?_,?_,⟨.d .nilslice,rfl,.inl ⟨rfl,rfl⟩⟩⟩,Dfs.start A l,fun z hz=>(by cases hz),?_⟩
  ·simp (disch:=omega) only [go_sem]
  ·simp (disch:=omega) only [go_sem]
  ·simp (disch:=omega) only [go_sem]
  ·simp (disch:=omega) only [go_sem]
  ·simp (disch:=omega) only [go_sem]
  ·simp (disch:=omega) only [go_sem]
  ·simp (disch:=omega) only [go_sem]
  ·simp [stGet,bitsL]
  ·simp [stGet]
  ·have h9:unseen (List.replicate A.arcs.length false)≤(List.replicate A.arcs.length false).length:=List.countP_le_length
   rw [List.length_replicate] at h9
   have h10:meas (List.replicate A.arcs.length false,[])=2 * unseen (List.replicate A.arcs.length false):=rfl
   rw [h10];omega
end Go.Proofs.YtngdkenddfdhaaaGreatDoor
set_option linter.unusedVariables false
set_option linter.unusedSimpArgs false
set_option maxRecDepth 100000
namespace Go.Proofs.YtngdkenddfdhaaaGreatDoor
open Go Nv Pat
def hintsT:Nat→Hint:=fun i=>if i=7 then .own ⟨1,3⟩ else if i=48 then .freeze else .no
@[go_sem] theorem hintsT_at (i:Nat):hintsT i=if i=7 then .own ⟨1,3⟩ else if i=48 then .freeze else .no:=nrfl rfl
theorem hits_snoc {c:Int} {row:List Arc} {i:Nat} (h:i<row.length):hitsC c (row.take (i+1))=hitsC c (row.take i)++(if (row.getD i default).1≤c∧c≤(row.getD i default).2.1 then [(row.getD i default).2.2] else []):=by
 rw [take_succ' row i h]
 unfold hitsC
 rw [List.filterMap_append]
 congr 1
 simp only [List.filterMap_cons,List.filterMap_nil]
 split <;> simp_all
theorem hits_len (c:Int) (row:List Arc):(hitsC c row).length≤row.length:=List.length_filterMap_le _ _
theorem targets_snoc (A:Au) {l:List Int} {j:Nat} (c:Int) (h:j<l.length):targets A (l.take (j+1)) c=targets A (l.take j) c++hitsC c (A.arcs.getD (l.getD j default).toNat []):=by
 rw [take_succ' l j h,targets_append];simp [targets]
theorem targets_len {A:Au} (hf:Fit A) (c:Int):∀ l:List Int,(targets A l c).length≤l.length * 1000000000
 | []=>by simp [targets]
 | x::l=>by
  have h:=targets_len hf c l
  have hr:(A.arcs.getD x.toNat []).length≤1000000000:=by
   rw [List.getD_eq_getElem?_getD]
   cases hx:A.arcs[x.toNat]? with
   | none=>simp
   | some r=>exact hf.arow r (List.mem_of_getElem? hx)
  have h2:=hits_len c (A.arcs.getD x.toNat [])
  have e:targets A (x::l) c=hitsC c (A.arcs.getD x.toNat [])++targets A l c:=by simp [targets]
  rw [e,List.length_append,List.length_cons,Nat.add_mul]
  omega
theorem step35 (A:Au) (hp:A.Proper) (hf:Fit A) (l:List Int) (hl:l.length≤3000) (hr:∀ z,z∈l→inR A.arcs.length z) (c:Int) :
  PCall Tryz.prog 35 [auA A,.d (intsD l),.d (.int .i32 c)] (.d (intsD (stepM A l c))):=by
 refine fn35.pure hintsT (Nat.le_refl _) (by simp only [go_sem,auA,auF,rowsD,intsD]) (by simp only [go_sem]) ?_
 have hla:((arcsL A.arcs).map (DV.list 3)).length=A.arcs.length:=by simp [arcsL]
 have hmost:=hp.most
 simp (disch:=omega) only [go_sem,auA,auF,rowsD,hla,intsD,List.length_map]
 obtain ⟨B0,hB0⟩:∃ B0,B0=Blk.box 31 [AV.d (.int .i64 A.start),AV.d (.int .i64 A.accept),AV.d (.list 1 ((arcsL A.arcs).map (DV.list 3))),AV.d (.list 1 ((intsL A.emp).map (DV.list 1)))]:=⟨_,rfl⟩
 rw [← hB0]
 refine wL_ind (fun (j:Nat) fr σ=>j≤l.length∧fr 2=.d (.int .i32 c)∧fr 3=.ptr 0 0∧fr 12=.d (.list 1 (l.map intD))∧fr 13=.d (.int .i64 l.length)∧fr 14=.d (.int .i64 j) ∧
  ∃ (m g:Nat),fr 7=.own m g 0 (targets A (l.take j) c).length∧stGet σ 0=B0∧stGet σ m=.arr g ⟨1,3⟩ ((targets A (l.take j) c).map intD)∧0<m) (fun j=>l.length - j) ?_ 0 ?_
 ·rintro j fr σ ⟨hj,f2,f3,f12,f13,f14,m,g,f7,hs0,hsm,hm0⟩ ih
  have hml:=lt_of_get hsm (by simp)
  have hts:=targets_len hf c (l.take j)
  have hjl:(l.take j).length≤3000:=by rw [List.length_take];omega
  have hts2:(targets A (l.take j) c).length≤3000 * 1000000000:=Nat.le_trans hts (Nat.mul_le_mul_right _ hjl)
  by_cases hlt:j<l.length
  ·have hg:=emp_get l j hlt
   have hsn:=targets_snoc A c hlt
   have hxr:=hr _ (getD_mem l j hlt)
   generalize l.getD j default=x at *
   have hx0:=hxr.1
   have hxn:=hxr.2
   have ha:=arows_get A.arcs x.toNat (by omega)
   have hrl:=hf.arow (A.arcs.getD x.toNat []) (by rw [List.getD_eq_getElem?_getD,List.getElem?_eq_getElem (by omega)];exact List.getElem_mem _)
   generalize A.arcs.getD x.toNat []=row at *
   generalize targets A (l.take j) c=ts at *
   simp (disch:=omega) only [go_sem,f2,f3,f7,f12,f13,f14,hlt,hg,hs0,hB0,hla,ha,hx0,hxn,List.length_map]
   refine wL_ind (fun (i:Nat) fr σ=>i≤row.length∧fr 2=.d (.int .i32 c)∧fr 3=.ptr 0 0∧fr 12=.d (.list 1 (l.map intD))∧fr 13=.d (.int .i64 l.length)∧fr 14=.d (.int .i64 j) ∧
    fr 22=.d (.list 3 (row.map arcD))∧fr 23=.d (.int .i64 row.length)∧fr 24=.d (.int .i64 i) ∧
    ∃ (m g:Nat),fr 7=.own m g 0 (ts++hitsC c (row.take i)).length∧stGet σ 0=B0∧stGet σ m=.arr g ⟨1,3⟩ ((ts++hitsC c (row.take i)).map intD)∧0<m) (fun i=>row.length - i) ?_ 0 ?_
   ·rintro i fr σ ⟨hi,f2,f3,f12,f13,f14,f22,f23,f24,m,g,f7,hs0,hsm,hm0⟩ ih2
    have hml:=lt_of_get hsm (by simp)
    have hhl:=hits_len c (row.take i)
    have htil:(row.take i).length≤row.length:=by rw [List.length_take];omega
    by_cases hil:i<row.length
    ·have hga:=arc_get row i hil
     have hsn2:=hits_snoc (c:=c) hil
     generalize row.getD i default=y at *
     obtain ⟨lo,hi',to⟩:=y
     generalize hT:ts++hitsC c (row.take i)=T at *
     have hTl:T.length≤3000 * 1000000000+1000000000:=by rw [← hT,List.length_append];omega
     have hcap:(T.length+1) * 8≤140737488355328:=by omega
     have hTn:(T.map intD).length=T.length:=by simp
     have hta:List.take T.length (T.map intD)=T.map intD:=List.take_of_length_le (by simp)
     have hl0:=lt_of_get hs0 (by rw [hB0];simp)
     have hnew:ts++hitsC c (row.take (i+1))=T++(if lo≤c∧c≤hi' then [to] else []):=by rw [hsn2,← List.append_assoc,hT]
     have frs:∀ (x:AV) (fr':FR),True:=fun _ _=>trivial
     by_cases c1:lo≤c
     ·by_cases c2:c≤hi'
      ·rw [if_pos ⟨c1,c2⟩] at hnew
       simp (disch:=omega) only [go_sem,f2,f3,f7,f12,f13,f14,f22,f23,f24,hil,hga,c1,c2,hsm,hta,hTn,hcap,Nat.zero_add,Nat.le_refl,stGet_left,stSet_left,apR]
       refine ih2 (i+1) _ _ (by omega) ⟨by omega,?_,?_,?_,?_,?_,?_,?_,?_,m,g+1,?_,?_,?_,hm0⟩
       ·simp (disch:=omega) only [go_sem,f2]
       ·simp (disch:=omega) only [go_sem,f3]
       ·simp (disch:=omega) only [go_sem,f12]
       ·simp (disch:=omega) only [go_sem,f13]
       ·simp (disch:=omega) only [go_sem,f14]
       ·simp (disch:=omega) only [go_sem,f22]
       ·simp (disch:=omega) only [go_sem,f23]
       ·simp (disch:=omega) only [go_sem]
       ·rw [hnew];simp (disch:=omega) only [go_sem,List.length_append,List.length_cons,List.length_nil]
       ·rw [(own_turn _ _ hml).2.1 0 (by omega) (by omega)];exact hs0
       ·rw [(own_turn _ _ hml).1,hnew];simp [intD]
      ·rw [if_neg (fun h=>c2 h.2),List.append_nil] at hnew
       simp (disch:=omega) only [go_sem,f2,f3,f7,f12,f13,f14,f22,f23,f24,hil,hga,c1,c2,apR]
       refine ih2 (i+1) _ _ (by omega) ⟨by omega,?_,?_,?_,?_,?_,?_,?_,?_,m,g,?_,?_,?_,hm0⟩
       ·simp (disch:=omega) only [go_sem,f2]
       ·simp (disch:=omega) only [go_sem,f3]
       ·simp (disch:=omega) only [go_sem,f12]
       ·simp (disch:=omega) only [go_sem,f13]
       ·simp (disch:=omega) only [go_sem,f14]
       ·simp (disch:=omega) only [go_sem,f22]
       ·simp (disch:=omega) only [go_sem,f23]
       ·simp (disch:=omega) only [go_sem]
       ·rw [hnew];simp (disch:=omega) only [go_sem,f7]
       ·rw [stGet_left _ _ _ (by omega)];exact hs0
       ·rw [stGet_left _ _ _ (by omega),hnew];exact hsm
     ·rw [if_neg (fun h=>c1 h.1),List.append_nil] at hnew
      simp (disch:=omega) only [go_sem,f2,f3,f7,f12,f13,f14,f22,f23,f24,hil,hga,c1,apR]
      refine ih2 (i+1) _ _ (by omega) ⟨by omega,?_,?_,?_,?_,?_,?_,?_,?_,m,g,?_,?_,?_,hm0⟩
      ·simp (disch:=omega) only [go_sem,f2]
      ·simp (disch:=omega) only [go_sem,f3]
      ·simp (disch:=omega) only [go_sem,f12]
      ·simp (disch:=omega) only [go_sem,f13]
      ·simp (disch:=omega) only [go_sem,f14]
      ·simp (disch:=omega) only [go_sem,f22]
      ·simp (disch:=omega) only [go_sem,f23]
      ·simp (disch:=omega) only [go_sem]
      ·rw [hnew];simp (disch:=omega) only [go_sem,f7]
      ·rw [stGet_left _ _ _ (by omega)];exact hs0
      ·rw [stGet_left _ _ _ (by omega),hnew];exact hsm
    ·rw [List.take_of_length_le (by omega)] at f7 hsm
     simp (disch:=omega) only [go_sem,f2,f3,f7,f12,f13,f14,f22,f23,f24,hil]
     refine ih (j+1) _ _ (by omega) ⟨by omega,?_,?_,?_,?_,?_,m,g,?_,hs0,?_,hm0⟩
     ·simp (disch:=omega) only [go_sem,f2]
     ·simp (disch:=omega) only [go_sem,f3]
     ·simp (disch:=omega) only [go_sem,f12]
     ·simp (disch:=omega) only [go_sem,f13]
     ·simp (disch:=omega) only [go_sem]
     ·simp (disch:=omega) only [go_sem,f7,hsn]
     ·rw [hsn];exact hsm
   ·refine ⟨by omega,?_,?_,?_,?_,?_,?_,?_,?_,m,g,?_,hs0,?_,hm0⟩
    all_goals simp (disch:=omega) only [go_sem,f2,f3,f7,f12,f13,f14,List.take_zero,show hitsC c []=[] from rfl,List.append_nil,hsm]
  ·have hje:j=l.length:=by omega
   subst hje
   rw [List.take_length] at f7 hsm hts2
   have hta:List.take (targets A l c).length ((targets A l c).map intD)=(targets A l c).map intD:=List.take_of_length_le (by simp)
   have htl:((targets A l c).map intD).length=(targets A l c).length:=by simp
   simp (disch:=omega) only [go_sem,f2,f3,f7,f12,f13,f14,hlt,hs0,hB0,hsm,hta,htl,Nat.zero_add,Nat.le_refl,List.drop_zero]
   refine (closure33 A hp hf (targets A l c) (by omega)).at ?_
   simp (disch:=omega) only [go_sem,intsD]
   rfl
 ·refine ⟨by omega,?_,?_,?_,?_,?_,1,0,?_,?_,?_,by omega⟩
  all_goals simp (disch:=omega) only [go_sem,List.take_zero,show targets A [] c=[] from rfl,List.length_nil,List.map_nil]
end Go.Proofs.YtngdkenddfdhaaaGreatDoor
