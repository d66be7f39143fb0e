/- Part of a proof about the functions of this seat. -/
import Derived.Test.YtfnddhbiolpmgaaGreatDoorG11Bn56
import Derived.Test.YtfnddhbiolpmgaaGreatDoorG12Q56
import Derived.Test.YtfnddhbiolpmgaaGreatDoorG13Nfs
set_option linter.unusedVariables false
set_option linter.unusedSimpArgs false
set_option maxRecDepth 100000
namespace Go.Proofs.YtfnddhbiolpmgaaGreatDoor
open Go Nv Pat
/- The builder of automata: a state more,a way more. -/
def arcD (x:Arc):DV:=.agg [.int .i32 x.1,.int .i32 x.2.1,.int .i64 x.2.2]
def intD (z:Int):DV:=.int .i64 z
def arcsL (A:List (List Arc)):List (List DV):=A.map (·.map arcD)
def intsL (E:List (List Int)):List (List DV):=E.map (·.map intD)
def Bld (σ:Nv.ST) (p:Nat) (st:St) (H:Nat→Prop):Prop:=∃ va ve F G,Two σ p 81 ⟨3,101⟩ ⟨1,3⟩ 99 84 (arcsL st.A) (intsL st.E) va ve F G H
def hintsS:Nat→Hint:=fun i=>if i=9 then .rows else if i=18 then .rows else .no
@[go_sem] theorem hintsS_at (i:Nat):hintsS i=if i=9 then .rows else if i=18 then .rows else .no:=nrfl rfl
theorem state48 {σ:Nv.ST} {p:Nat} {st:St} {H:Nat→Prop} (hB:Bld σ p st H) (hE:st.E.length=st.A.length) (hl:st.A.length≤1000000) :
  RCall Tryz.prog 46 [.ptr p 0] σ fun v σ'=>v=.d (.int .i64 st.len)∧∃ H',Bld σ' p st.push H'∧Keeps σ H σ' H':=by
 obtain ⟨va,ve,F,G,hT⟩:=hB
 have hp:=hT.box
 have hpl:=hT.lt p hT.hp
 refine fn46.rel hintsS (Nat.le_refl _) ?_
 refine wW_cut (fun fr σ'=>fr 0=.ptr p 0∧σ'=σ) ?_ ?_
 ·simp (disch:=omega) only [go_sem]
 rintro fr σ ⟨f0,rfl⟩
 refine wW_cut (fun fr σ'=>fr 0=.ptr p 0∧∃ va F H',Two σ' p 81 ⟨3,101⟩ ⟨1,3⟩ 99 84 (arcsL st.A++[[]]) (intsL st.E) va ve F G H'∧Keeps σ H σ' H') ?_ ?_
 ·rcases hT.a with ⟨rfl,hA⟩ | ⟨b,g,n,xs,rfl,hr⟩
  ·simp (disch:=omega) only [go_sem,f0,hp,stGet_left,stSet_left,apR]
   rw [hA] at hT ⊢
   have hX:(stSet σ p (.box 81 [AV.rown (List.length σ+1) 1 0 1,ve])).length=σ.length:=stSet_len _ _ _
   have hk:∀ k,k<σ.length→k≠p→stGet (stSet σ p (.box 81 [AV.rown (List.length σ+1) 1 0 1,ve])++[.arr 0 ⟨1,99⟩ [DV.nilslice],.rows 1 99 [AV.d DV.nilslice]]) k=stGet σ k:=fun k h1 h2=>stGet_sl h1 h2
   refine ⟨_,_,_,hT.newA (b:=σ.length+1) (g:=1) ?_ (by omega) ?_ ?_ (fun k hH hkp=>hk k (hT.lt k hH) hkp) ?_,?_,fun k h1 h2=>hk k h1 (fun e=>h2 (e ▸ hT.hp)),?_⟩
   ·exact stGet_add 1 hX
   ·rw [List.length_append,hX];simp
   ·rw [stGet_left _ _ _ (by rw [hX];exact hpl)];exact stGet_set_eq hpl
   ·rw [List.length_append,hX];omega
   ·rw [List.length_append,hX];omega
   ·rintro k (hk | rfl)
    ·exact .inl hk
    ·exact .inr (by omega)
  ·have hr1:=hr.row
   have hr2:=hr.num
   have hr3:=hr.len
   have hpb:p≠b:=fun e=>hT.np.1 (e ▸ hr.mem)
   have hbl:=hT.lt b (hT.fh b hr.mem)
   have hnl:n=xs.length:=by omega
   have hcap:(n+1) * 24≤140737488355328:=by rw [hr2,arcsL,List.length_map];omega
   simp (disch:=omega) only [go_sem,f0,hp,hr1,stGet_left,stSet_left,stGet_sl,stSet_sl,hnl,apR]
   rw [hnl] at hcap
   refine ⟨hcap,?_⟩
   obtain ⟨S,hS⟩:∃ S,S=stSet (stSet σ b (.rows (g+1) 99 (xs++[AV.d DV.nilslice]))) p (.box 81 [AV.rown b (g+1) 0 (xs.length+1),ve]):=⟨_,rfl⟩
   have hX:S.length=σ.length:=by rw [hS,stSet_len,stSet_len]
   rw [← hS]
   have hk:∀ k,k<σ.length→k≠p→k≠b→stGet (S++[.arr 0 ⟨1,99⟩ [DV.nilslice]]) k=stGet σ k:=fun k h1 h2 h3=>by
    rw [stGet_left _ _ _ (by omega),hS,stGet_set_ne h2,stGet_set_ne h3]
   refine ⟨_,_,_,hT.moreA hr (g':=g+1) ?_ ?_ (fun k hH hkp hkb=>hk k (hT.lt k hH) hkp hkb) ?_,?_,fun k h1 h2=>hk k h1 (fun e=>h2 (e ▸ hT.hp)) (fun e=>h2 (e ▸ hT.fh b hr.mem)),fun k hk=>.inl hk⟩
   ·rw [stGet_left _ _ _ (by omega),hS,stGet_set_ne (Ne.symm hpb),stGet_set_eq hbl]
   ·rw [stGet_left _ _ _ (by omega),hS,stGet_set_eq (by rw [stSet_len];exact hpl),hnl];rfl
   ·rw [List.length_append,hX];omega
   ·rw [List.length_append,hX];omega
 clear hp hpl hT va F
 rintro fr σ2 ⟨f0,va,F,H2,hT,hK⟩
 have hp:=hT.box
 have hpl:=hT.lt p hT.hp
 refine wW_cut (fun fr σ'=>fr 0=.ptr p 0∧∃ ve G H',Two σ' p 81 ⟨3,101⟩ ⟨1,3⟩ 99 84 (arcsL st.A++[[]]) (intsL st.E++[[]]) va ve F G H'∧Keeps σ2 H2 σ' H') ?_ ?_
 ·rcases hT.e with ⟨rfl,hA⟩ | ⟨b,g,n,xs,rfl,hr⟩
  ·simp (disch:=omega) only [go_sem,f0,hp,stGet_left,stSet_left,apR]
   rw [hA] at hT ⊢
   have hX:(stSet σ2 p (.box 81 [va,AV.rown (List.length σ2+1) 1 0 1])).length=σ2.length:=stSet_len _ _ _
   have hk:∀ k,k<σ2.length→k≠p→stGet (stSet σ2 p (.box 81 [va,AV.rown (List.length σ2+1) 1 0 1])++[.arr 0 ⟨1,84⟩ [DV.nilslice],.rows 1 84 [AV.d DV.nilslice]]) k=stGet σ2 k:=fun k h1 h2=>stGet_sl h1 h2
   refine ⟨_,_,_,hT.newE (b:=σ2.length+1) (g:=1) ?_ (by omega) ?_ ?_ (fun k hH hkp=>hk k (hT.lt k hH) hkp) ?_,?_,fun k h1 h2=>hk k h1 (fun e=>h2 (e ▸ hT.hp)),?_⟩
   ·exact stGet_add 1 hX
   ·rw [List.length_append,hX];simp
   ·rw [stGet_left _ _ _ (by rw [hX];exact hpl)];exact stGet_set_eq hpl
   ·rw [List.length_append,hX];omega
   ·rw [List.length_append,hX];omega
   ·rintro k (hk | rfl)
    ·exact .inl hk
    ·exact .inr (by omega)
  ·have hr1:=hr.row
   have hr2:=hr.num
   have hr3:=hr.len
   have hpb:p≠b:=fun e=>hT.np.2 (e ▸ hr.mem)
   have hbl:=hT.lt b (hT.gh b hr.mem)
   have hnl:n=xs.length:=by omega
   have hcap:(n+1) * 24≤140737488355328:=by rw [hr2,intsL,List.length_map];omega
   simp (disch:=omega) only [go_sem,f0,hp,hr1,stGet_left,stSet_left,stGet_sl,stSet_sl,hnl,apR]
   rw [hnl] at hcap
   refine ⟨hcap,?_⟩
   obtain ⟨S,hS⟩:∃ S,S=stSet (stSet σ2 b (.rows (g+1) 84 (xs++[AV.d DV.nilslice]))) p (.box 81 [va,AV.rown b (g+1) 0 (xs.length+1)]):=⟨_,rfl⟩
   have hX:S.length=σ2.length:=by rw [hS,stSet_len,stSet_len]
   rw [← hS]
   have hk:∀ k,k<σ2.length→k≠p→k≠b→stGet (S++[.arr 0 ⟨1,84⟩ [DV.nilslice]]) k=stGet σ2 k:=fun k h1 h2 h3=>by
    rw [stGet_left _ _ _ (by omega),hS,stGet_set_ne h2,stGet_set_ne h3]
   refine ⟨_,_,_,hT.moreE hr (g':=g+1) ?_ ?_ (fun k hH hkp hkb=>hk k (hT.lt k hH) hkp hkb) ?_,?_,fun k h1 h2=>hk k h1 (fun e=>h2 (e ▸ hT.hp)) (fun e=>h2 (e ▸ hT.gh b hr.mem)),fun k hk=>.inl hk⟩
   ·rw [stGet_left _ _ _ (by omega),hS,stGet_set_ne (Ne.symm hpb),stGet_set_eq hbl]
   ·rw [stGet_left _ _ _ (by omega),hS,stGet_set_eq (by rw [stSet_len];exact hpl),hnl];rfl
   ·rw [List.length_append,hX];omega
   ·rw [List.length_append,hX];omega
 rintro fr σ3 ⟨f0,ve,G,H3,hT3,hK3⟩
 have hp3:=hT3.box
 have hpush:Bld σ3 p st.push H3:=⟨va,ve,F,G,by simpa [St.push,arcsL,intsL] using hT3⟩
 have hlen:(arcsL st.A++[[]]).length=st.A.length+1:=by simp [arcsL]
 rcases hT3.a with ⟨rfl,hA⟩ | ⟨b,g,n,xs,rfl,hr⟩
 ·simp at hA
 ·have hr1:=hr.row
  have hr2:=hr.num
  rw [hlen] at hr2
  simp (disch:=omega) only [go_sem,f0,hp3,hr1,hr2]
  exact ⟨_,rfl,by simp [St.len],H3,hpush,hK.trans hK3⟩
end Go.Proofs.YtfnddhbiolpmgaaGreatDoor
set_option linter.unusedVariables false
set_option linter.unusedSimpArgs false
set_option maxRecDepth 100000
namespace Go.Proofs.YtfnddhbiolpmgaaGreatDoor
open Go Nv Pat
/- slices.Contains of numbers. -/
def intsD (l:List Int):DV:=.list 1 (l.map intD)
def fidx (z:Int):List Int→Nat→Int
 | [],_=>-1
 | x::l,j=>if z=x then j else fidx z l (j+1)
theorem fidx_iff (z:Int):∀ (l:List Int) (j:Nat),decide (0≤fidx z l j)=decide (z∈l)
 | [],j=>by simp [fidx]
 | x::l,j=>by
  rw [fidx]
  split
  ·rename_i h;subst h;simp
  ·rename_i h;rw [fidx_iff z l];simp [h]
theorem intD_get (l:List Int) (j:Nat) (h:j<l.length):(l.map intD).getD j default=.int .i64 (l.getD j 0):=by simp [List.getD_eq_getElem?_getD,h,intD]
theorem int_drop {l:List Int} {j:Nat} (h:j<l.length):l.drop j=l.getD j 0::l.drop (j+1):=by
 rw [List.drop_eq_getElem_cons h];simp [List.getD_eq_getElem?_getD,h]
theorem index59 (l:List Int) (z:Int) (hl:l.length≤100000000):PCall Tryz.prog 59 [.d (intsD l),.d (.int .i64 z)] (.d (.int .i64 (fidx z l 0))):=by
 refine fn59.pure noHint (Nat.le_refl _) (by simp only [go_sem,intsD]) (by simp only [go_sem]) ?_
 simp (disch:=omega) only [go_sem,intsD,List.length_map]
 refine wL_ind (fun (j:Nat) fr σ=>j≤l.length∧fr 0=.d (.list 1 (l.map intD))∧fr 1=.d (.int .i64 z)∧fr 7=.d (.int .i64 l.length)∧fr 8=.d (.int .i64 j)∧σ=[]∧fidx z (l.drop j) j=fidx z l 0) (fun j=>l.length - j) ?_ 0 ?_
 ·rintro j fr σ ⟨hj,f0,f1,f7,f8,rfl,hx⟩ ih
  by_cases hlt:j<l.length
  ·rw [int_drop hlt,fidx] at hx
   by_cases he:z=l.getD j 0
   ·rw [if_pos he] at hx
    simp (disch:=omega) only [go_sem,f0,f1,f7,f8,hlt,intD_get,List.length_map,← he]
    rw [hx]
   ·rw [if_neg he] at hx
    simp (disch:=omega) only [go_sem,f0,f1,f7,f8,hlt,intD_get,List.length_map,he]
    refine ih (j+1) _ _ (by omega) ⟨by omega,?_,?_,?_,?_,rfl,hx⟩
    ·simp (disch:=omega) only [go_sem,f0]
    ·simp (disch:=omega) only [go_sem,f1]
    ·simp (disch:=omega) only [go_sem,f7]
    ·simp (disch:=omega) only [go_sem]
  ·rw [List.drop_of_length_le (by omega)] at hx
   simp (disch:=omega) only [go_sem,f0,f1,f7,f8,hlt,← hx,fidx]
 ·refine ⟨by omega,?_,?_,?_,?_,rfl,rfl⟩ <;> simp (disch:=omega) only [go_sem]
theorem contains36 (l:List Int) (z:Int) (hl:l.length≤100000000):PCall Tryz.prog 39 [.d (intsD l),.d (.int .i64 z)] (.d (.bool (decide (z∈l)))):=by
 refine fn39.pure noHint (Nat.le_refl _) (by simp only [go_sem,intsD]) (by simp only [go_sem]) ?_
 simp (disch:=omega) only [go_sem,intsD]
 refine (index59 l z hl).at ?_
 simp (disch:=omega) only [go_sem,fidx_iff]
theorem contains36n (z:Int):PCall Tryz.prog 39 [.d .nilslice,.d (.int .i64 z)] (.d (.bool false)):=by
 have:=contains36 [] z (by simp)
 refine PCall.wk (args':=[.d (intsD []),.d (.int .i64 z)]) (by simpa using this) rfl fun i hi=>?_
 match i,hi with
 | 0,_=>exact .nil 1
 | 1,_=>exact .refl _
end Go.Proofs.YtfnddhbiolpmgaaGreatDoor
set_option linter.unusedVariables false
set_option linter.unusedSimpArgs false
set_option maxRecDepth 100000
namespace Go.Proofs.YtfnddhbiolpmgaaGreatDoor
open Go Nv Pat
theorem intsL_get (E:List (List Int)) (f:Nat):(intsL E).getD f []=(E.getD f []).map intD:=by
 unfold intsL
 rw [List.getD_eq_getElem?_getD,List.getD_eq_getElem?_getD,List.getElem?_map]
 cases E[f]? <;> rfl
theorem arcsL_get (A:List (List Arc)) (f:Nat):(arcsL A).getD f []=(A.getD f []).map arcD:=by
 unfold arcsL
 rw [List.getD_eq_getElem?_getD,List.getD_eq_getElem?_getD,List.getElem?_map]
 cases A[f]? <;> rfl
theorem bld_writeE {σ σ':Nv.ST} {p:Nat} {st:St} {H:Nat→Prop} {va:AV} {F G:Nat→Prop} {b g n:Nat} {xs:List AV}
  (hT:Two σ p 81 ⟨3,101⟩ ⟨1,3⟩ 99 84 (arcsL st.A) (intsL st.E) va (.rown b g 0 n) F G H) (hr:Nv.Rows σ ⟨1,3⟩ 84 b g n (intsL st.E) G xs) {f:Nat} (hf:f<st.E.length) {l:List Int} {c:AV} {q:Nat}
  (hb:stGet σ' b=.rows g 84 (xs.set f c)) (hc:Cell σ' ⟨1,3⟩ c (l.map intD)) (hq:blkOf c=some q) (hn:(σ.length≤q∧q<σ'.length)∨blkOf (xs.getD f .any)=some q)
  (hk:∀ k,k<σ.length→k≠b→blkOf (xs.getD f .any)≠some k→stGet σ' k=stGet σ k) (hl:σ.length≤σ'.length):∃ H',Bld σ' p ⟨st.A,st.E.set f l⟩ H'∧Keeps σ H σ' H':=by
 have hfl:f<(intsL st.E).length:=by simpa [intsL] using hf
 have hW:=hT.writeE hr hfl hb hc hq hn rfl (fun k hH hkb hbk=>hk k (hT.lt k hH) hkb hbk) hl
 have hset:intsL (st.E.set f l)=(intsL st.E).set f (l.map intD):=by simp [intsL,List.map_set]
 refine ⟨_,⟨va,_,_,_,by rw [hset];exact hW⟩,hl,fun k h1 h2=>hk k h1 (fun e=>h2 (e ▸ hT.gh b hr.mem)) fun e=>h2 (hT.gh k (hr.blk f k hfl e)),fun k hk=>?_⟩
 rcases hk with hk | rfl
 ·exact .inl hk
 ·rcases hn with hn | hn
  ·exact .inr hn.1
  ·exact .inl (hT.gh _ (hr.blk f _ hfl hn))
theorem bld_writeA {σ σ':Nv.ST} {p:Nat} {st:St} {H:Nat→Prop} {ve:AV} {F G:Nat→Prop} {b g n:Nat} {xs:List AV}
  (hT:Two σ p 81 ⟨3,101⟩ ⟨1,3⟩ 99 84 (arcsL st.A) (intsL st.E) (.rown b g 0 n) ve F G H) (hr:Nv.Rows σ ⟨3,101⟩ 99 b g n (arcsL st.A) F xs) {f:Nat} (hf:f<st.A.length) {l:List Arc} {c:AV} {q:Nat}
  (hb:stGet σ' b=.rows g 99 (xs.set f c)) (hc:Cell σ' ⟨3,101⟩ c (l.map arcD)) (hq:blkOf c=some q) (hn:(σ.length≤q∧q<σ'.length)∨blkOf (xs.getD f .any)=some q)
  (hk:∀ k,k<σ.length→k≠b→blkOf (xs.getD f .any)≠some k→stGet σ' k=stGet σ k) (hl:σ.length≤σ'.length):∃ H',Bld σ' p ⟨st.A.set f l,st.E⟩ H'∧Keeps σ H σ' H':=by
 have hfl:f<(arcsL st.A).length:=by simpa [arcsL] using hf
 have hW:=hT.writeA hr hfl hb hc hq hn rfl (fun k hH hkb hbk=>hk k (hT.lt k hH) hkb hbk) hl
 have hset:arcsL (st.A.set f l)=(arcsL st.A).set f (l.map arcD):=by simp [arcsL,List.map_set]
 refine ⟨_,⟨_,ve,_,_,by rw [hset];exact hW⟩,hl,fun k h1 h2=>hk k h1 (fun e=>h2 (e ▸ hT.fh b hr.mem)) fun e=>h2 (hT.fh k (hr.blk f k hfl e)),fun k hk=>?_⟩
 rcases hk with hk | rfl
 ·exact .inl hk
 ·rcases hn with hn | hn
  ·exact .inr hn.1
  ·exact .inl (hT.fh _ (hr.blk f _ hfl hn))
def hintsF:Nat→Hint:=fun i=>if i=100016 then .rows else .no
@[go_sem] theorem hintsF_at (i:Nat):hintsF i=if i=100016 then .rows else .no:=nrfl rfl
theorem free49 {σ:Nv.ST} {p:Nat} {st:St} {H:Nat→Prop} (hB:Bld σ p st H) (f t:Nat) (hf:f<st.E.length) (hl:(st.E.getD f []).length≤1000000) :
  RCall Tryz.prog 47 [.ptr p 0,.d (.int .i64 f),.d (.int .i64 t)] σ fun v σ'=>v=.tuple []∧∃ H',Bld σ' p (st.free f t) H'∧Keeps σ H σ' H':=by
 obtain ⟨va,ve,F,G,hT⟩:=hB
 have hp:=hT.box
 have hpl:=hT.lt p hT.hp
 have hEl:(intsL st.E).length=st.E.length:=by simp [intsL]
 refine fn47.rel hintsF (Nat.le_refl _) ?_
 rcases hT.e with ⟨rfl,hA⟩ | ⟨b,g,n,xs,rfl,hr⟩
 ·rw [hA] at hEl;simp at hEl;omega
 have hr1:=hr.row
 have hr2:=hr.num
 have hr3:=hr.len
 rw [hEl] at hr2 hr3
 have hfn:f<n:=by omega
 have hfx:f<xs.length:=by omega
 have hc:=hr.cell f (by rw [hEl];exact hf)
 rw [intsL_get] at hc
 have hpb:p≠b:=fun e=>hT.np.2 (e ▸ hr.mem)
 have hbl:=hT.lt b (hT.gh b hr.mem)
 by_cases hm:(t:Int)∈st.E.getD f []
 ·have hfree:st.free f t=st:=by unfold St.free addE;rw [if_pos hm]
  have hdm:=decide_eq_true hm
  rcases hc with ⟨h1,h2⟩ | ⟨cb,cg,m,h1,h2,h3⟩
  ·have:st.E.getD f []=[]:=by simpa using h2
   rw [this] at hm;cases hm
  ·simp (disch:=omega) only [go_sem,hp,hr1,hfn,hfx,Nat.zero_add,h2]
   have hml:m=(st.E.getD f []).length:=by rw [h1,List.length_map]
   have hta:=take_all ((st.E.getD f []).map intD) m h1.symm
   refine PCall.lendAt (r:=.d (.bool (decide ((t:Int)∈st.E.getD f [])))) ?_ ?_ ?_ ?_
   ·simp (disch:=omega) only [go_sem,h3,Nat.zero_add,List.length_map,← hml,Nat.le_refl,hta,List.drop_zero]
    exact contains36 _ _ (by omega)
   ·simp (disch:=omega) only [go_sem,h3,Nat.zero_add,List.length_map,← hml,Nat.le_refl,hta,List.drop_zero]
   ·simp (disch:=omega) only [go_sem]
   simp (disch:=omega) only [go_sem,hdm]
   refine ⟨_,rfl,rfl,H,?_,Keeps.refl _ _⟩
   rw [hfree]
   exact ⟨_,_,_,_,hT⟩
 ·have hfree:st.free f t=⟨st.A,st.E.set f (st.E.getD f []++[(t:Int)])⟩:=by unfold St.free addE;rw [if_neg hm]
  have hset:intsL (st.E.set f (st.E.getD f []++[(t:Int)]))=(intsL st.E).set f ((st.E.getD f []).map intD++[.int .i64 t]):=by simp [intsL,List.map_set,intD]
  have hdm:=decide_eq_false hm
  rw [hfree]
  rcases hc with ⟨h1,h2⟩ | ⟨cb,cg,m,h1,h2,h3⟩
  ·have he:st.E.getD f []=[]:=by simpa using h2
   simp (disch:=omega) only [go_sem,hp,hr1,hfn,hfx,Nat.zero_add,h1]
   refine (contains36n t).at ?_
   simp (disch:=omega) only [go_sem]
   refine wSeq_of [0,1,2,3,4,5,6,7,8,9,10,11,12,13,14,15,16] (by rfl) ?_
   simp (disch:=omega) only [go_sem,hp,hr1,hfn,hfx,h1,Nat.zero_add,stGet_left,stSet_left,stGet_sl,stSet_sl,apR]
   refine ⟨_,rfl,rfl,?_⟩
   obtain ⟨X,hX⟩:∃ X,X=stSet σ b (.rows g 84 (xs.set f (AV.own (List.length σ+1) 0 0 1))):=⟨_,rfl⟩
   have hXl:X.length=σ.length:=by rw [hX,stSet_len]
   rw [← hX]
   have hk:∀ k τ,k<σ.length→k≠b→stGet (X++τ) k=stGet σ k:=fun k τ h3 h4=>by
    rw [stGet_left _ _ _ (by omega),hX,stGet_set_ne h4]
   refine bld_writeE hT hr hf (q:=σ.length+1) ?_ (.inr ⟨σ.length+1,0,1,by rw [he];rfl,rfl,?_⟩) rfl (.inl ⟨by omega,?_⟩) (fun k h3 h4 _=>hk k _ h3 h4) ?_
   ·rw [stGet_left _ _ _ (by omega),hX,stGet_set_eq hbl]
   ·rw [stGet_add 1 hXl,he];rfl
   ·rw [List.length_append,hXl];simp
   ·rw [List.length_append,hXl];omega
  ·have hcG:G cb:=hr.blk f cb (by rw [hEl];exact hf) (by rw [h2];rfl)
   have hcl:=hT.lt cb (hT.gh cb hcG)
   have hpc:p≠cb:=fun e=>hT.np.2 (e ▸ hcG)
   have hbc:b≠cb:=fun e=>by subst e;rw [hr1] at h3;cases h3
   simp (disch:=omega) only [go_sem,hp,hr1,hfn,hfx,Nat.zero_add,h2]
   have hml:m=(st.E.getD f []).length:=by rw [h1,List.length_map]
   have hta:=take_all ((st.E.getD f []).map intD) m h1.symm
   refine PCall.lendAt (r:=.d (.bool (decide ((t:Int)∈st.E.getD f [])))) ?_ ?_ ?_ ?_
   ·simp (disch:=omega) only [go_sem,h3,Nat.zero_add,List.length_map,← hml,Nat.le_refl,hta,List.drop_zero]
    exact contains36 _ _ (by omega)
   ·simp (disch:=omega) only [go_sem,h3,Nat.zero_add,List.length_map,← hml,Nat.le_refl,hta,List.drop_zero]
   ·simp (disch:=omega) only [go_sem]
   simp (disch:=omega) only [go_sem,hdm]
   have h3':stGet σ cb=.arr cg ⟨1,3⟩ ((st.E.getD f []).map intD):=h3
   have hml':((st.E.getD f []).map intD).length=m:=h1.symm
   have hcap:(m+1) * 8≤140737488355328:=by omega
   refine wSeq_of [0,1,2,3,4,5,6,7,8,9,10,11,12,13,14,15,16] (by rfl) ?_
   simp (disch:=omega) only [go_sem,hp,hr1,hfn,hfx,h2,h3',hml',hta,hcap,Nat.le_refl,hpc,hbc,stGet_set_ne,stGet_set_eq,Nat.zero_add,stGet_left,stSet_left,stGet_sl,stSet_sl,apR]
   refine ⟨_,rfl,rfl,?_⟩
   obtain ⟨X,hX⟩:∃ X,X=stSet (stSet σ cb (.arr (cg+1) ⟨1,3⟩ (List.map intD (st.E.getD f [])++[DV.int .i64 t]))) b (.rows g 84 (xs.set f (AV.own cb (cg+1) 0 (m+1)))):=⟨_,rfl⟩
   have hXl:X.length=σ.length:=by rw [hX,stSet_len,stSet_len]
   rw [← hX]
   have hb1:blkOf (xs.getD f .any)=some cb:=by rw [h2];rfl
   refine bld_writeE hT hr hf (q:=cb) ?_ (.inr ⟨cb,cg+1,m+1,by simp [hml],rfl,?_⟩) rfl (.inr hb1) (fun k h4 h5 h6=>?_) ?_
   ·rw [stGet_left _ _ _ (by omega),hX,stGet_set_eq (by rw [stSet_len];exact hbl)]
   ·rw [stGet_left _ _ _ (by omega),hX,stGet_set_ne (Ne.symm hbc),stGet_set_eq hcl];simp [intD]
   ·rw [stGet_left _ _ _ (by omega),hX,stGet_set_ne h5,stGet_set_ne (fun e=>h6 (by rw [hb1,e]))]
   ·rw [List.length_append,hXl];omega
end Go.Proofs.YtfnddhbiolpmgaaGreatDoor
/- What the builder of automata keeps to. Plain: no program. -/

set_option linter.unusedVariables false
set_option linter.unusedSimpArgs false
namespace Pat
theorem nodup_len:∀ (n:Nat) (l:List Int),l.Nodup→(∀ z,z∈l→0≤z∧z<n)→l.length≤n
 | 0,l,_,h=>by
  cases l with
  | nil=>simp
  | cons x l=>have:=h x (by simp);omega
 | n+1,l,hn,h=>by
  by_cases hm:(n:Int)∈l
  ·have h1:=nodup_len n (l.erase n) (hn.erase _) (fun z hz=>by
    have h2:=(List.Nodup.mem_erase_iff hn).1 hz
    have h3:=h z h2.2
    have h4:=h2.1
    omega)
   have:=List.length_erase_of_mem hm
   omega
  ·have:=nodup_len n l hn (fun z hz=>by
    have h3:=h z hz
    have h4:z≠n:=fun e=>hm (e ▸ hz)
    omega)
   omega
structure Okb (st:St):Prop where
 len:st.E.length=st.A.length
 nd:∀ f,(st.E.getD f []).Nodup
 rg:∀ f z,z∈st.E.getD f []→0≤z∧z<st.A.length
theorem Okb.row {st:St} (h:Okb st) (f:Nat):(st.E.getD f []).length≤st.A.length:=nodup_len _ _ (h.nd f) (h.rg f)
theorem getD_push (E:List (List Int)) (f:Nat):(E++[[]]).getD f []=E.getD f []:=by
 rcases Nat.lt_trichotomy f E.length with h | h | h
 ·rw [List.getD_eq_getElem?_getD,List.getElem?_append_left h,← List.getD_eq_getElem?_getD]
 ·subst h;simp
 ·rw [List.getD_eq_getElem?_getD,List.getElem?_eq_none (by simp;omega),List.getD_eq_getElem?_getD,List.getElem?_eq_none (by omega)]
theorem Okb.push {st:St} (h:Okb st):Okb st.push:=by
 refine ⟨by simp [St.push,h.len],fun f=>?_,fun f z hz=>?_⟩
 ·simp only [St.push,getD_push];exact h.nd f
 ·simp only [St.push,getD_push] at hz
  have:=h.rg f z hz
  simp only [St.push,List.length_append,List.length_singleton];omega
theorem push_len (st:St):st.push.A.length=st.A.length+1:=by simp [St.push]
theorem Okb.free {st:St} (h:Okb st) (f:Nat) {t:Nat} (ht:t<st.A.length):Okb (st.free f t):=by
 refine ⟨by simp [St.free,add_len,h.len],fun g=>?_,fun g z hz=>?_⟩
 ·simp only [St.free,addE]
  split
  ·exact h.nd g
  ·rename_i hm
   rw [List.getD_eq_getElem?_getD,List.getElem?_set]
   split
   ·rename_i hfg;subst hfg
    split
    ·simp only [Option.getD_some]
     refine List.nodup_append.2 ⟨h.nd _,by simp,fun x hx y hy=>?_⟩
     rw [List.mem_singleton.1 hy]
     exact fun e=>hm (e ▸ hx)
    ·simp
   ·rw [← List.getD_eq_getElem?_getD];exact h.nd g
 ·simp only [St.free,addE] at hz ⊢
  split at hz
  ·exact h.rg g z hz
  ·rw [List.getD_eq_getElem?_getD,List.getElem?_set] at hz
   split at hz
   ·rename_i hfg;subst hfg
    split at hz
    ·simp only [Option.getD_some,List.mem_append,List.mem_singleton] at hz
     rcases hz with hz | rfl
     ·exact h.rg _ z hz
     ·omega
    ·simp at hz
   ·rw [← List.getD_eq_getElem?_getD] at hz;exact h.rg g z hz
theorem free_lenA (st:St) (f t:Nat):(st.free f t).A.length=st.A.length:=rfl
theorem Okb.arc {st:St} (h:Okb st) (f t:Nat) (set:List (Int × Int)):Okb (st.arc f t set):=⟨by simp [St.arc,h.len],h.nd,fun g z hz=>by simp only [St.arc,List.length_set];exact h.rg g z hz⟩
theorem arc_lenA (st:St) (f t:Nat) (set:List (Int × Int)):(st.arc f t set).A.length=st.A.length:=by simp [St.arc]
theorem Okb.frees {t:Nat}:∀ (l:List Nat) {st:St},Okb st→t<st.A.length→Okb (frees st l t)∧(frees st l t).A.length=st.A.length
 | [],st,h,_=>⟨h,rfl⟩
 | q::l,st,h,ht=>Okb.frees l (h.free q ht) ht
def OkF (f:St→St × Nat):Prop:=∀ st,Okb st→Okb (f st).1∧st.A.length<(f st).1.A.length∧(f st).2<(f st).1.A.length
theorem chain_ok:∀ (l:List (St→St × Nat)),(∀ f,f∈l→OkF f)→∀ (st:St) (at' first:Nat),Okb st→first<st.A.length →
  Okb (chainB l st at' first).1∧st.A.length≤(chainB l st at' first).1.A.length∧(∀ q,q∈(chainB l st at' first).2.1→q<(chainB l st at' first).1.A.length)∧(chainB l st at' first).2.2<(chainB l st at' first).1.A.length
 | [],_,st,at',first,h,hf=>⟨h,Nat.le_refl _,fun q hq=>by simp [chainB] at hq,hf⟩
 | f::l,hl,st,at',first,h,hf=>by
  obtain ⟨k1,k2,k3⟩:=hl f (by simp) st h
  obtain ⟨c1,c2,c3,c4⟩:=chain_ok l (fun g hg=>hl g (by simp [hg])) ((f st).1.free at' st.len) (f st).2 st.len (k1.free at' k2) k2
  rw [free_lenA] at c2
  refine ⟨c1,by simp only [chainB];omega,fun q hq=>?_,c4⟩
  simp only [chainB,List.mem_cons] at hq ⊢
  rcases hq with rfl | hq
  ·omega
  ·exact c3 q hq
theorem fan_ok:∀ (l:List (St→St × Nat)),(∀ f,f∈l→OkF f)→∀ (st:St) (s:Nat),Okb st →
  Okb (fanB l st s).1∧st.A.length≤(fanB l st s).1.A.length∧(∀ q,q∈(fanB l st s).2→q<(fanB l st s).1.A.length)
 | [],_,st,s,h=>⟨h,Nat.le_refl _,fun q hq=>by simp [fanB] at hq⟩
 | f::l,hl,st,s,h=>by
  obtain ⟨k1,k2,k3⟩:=hl f (by simp) st h
  obtain ⟨c1,c2,c3⟩:=fan_ok l (fun g hg=>hl g (by simp [hg])) ((f st).1.free s st.len) s (k1.free s k2)
  rw [free_lenA] at c2
  refine ⟨c1,by simp only [fanB];omega,fun q hq=>?_⟩
  simp only [fanB,List.mem_cons] at hq ⊢
  rcases hq with rfl | hq
  ·omega
  ·exact c3 q hq
theorem end_ok (a b:Int) (s:Nat) (r:St × List Nat × Nat) (h:Okb r.1) (hr:r.2.2<r.1.A.length):Okb (endR a b s r).1∧(endR a b s r).1.A.length=r.1.A.length+1∧(endR a b s r).2=r.1.A.length:=by
 obtain ⟨k1,k2⟩:=Okb.frees ((s::r.2.1).drop a.toNat) h.push (t:=r.1.len) (by rw [push_len];exact Nat.lt_succ_self _)
 rw [push_len] at k2
 unfold endR
 refine ⟨?_,?_,rfl⟩
 ·split
  ·exact k1.free _ (by rw [k2];omega)
  ·exact k1
 ·split
  ·rw [free_lenA,k2]
  ·exact k2
theorem part_ok {n:Tree} (hn:WF n):OkF fun st=>partB n st:=by
 induction hn with
 | @mk k set sub a b h1 h2 h3 h4 ih =>
  intro st h
  have hp:Okb st.push:=h.push
  have e1:=push_len st
  have e2:=push_len st.push
  simp only [partB]
  have hsub:∀ f,f∈partsB sub→OkF f:=fun f hf=>by
   rw [partsB_map] at hf
   obtain ⟨x,hx,rfl⟩:=List.mem_map.1 hf
   exact ih x hx
  split
  ·refine ⟨hp.push.arc _ _ _,?_,?_⟩
   ·rw [arc_lenA];omega
   ·rw [arc_lenA];simp only [St.len];omega
  split
  ·obtain ⟨c1,c2,c3,c4⟩:=chain_ok (partsB sub) hsub st.push st.len st.len hp (by simp only [St.len];omega)
   have e3:=push_len (chainB (partsB sub) st.push st.len st.len).1
   have e4:(chainB (partsB sub) st.push st.len st.len).1.len=(chainB (partsB sub) st.push st.len st.len).1.A.length:=rfl
   refine ⟨c1.push.free _ (by omega),?_,?_⟩
   ·rw [free_lenA];omega
   ·rw [free_lenA];omega
  split
  ·obtain ⟨c1,c2,c3⟩:=fan_ok (partsB sub) hsub st.push st.len hp
   have e3:=push_len (fanB (partsB sub) st.push st.len).1
   have e4:(fanB (partsB sub) st.push st.len).1.len=(fanB (partsB sub) st.push st.len).1.A.length:=rfl
   obtain ⟨k1,k2⟩:=Okb.frees (t:=(fanB (partsB sub) st.push st.len).1.len) (fanB (partsB sub) st.push st.len).2 c1.push (by omega)
   refine ⟨k1,?_,?_⟩
   ·rw [k2];omega
   ·rw [k2];omega
  split
  ·rename_i _ _ _ h5
   obtain ⟨x,rfl,_,_⟩:=h3 h5
   obtain ⟨c1,c2,c3,c4⟩:=chain_ok (List.replicate (copies a b) ((partsB [x]).headD fun x=>(x,0))) (fun f hf=>by
    rw [(List.mem_replicate.1 hf).2];exact ih x (by simp)) st.push st.len st.len hp (by simp only [St.len];omega)
   obtain ⟨k1,k2,k3⟩:=end_ok a b st.len _ c1 c4
   refine ⟨k1,?_,?_⟩
   ·rw [k2];omega
   ·rw [k2,k3];omega
  ·refine ⟨hp.push.free _ (by simp only [St.len];omega),?_,?_⟩
   ·rw [free_lenA];omega
   ·rw [free_lenA];simp only [St.len];omega
theorem Okb.is {st:St} (h:Okb st):st.Is st.A (Mem st.E):=⟨rfl,h.len,fun _ _=>Iff.rfl⟩
theorem part_len {n:Tree} (hn:WF n) {st:St} (h:Okb st):(partB n st).1.A.length=st.A.length+sz n∧(partB n st).2+1=st.A.length+sz n:=by
 obtain ⟨h1,h2⟩:=part_spec hn st st.A _ h.is
 exact ⟨by have:=h1.len;simp only [St.len] at this;rw [this,List.length_append,rowsA_len hn],h2⟩
end Pat
set_option linter.unusedVariables false
set_option linter.unusedSimpArgs false
set_option maxRecDepth 100000
namespace Go.Proofs.YtfnddhbiolpmgaaGreatDoor
open Go Nv Pat
def PartC (n:Tree):Prop:=∀ {σ:Nv.ST} {p:Nat} {st:St} {H:Nat→Prop},Bld σ p st H→Okb st→st.A.length+sz n≤1000000 →
 RCall Tryz.prog 31 [.ptr p 0,nodeA n] σ fun v σ'=>v=.tuple [.d (.int .i64 st.len),.d (.int .i64 (partB n st).2)]∧∃ H',Bld σ' p (partB n st).1 H'∧Keeps σ H σ' H'
theorem Bld.lt {σ:Nv.ST} {p:Nat} {st:St} {H:Nat→Prop} (h:Bld σ p st H):∀ k,H k→k<σ.length:=by
 obtain ⟨va,ve,F,G,hT⟩:=h;exact hT.lt
theorem Bld.keep {σ σ':Nv.ST} {p:Nat} {st:St} {H:Nat→Prop} (h:Bld σ p st H) (hl:σ.length≤σ'.length) (hk:∀ k,H k→stGet σ' k=stGet σ k):Bld σ' p st H:=by
 obtain ⟨va,ve,F,G,hT⟩:=h;exact ⟨va,ve,F,G,hT.keep hl hk⟩
theorem Bld.pushed {σ:Nv.ST} {p:Nat} {st:St} {H:Nat→Prop} (h:Bld σ p st H) (τ:Nv.ST):Bld (σ++τ) p st H:=by
 obtain ⟨va,ve,F,G,hT⟩:=h;exact ⟨va,ve,F,G,hT.pushed τ⟩
theorem push_len' (st:St):st.push.len=st.len+1:=push_len st
theorem lastD_cons (q:Nat) (l:List Nat) (s:Nat):lastD (q::l) s=lastD l q:=by
 unfold lastD
 cases l <;> rfl
theorem drop_cons {α:Type} [Inhabited α] (l:List α) (j:Nat) (h:j<l.length):l.drop j=l.getD j default::l.drop (j+1):=by
 rw [List.drop_eq_getElem_cons h];simp [List.getD_eq_getElem?_getD,h]
theorem node_get (l:List Tree) (j:Nat) (h:j<l.length):(l.map nodeD).getD j default=nodeD (l.getD j default):=by
 simp [List.getD_eq_getElem?_getD,h]
def hintsP:Nat→Hint:=fun i=>if i=16 then .own ⟨1,3⟩ else if i=100040 then .rows else .no
@[go_sem] theorem hintsP_at (i:Nat):hintsP i=if i=16 then .own ⟨1,3⟩ else if i=100040 then .rows else .no:=nrfl rfl
theorem lt_box {σ:Nv.ST} {k t:Nat} {cs:List AV} (h:stGet σ k=.box t cs):k<σ.length:=lt_of_get h (by simp)
def qsD (l:List Nat):List DV:=l.map fun (q:Nat)=>DV.int .i64 q
theorem qs_get (l:List Nat) (j:Nat) (h:j<l.length):(qsD l).getD j default=.int .i64 (l.getD j 0):=by simp [qsD,List.getD_eq_getElem?_getD,h]
theorem qs_len (l:List Nat):(qsD l).length=l.length:=by simp [qsD]
theorem sum_len:∀ (l:List Tree),(∀ x,x∈l→WF x)→2 * l.length≤(l.map sz).sum
 | [],_=>by simp
 | x::l,h=>by
  have h1:=sum_len l fun y hy=>h y (by simp [hy])
  have h2:=sz_two (h x (by simp))
  simp only [List.map_cons,List.sum_cons,List.length_cons];omega
theorem own_turn {σb:Nv.ST} {m:Nat} (X:Blk) (τ:Nv.ST) (h:m<σb.length):stGet (stSet σb m X++τ) m=X∧(∀ k,k<σb.length→k≠m→stGet (stSet σb m X++τ) k=stGet σb k)∧σb.length≤(stSet σb m X++τ).length:=by
 refine ⟨?_,fun k h1 h2=>stGet_sl h1 h2,?_⟩
 ·rw [stGet_left _ _ _ (by rw [stSet_len];exact h),stGet_set_eq h]
 ·rw [List.length_append,stSet_len];omega
end Go.Proofs.YtfnddhbiolpmgaaGreatDoor
set_option linter.unusedVariables false
set_option linter.unusedSimpArgs false
set_option maxRecDepth 100000
namespace Go.Proofs.YtfnddhbiolpmgaaGreatDoor
open Go Nv Pat
theorem copies47 (n:Tree) (ha:0≤n.min∧n.min≤1000000) (hb:n.max≤1000000):PCall Tryz.prog 45 [nodeA n] (.d (.int .i64 (copies n.min n.max))):=by
 refine fn45.pure noHint (Nat.le_refl _) (by simp only [go_sem,nodeA,nodeF,setD]) (by simp only [go_sem]) ?_
 simp (disch:=omega) only [go_sem,nodeA,nodeF,setD]
 by_cases h:n.max<0
 ·have e:((copies n.min n.max:Nat):Int)=n.min+1:=by unfold copies;rw [if_pos h];omega
  simp (disch:=omega) only [go_sem,h]
  rw [e]
 ·have e:((copies n.min n.max:Nat):Int)=n.max:=by unfold copies;rw [if_neg h];omega
  simp (disch:=omega) only [go_sem,h]
  rw [e]
theorem getD_last:∀ (qs:List Nat) (s:Nat),(s::qs).getD qs.length 0=lastD qs s
 | [],s=>rfl
 | q::qs,s=>by
  rw [lastD_cons,← getD_last qs q]
  simp [List.getD_eq_getElem?_getD]
theorem repeat_one {x:Tree} (hx:PartC x) (hwx:WF x) (set:List (Int × Int)) (A:Nat) (b:Int) (hab:0≤b→(A:Int)≤b) {σ:Nv.ST} {p:Nat} {st:St} {H:Nat→Prop} (hB:Bld σ p st H) (hO:Okb st) {s:Nat} (hs:s<st.A.length)
  (hl:st.A.length+copies A b * sz x+1≤1000000) :
  RCall Tryz.prog 48 [.ptr p 0,.d (.int .i64 s),nodeA (.mk 5 set [x] A b)] σ fun v σ'=>v=.d (.int .i64 (endR A b s (chainB (List.replicate (copies A b) fun st=>partB x st) st s s)).2) ∧
   ∃ H',Bld σ' p (endR A b s (chainB (List.replicate (copies A b) fun st=>partB x st) st s s)).1 H'∧Keeps σ H σ' H':=by
 have hx2:=sz_two hwx
 have hmul:copies A b * 2≤copies A b * sz x:=Nat.mul_le_mul_left _ hx2
 have hcA:A≤copies A b∧(A:Int)≤1000000∧b≤1000000:=by
  unfold copies at *
  by_cases h:b<0
  ·rw [if_pos h] at *;omega
  ·rw [if_neg h] at *;have:=hab (by omega);omega
 generalize hC:chainB (List.replicate (copies A b) fun st=>partB x st) st s s=C
 refine fn48.rel noHint (Nat.le_refl _) ?_
 have hcp:=copies47 (.mk 5 set [x] A b) ⟨by simp only [Tree.min];omega,by simp only [Tree.min];omega⟩ (by simp only [Tree.max];omega)
 simp only [Tree.min,Tree.max] at hcp
 generalize hc:copies A b=c at *
 simp (disch:=omega) only [go_sem,nodeA,nodeF,Tree.kind,Tree.set,Tree.sub,Tree.min,Tree.max,setD,List.map_cons,List.map_nil,apR]
 refine hcp.at ?_
 simp (disch:=omega) only [go_sem]
 obtain ⟨B5,hB5⟩:∃ B5,B5=Blk.box 39 [.d (.int .i64 5),.d (.list 2 (set.map rgD)),.d (.list 5 [nodeD x]),.d (.int .i64 (A:Int)),.d (.int .i64 b)]:=⟨_,rfl⟩
 have hb0:stGet (σ++[B5,.arr 0 ⟨1,3⟩ [.int .i64 s]]) σ.length=B5:=by simp [stGet]
 have ha0:stGet (σ++[B5,.arr 0 ⟨1,3⟩ [.int .i64 s]]) (σ.length+1)=.arr 0 ⟨1,3⟩ [.int .i64 s]:=by simp [stGet]
 have hB5d:B5≠.dead:=by rw [hB5];simp
 rw [← hB5]
 refine wL_ind (fun (j:Nat) fr σ'=>j≤c∧fr 0=.ptr p 0∧fr 5=.ptr σ.length 0∧fr 7=.own (σ.length+1) j 0 (j+1)∧fr 18=.d (.int .i64 c)∧fr 19=.d (.int .i64 j) ∧
  ∃ (stj:St) (fj:Nat) (qs:List Nat) (H':Nat→Prop),fr 8=.d (.int .i64 fj)∧stGet σ' σ.length=B5∧¬ H' σ.length∧stGet σ' (σ.length+1)=.arr j ⟨1,3⟩ (qsD (s::qs))∧¬ H' (σ.length+1)∧qs.length=j∧Bld σ' p stj H'∧Okb stj∧Keeps σ H σ' H' ∧
   (∀ q,q∈s::qs→q<stj.A.length)∧fj<stj.A.length∧stj.A.length+(c - j) * sz x+1≤1000000 ∧
   C.1=(chainB (List.replicate (c - j) fun st=>partB x st) stj (lastD qs s) fj).1∧C.2.1=qs++(chainB (List.replicate (c - j) fun st=>partB x st) stj (lastD qs s) fj).2.1∧C.2.2=(chainB (List.replicate (c - j) fun st=>partB x st) stj (lastD qs s) fj).2.2) (fun j=>c - j) ?_ 0 ?_
 ·rintro j fr σ' ⟨hj,f0,f5,f7,f18,f19,stj,fj,qs,H',f8,hbj,hbjH,hmj,hmjH,hql,hBj,hOj,hKj,hqj,hfj,hlj,hc1,hc2,hc3⟩ ih2
  have hqs:(qsD (s::qs)).length=j+1:=by rw [qs_len,List.length_cons,hql]
  have hlast:(qsD (s::qs)).getD j default=.int .i64 (lastD qs s):=by
   rw [qs_get _ _ (by simp;omega),← hql,getD_last]
  have hlm:lastD qs s∈s::qs:=by
   rw [← getD_last qs s,List.getD_eq_getElem?_getD,List.getElem?_eq_getElem (by simp)];exact List.getElem_mem _
  have hlq:=hqj _ hlm
  generalize hlz:lastD qs s=z at *
  by_cases hlt:j<c
  ·have hcj:c - j=(c - (j+1))+1:=by omega
   rw [hcj,List.replicate_succ] at hc1 hc2 hc3
   rw [hcj,Nat.add_mul] at hlj
   have hpx:=part_len hwx hOj
   have hox:Okb (partB x stj).1∧stj.A.length<(partB x stj).1.A.length∧(partB x stj).2<(partB x stj).1.A.length:=part_ok hwx stj hOj
   simp (disch:=omega) only [go_sem,f0,f5,f7,f18,f19,hlt,hbj,hB5,nodeD_eq,nodeC,apR]
   refine ⟨by simp,?_⟩
   refine (hx hBj hOj (by omega)).at ?_
   rintro v σa ⟨rfl,Ha,hBa,hKa⟩
   obtain ⟨hba,hbaH⟩:=hKa.stay hbj hB5d hbjH
   obtain ⟨hma,hmaH⟩:=hKa.stay hmj (by simp) hmjH
   have e1:((j+1:Nat):Int) - 1=j:=by omega
   have e2:(j:Int)+1 - 1=j:=by omega
   simp (disch:=omega) only [go_sem,f0,f7,hma,hqs,hlast,e1,e2,Nat.zero_add,Nat.le_refl,Nat.lt_add_one]
   refine (free49 hBa z stj.len ?_ ?_).at ?_
   ·rw [hox.1.len];omega
   ·have:=hox.1.row z;omega
   rintro v σb ⟨rfl,Hb,hBb,hKb⟩
   obtain ⟨hbb,hbbH⟩:=hKb.stay hba hB5d hbaH
   obtain ⟨hmb,hmbH⟩:=hKb.stay hma (by simp) hmaH
   have hmlb:=lt_of_get hmb (by simp)
   have hta:List.take (j+1) (qsD (s::qs))=qsD (s::qs):=List.take_of_length_le (by omega)
   have hcap:(j+1+1) * 8≤140737488355328:=by omega
   simp (disch:=omega) only [go_sem,f7,f19,hmb,hqs,hta,hcap,Nat.zero_add,Nat.le_refl,stGet_left,stSet_left,apR]
   refine ih2 (j+1) _ _ (by omega) ⟨by omega,?_,?_,?_,?_,?_,(partB x stj).1.free z stj.len,stj.len,qs++[(partB x stj).2],Hb,?_,?_,hbbH,?_,hmbH,by simp [hql],?_,hox.1.free _ hox.2.1,?_,?_,?_,?_,?_,?_,?_⟩
   ·simp (disch:=omega) only [go_sem,f0]
   ·simp (disch:=omega) only [go_sem,f5]
   ·simp (disch:=omega) only [go_sem]
   ·simp (disch:=omega) only [go_sem,f18]
   ·simp (disch:=omega) only [go_sem]
   ·simp (disch:=omega) only [go_sem]
   ·rw [(own_turn _ _ hmlb).2.1 _ (lt_of_get hbb hB5d) (by omega)];exact hbb
   ·rw [(own_turn _ _ hmlb).1];simp [qsD]
   ·exact hBb.keep (own_turn _ _ hmlb).2.2 fun k hk=>(own_turn _ _ hmlb).2.1 k (hBb.lt k hk) fun e=>hmbH (e ▸ hk)
   ·have hKk:=(hKj.trans hKa).trans hKb
    exact hKk.turn (own_turn _ _ hmlb).2.2 fun k hk=>(own_turn _ _ hmlb).2.1 k (Nat.lt_of_lt_of_le hk hKk.len) (by omega)
   ·intro q hq
    rw [free_lenA]
    rw [← List.cons_append] at hq
    rcases List.mem_append.1 hq with hq | hq
    ·have:=hqj q hq;omega
    ·rw [List.mem_singleton.1 hq];exact hox.2.2
   ·rw [free_lenA];exact hox.2.1
   ·rw [free_lenA,hpx.1];omega
   all_goals have hll:lastD (qs++[(partB x stj).2]) s=(partB x stj).2:=by simp [lastD]
   ·rw [hc1,hll];rfl
   ·rw [hc2,hll];simp only [chainB,List.append_assoc,List.singleton_append]
   ·rw [hc3,hll];rfl
  ·have hjc:j=c:=by omega
   subst hjc
   rw [Nat.sub_self,List.replicate_zero] at hc1 hc2 hc3
   simp only [chainB,List.append_nil] at hc1 hc2 hc3
   have hpl:=push_len stj
   simp (disch:=omega) only [go_sem,f0,f7,f18,f19,hlt]
   refine (state48 hBj hOj.len (by omega)).at ?_
   rintro v σa ⟨rfl,Ha,hBa,hKa⟩
   obtain ⟨hba,hbaH⟩:=hKa.stay hbj hB5d hbjH
   obtain ⟨hma,hmaH⟩:=hKa.stay hmj (by simp) hmjH
   have hAj:(A:Int)≤((j+1:Nat):Int):=by omega
   simp (disch:=omega) only [go_sem,f5,f7,hba,hB5,hma,hqs,hAj,Nat.zero_add,Nat.le_refl,Int.toNat_natCast]
   have hE:endR A b s C=((if b<0 then (frees stj.push ((s::qs).drop A) stj.len).free z fj else frees stj.push ((s::qs).drop A) stj.len),stj.len):=by
    unfold endR
    rw [hc1,hc2,hc3,hlz,Int.toNat_natCast]
   have hdl:((s::qs).drop A).length=j+1 - A:=by rw [List.length_drop,List.length_cons,hql]
   refine wL_ind (fun (i:Nat) fr τ=>i≤j+1 - A∧fr 0=.ptr p 0∧fr 5=.ptr σ.length 0∧fr 7=.own (σ.length+1) j 0 (j+1)∧fr 8=.d (.int .i64 fj)∧fr 11=.d (.int .i64 stj.len)∧fr 50=.own (σ.length+1) j A (j+1 - A)∧fr 51=.d (.int .i64 (j+1 - A:Nat))∧fr 52=.d (.int .i64 i) ∧
    ∃ (sti:St) (H2:Nat→Prop),stGet τ σ.length=B5∧¬ H2 σ.length∧stGet τ (σ.length+1)=.arr j ⟨1,3⟩ (qsD (s::qs))∧¬ H2 (σ.length+1)∧Bld τ p sti H2∧Okb sti∧Keeps σ H τ H2∧sti.A.length=stj.A.length+1∧frees stj.push ((s::qs).drop A) stj.len=frees sti (((s::qs).drop A).drop i) stj.len) (fun i=>j+1 - A - i) ?_ 0 ?_
   ·rintro i fr τ ⟨hi,f0,f5,f7,f8,f11,f50,f51,f52,sti,H2,hbt,hbtH,hmt,hmtH,hBi,hOi,hKi,hil,hfi⟩ ih3
    by_cases hlti:i<j+1 - A
    ·have hq:((s::qs).drop A).drop i=(s::qs).getD (A+i) 0::((s::qs).drop A).drop (i+1):=by
      rw [drop_cons _ i (by rw [hdl];exact hlti)]
      congr 1
      simp [List.getD_eq_getElem?_getD,List.getElem?_drop]
     have hgt:=qs_get (s::qs) (A+i) (by rw [List.length_cons];omega)
     have hqm:(s::qs).getD (A+i) 0∈s::qs:=by rw [List.getD_eq_getElem?_getD,List.getElem?_eq_getElem (by rw [List.length_cons];omega)];exact List.getElem_mem _
     have hqi:=hqj _ hqm
     rw [hq] at hfi
     generalize (s::qs).getD (A+i) 0=q at *
     have hai:A+i<j+1:=by omega
     simp (disch:=omega) only [go_sem,f0,f8,f11,f50,f51,f52,hlti,hmt,hgt,hqs,hai]
     refine (free49 hBi q stj.len ?_ ?_).at ?_
     ·rw [hOi.len,hil];omega
     ·have:=hOi.row q;omega
     rintro v σb ⟨rfl,Hb,hBb,hKb⟩
     obtain ⟨hbb,hbbH⟩:=hKb.stay hbt hB5d hbtH
     obtain ⟨hmb,hmbH⟩:=hKb.stay hmt (by simp) hmtH
     simp (disch:=omega) only [go_sem,f52]
     refine ih3 (i+1) _ _ (by omega) ⟨by omega,?_,?_,?_,?_,?_,?_,?_,?_,sti.free q stj.len,Hb,hbb,hbbH,hmb,hmbH,hBb,hOi.free _ (by simp only [St.len];omega),hKi.trans hKb,by rw [free_lenA,hil],hfi⟩
     ·simp (disch:=omega) only [go_sem,f0]
     ·simp (disch:=omega) only [go_sem,f5]
     ·simp (disch:=omega) only [go_sem,f7]
     ·simp (disch:=omega) only [go_sem,f8]
     ·simp (disch:=omega) only [go_sem,f11]
     ·simp (disch:=omega) only [go_sem,f50]
     ·simp (disch:=omega) only [go_sem,f51]
     ·simp (disch:=omega) only [go_sem]
    ·have hie:i=j+1 - A:=by omega
     subst hie
     rw [show ((s::qs).drop A).drop (j+1 - A)=[] from List.drop_of_length_le (by rw [hdl];exact Nat.le_refl _)] at hfi
     have hfi:frees stj.push ((s::qs).drop A) stj.len=sti:=hfi
     by_cases hb:b<0
     ·rw [if_pos hb] at hE
      have e1:((j+1:Nat):Int) - 1=j:=by omega
      have e2:(j:Int)+1 - 1=j:=by omega
      simp (disch:=omega) only [go_sem,f0,f5,f7,f8,f11,f50,f51,f52,hlti,hbt,hB5,hb,hmt,hqs,hlast,e1,e2,Nat.zero_add,Nat.le_refl,Nat.lt_add_one]
      refine (free49 hBi z fj ?_ ?_).at ?_
      ·rw [hOi.len,hil];omega
      ·have:=hOi.row z;omega
      rintro v σb ⟨rfl,Hb,hBb,hKb⟩
      simp (disch:=omega) only [go_sem,f11]
      rw [hE]
      refine ⟨_,rfl,rfl,Hb,?_,hKi.trans hKb⟩
      show Bld σb p ((frees stj.push ((s::qs).drop A) stj.len).free z fj) Hb
      rw [hfi];exact hBb
     ·rw [if_neg hb] at hE
      simp (disch:=omega) only [go_sem,f0,f5,f7,f8,f11,f50,f51,f52,hlti,hbt,hB5,hb]
      rw [hE]
      refine ⟨_,rfl,rfl,H2,?_,hKi⟩
      show Bld τ p (frees stj.push ((s::qs).drop A) stj.len) H2
      rw [hfi];exact hBi
   ·refine ⟨by omega,?_,?_,?_,?_,?_,?_,?_,?_,stj.push,Ha,hba,hbaH,hma,hmaH,hBa,hOj.push,hKj.trans hKa,hpl,by rw [List.drop_zero]⟩
    ·simp (disch:=omega) only [go_sem,f0]
    ·simp (disch:=omega) only [go_sem,f5]
    ·simp (disch:=omega) only [go_sem,f7]
    ·simp (disch:=omega) only [go_sem,f8]
    ·simp (disch:=omega) only [go_sem]
    ·simp (disch:=omega) only [go_sem]
    ·simp (disch:=omega) only [go_sem]
    ·simp (disch:=omega) only [go_sem]
 ·refine ⟨by omega,?_,?_,?_,?_,?_,st,s,[],H,?_,hb0,?_,?_,?_,rfl,hB.pushed _,hO,Keeps.push σ H _,?_,hs,?_,?_,?_,?_⟩
  ·simp (disch:=omega) only [go_sem]
  ·simp (disch:=omega) only [go_sem]
  ·simp (disch:=omega) only [go_sem]
  ·simp (disch:=omega) only [go_sem]
  ·simp (disch:=omega) only [go_sem]
  ·simp (disch:=omega) only [go_sem]
  ·intro h;have:=hB.lt _ h;omega
  ·rw [ha0];rfl
  ·intro h;have:=hB.lt _ h;omega
  ·intro q hq;rw [List.mem_singleton.1 hq];exact hs
  ·rw [Nat.sub_zero];exact hl
  ·rw [Nat.sub_zero,← hC];rfl
  ·rw [Nat.sub_zero,← hC];rfl
  ·rw [Nat.sub_zero,← hC];rfl
end Go.Proofs.YtfnddhbiolpmgaaGreatDoor
