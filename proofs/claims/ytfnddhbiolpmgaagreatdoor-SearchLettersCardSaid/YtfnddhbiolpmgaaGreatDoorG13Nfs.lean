/- Part of a proof about the functions of this seat. -/
import Derived.Test.YtfnddhbiolpmgaaGreatDoorG12Q56
import Derived.Test.YtfnddhbiolpmgaaGreatDoorG10Base56
set_option linter.unusedVariables false
set_option linter.unusedSimpArgs false
set_option maxRecDepth 100000
namespace Go.Proofs.YtfnddhbiolpmgaaGreatDoor
open Go Nv Pat
def chkE (n:Tree):Int:=if 120<n.nodes then 5 else chk n
theorem check13 (n:Tree) (h:Thin n):PCall Tryz.prog 29 [nodeA n] (.d (.int .i64 (chkE n))):=by
 refine fn29.pure noHint (Nat.le_refl _) (by simp only [go_sem,nodeA,nodeF,setD]) (by simp only [go_sem]) ?_
 simp (disch:=omega) only [go_sem,nodeA,nodeF]
 refine (count25 n 120 (by omega)).at ?_
 by_cases h1:120<n.nodes
 ·have e:((cnt n 120:Nat):Int)=121:=by rw [cnt];omega
  have e2:chkE n=5:=by rw [chkE,if_pos h1]
  simp (disch:=omega) only [go_sem,e,e2]
 ·have e:¬ (120:Int)<((cnt n 120:Nat):Int):=by rw [cnt];omega
  have e2:chkE n=chk n:=by rw [chkE,if_neg h1]
  simp (disch:=omega) only [go_sem,e,e2,nodeF]
  refine (check26 n (by omega) h).at ?_
  simp (disch:=omega) only [go_sem,e2]
theorem chkL_mem:∀ {l:List Tree},chkL l=0→∀ x,x∈l→chk x=0
 | y::l,h,x,hx=>by
  rw [chkL] at h
  split at h
  ·rename_i h0
   rcases List.mem_cons.1 hx with e | hx
   ·rw [e];exact h0
   ·exact chkL_mem h x hx
  ·rename_i h0;exact absurd h h0
theorem chk_ok {k:Int} {s:List (Int × Int)} {l:List Tree} {a b:Int} (h:chk (.mk k s l a b)=0):kindB k=true∧badB k s l.length a b=false∧chkL l=0:=by
 rw [chk] at h
 split at h
 ·rename_i h1
  split at h
  ·cases h
  ·rename_i h2
   exact ⟨h1,by simpa using h2,h⟩
 ·cases h
theorem take_all {α:Type} (l:List α) (n:Nat) (h:l.length=n):l.take n=l:=List.take_of_length_le (by omega)
theorem chkE_ok {n:Tree} (h:chkE n=0):n.nodes≤120∧chk n=0:=by
 unfold chkE at h
 split at h
 ·cases h
 ·exact ⟨by omega,h⟩
def runesD (l:List Int):List DV:=l.map (DV.int .i32)
@[go_sem] theorem runesD_length (l:List Int):(runesD l).length=l.length:=nrfl (by simp [runesD])
theorem stGet_app (l m:Nv.ST) (k:Nat):stGet (l++m) (List.length l+k)=stGet m k:=by
 simp [stGet,List.getD_eq_getElem?_getD,List.getElem?_append_right]
theorem stGet_app0 (l m:Nv.ST):stGet (l++m) (List.length l)=stGet m 0:=stGet_app l m 0
def bt (b:UInt8):Int:=(b.toNat:Int)
end Go.Proofs.YtfnddhbiolpmgaaGreatDoor
/- Rows of slices in a store: what they stand for,and how that is kept. No program. -/

set_option linter.unusedVariables false
set_option linter.unusedSimpArgs false
namespace Nv
open Go
theorem stGet_set {σ:ST} {b:Nat} (x:Blk) (h:b<σ.length) (k:Nat):stGet (stSet σ b x) k=if k=b then x else stGet σ k:=by
 unfold stGet stSet
 simp only [List.getD_eq_getElem?_getD,List.getElem?_set]
 by_cases hk:b=k
 ·subst hk;simp [h]
 ·simp [hk,Ne.symm hk]
theorem stGet_set_ne {σ:ST} {b k:Nat} {x:Blk} (h:k≠b):stGet (stSet σ b x) k=stGet σ k:=by
 unfold stGet stSet
 simp [List.getD_eq_getElem?_getD,List.getElem?_set,Ne.symm h]
theorem stGet_set_eq {σ:ST} {b:Nat} {x:Blk} (h:b<σ.length):stGet (stSet σ b x) b=x:=by rw [stGet_set x h,if_pos rfl]
theorem stGet_sl {σ m:ST} {b k:Nat} {x:Blk} (h:k<σ.length) (hne:k≠b):stGet (stSet σ b x++m) k=stGet σ k:=by
 rw [stGet_left _ _ _ (by simpa [stSet] using h),stGet_set_ne hne]
theorem stSet_sl {σ m:ST} {b k:Nat} {x y:Blk} (h:k<σ.length):stSet (stSet σ b x++m) k y=stSet (stSet σ b x) k y++m:=by
 rw [stSet_left _ _ _ _ (by simpa [stSet] using h)]
theorem stGet_add {l m:ST} {n:Nat} (k:Nat) (h:l.length=n):stGet (l++m) (n+k)=stGet m k:=by
 subst h
 simp [stGet,List.getD_eq_getElem?_getD,List.getElem?_append_right]
theorem stGet_old (σ τ:ST) {k:Nat} (h:k<σ.length):stGet (σ++τ) k=stGet σ k:=by simp [stGet,List.getD_eq_getElem?_getD,List.getElem?_append_left h]
theorem stSet_len (σ:ST) (b:Nat) (x:Blk):(stSet σ b x).length=σ.length:=by simp [stSet]
theorem lt_of_get {σ:ST} {b:Nat} {x:Blk} (h:stGet σ b=x) (hx:x≠.dead):b<σ.length:=by
 have:=stGet_some h hx
 exact (List.getElem?_eq_some_iff.1 this).1
def Cell (σ:ST) (e:ET) (c:AV) (ys:List DV):Prop:=(c=.d .nilslice∧ys=[])∨∃ b g n,n=ys.length∧c=.own b g 0 n∧stGet σ b=.arr g e ys
def blkOf:AV→Option Nat
 | .own b _ _ _=>some b
 | _=>none
structure Rows (σ:ST) (e:ET) (t:Nat) (b g n:Nat) (L:List (List DV)) (F:Nat→Prop) (xs:List AV):Prop where
 row:stGet σ b=.rows g t xs
 mem:F b
 len:xs.length=L.length
 num:n=L.length
 cell:∀ i,i<L.length→Cell σ e (xs.getD i .any) (L.getD i [])
 blk:∀ i k,i<L.length→blkOf (xs.getD i .any)=some k→F k
 inj:∀ i j k,i<L.length→j<L.length→blkOf (xs.getD i .any)=some k→blkOf (xs.getD j .any)=some k→i=j
def Rw (σ:ST) (e:ET) (t:Nat) (v:AV) (L:List (List DV)) (F:Nat→Prop):Prop :=
 (v=.d .nilslice∧L=[])∨∃ b g n xs,v=.rown b g 0 n∧Rows σ e t b g n L F xs
theorem Cell.keep {σ σ':ST} {e:ET} {c:AV} {ys:List DV} (h:Cell σ e c ys) (hk:∀ k,blkOf c=some k→stGet σ' k=stGet σ k):Cell σ' e c ys:=by
 rcases h with h | ⟨b,g,n,h1,rfl,h3⟩
 ·exact .inl h
 ·exact .inr ⟨b,g,n,h1,rfl,(hk b rfl).trans h3⟩
theorem Rows.keep {σ σ':ST} {e:ET} {t b g n:Nat} {L:List (List DV)} {F:Nat→Prop} {xs:List AV} (h:Rows σ e t b g n L F xs) (hk:∀ k,F k→stGet σ' k=stGet σ k):Rows σ' e t b g n L F xs :=
 ⟨(hk b h.mem).trans h.row,h.mem,h.len,h.num,fun i hi=>(h.cell i hi).keep fun k hb=>hk k (h.blk i k hi hb),h.blk,h.inj⟩
theorem Rw.keep {σ σ':ST} {e:ET} {t:Nat} {v:AV} {L:List (List DV)} {F:Nat→Prop} (h:Rw σ e t v L F) (hk:∀ k,F k→stGet σ' k=stGet σ k):Rw σ' e t v L F:=by
 rcases h with h | ⟨b,g,n,xs,h1,h2⟩
 ·exact .inl h
 ·exact .inr ⟨b,g,n,xs,h1,h2.keep hk⟩
theorem getD_app_left {α:Type} {l m:List α} {i:Nat} {d:α} (h:i<l.length):(l++m).getD i d=l.getD i d:=by simp [List.getD_eq_getElem?_getD,List.getElem?_append_left h]
theorem getD_app_last {α:Type} {l:List α} {x d:α} {i:Nat} (h:i=l.length):(l++[x]).getD i d=x:=by subst h;simp [List.getD_eq_getElem?_getD]
theorem getD_set_ne {α:Type} {l:List α} {i j:Nat} {x d:α} (h:i≠j):(l.set i x).getD j d=l.getD j d:=by simp [List.getD_eq_getElem?_getD,List.getElem?_set,h]
theorem getD_set_eq {α:Type} {l:List α} {i:Nat} {x d:α} (h:i<l.length):(l.set i x).getD i d=x:=by simp [List.getD_eq_getElem?_getD,h]
theorem Rows.one {σ:ST} {e:ET} {t b g:Nat} {F:Nat→Prop} (h:stGet σ b=.rows g t [.d .nilslice]) (hF:F b):Rows σ e t b g 1 [[]] F [.d .nilslice]:=by
 refine ⟨h,hF,rfl,rfl,fun i hi=>?_,fun i k hi hb=>?_,fun i j k hi hj h1 h2=>?_⟩
 ·obtain rfl:i=0:=by simp at hi;omega
  exact .inl ⟨rfl,rfl⟩
 ·obtain rfl:i=0:=by simp at hi;omega
  cases hb
 ·obtain rfl:i=0:=by simp at hi;omega
  cases h1
theorem Rows.push {σ σ':ST} {e:ET} {t b g g' n:Nat} {L:List (List DV)} {F:Nat→Prop} {xs:List AV} (h:Rows σ e t b g n L F xs) (hr:stGet σ' b=.rows g' t (xs++[.d .nilslice]))
  (hk:∀ k,F k→k≠b→stGet σ' k=stGet σ k):Rows σ' e t b g' (n+1) (L++[[]]) F (xs++[.d .nilslice]):=by
 have hne:∀ i,i<L.length→∀ k,blkOf (xs.getD i .any)=some k→k≠b:=by
  intro i hi k hb e
  subst e
  rcases h.cell i hi with ⟨h1,_⟩ | ⟨b',g1,n1,_,h1,h2⟩
  ·rw [h1] at hb;cases hb
  ·rw [h1] at hb
   simp only [blkOf,Option.some.injEq] at hb
   subst hb
   rw [h.row] at h2;cases h2
 have hl:=h.len
 have old:∀ i,i<L.length→(xs++[AV.d .nilslice]).getD i .any=xs.getD i .any:=fun i hi=>getD_app_left (by omega)
 have new:∀ i,i=L.length→(xs++[AV.d .nilslice]).getD i .any=.d .nilslice:=fun i hi=>getD_app_last (by omega)
 have lt:∀ i,i<(L++[[]]).length→i<L.length∨i=L.length:=fun i hi=>by simp at hi;omega
 refine ⟨hr,h.mem,by simp [hl],by simp [h.num],fun i hi=>?_,fun i k hi hb=>?_,fun i j k hi hj h1 h2=>?_⟩
 ·rcases lt i hi with h1 | h1
  ·rw [old i h1,getD_app_left h1]
   exact (h.cell i h1).keep fun k hb=>hk k (h.blk i k h1 hb) (hne i h1 k hb)
  ·rw [new i h1,getD_app_last h1];exact .inl ⟨rfl,rfl⟩
 ·rcases lt i hi with h1 | h1
  ·rw [old i h1] at hb;exact h.blk i k h1 hb
  ·rw [new i h1] at hb;cases hb
 ·rcases lt i hi with k1 | k1
  ·rcases lt j hj with k2 | k2
   ·rw [old i k1] at h1;rw [old j k2] at h2;exact h.inj i j k k1 k2 h1 h2
   ·rw [new j k2] at h2;cases h2
  ·rw [new i k1] at h1;cases h1
theorem Rows.write {σ σ':ST} {e:ET} {t b g n i:Nat} {L:List (List DV)} {F F':Nat→Prop} {xs:List AV} (h:Rows σ e t b g n L F xs) (hi:i<L.length) {c:AV} {ys:List DV} (hr:stGet σ' b=.rows g t (xs.set i c))
  (hc:Cell σ' e c ys) (hF:∀ k,F k→F' k) (hb:∀ k,blkOf c=some k→F' k∧(¬ F k∨blkOf (xs.getD i .any)=some k))
  (hk:∀ k,F k→k≠b→blkOf (xs.getD i .any)≠some k→stGet σ' k=stGet σ k):Rows σ' e t b g n (L.set i ys) F' (xs.set i c):=by
 have hne:∀ i,i<L.length→∀ k,blkOf (xs.getD i .any)=some k→k≠b:=by
  intro i hi k hb e
  subst e
  rcases h.cell i hi with ⟨h1,_⟩ | ⟨b',g1,n1,_,h1,h2⟩
  ·rw [h1] at hb;cases hb
  ·rw [h1] at hb
   simp only [blkOf,Option.some.injEq] at hb
   subst hb
   rw [h.row] at h2;cases h2
 have hl:=h.len
 have here:(xs.set i c).getD i .any=c:=getD_set_eq (by omega)
 have there:∀ j,j≠i→(xs.set i c).getD j .any=xs.getD j .any:=fun j hj=>getD_set_ne (Ne.symm hj)
 refine ⟨hr,hF _ h.mem,by simp [hl],by simp [h.num],fun j hj=>?_,fun j k hj hbk=>?_,fun p q k hp hq h1 h2=>?_⟩
 ·rw [List.length_set] at hj
  by_cases hji:j=i
  ·subst hji;rw [here,getD_set_eq hj];exact hc
  ·rw [there j hji,getD_set_ne (Ne.symm hji)]
   refine (h.cell j hj).keep fun k hbk=>hk k (h.blk j k hj hbk) (hne j hj k hbk) fun hik=>hji (h.inj j i k hj hi hbk hik)
 ·rw [List.length_set] at hj
  by_cases hji:j=i
  ·subst hji;rw [here] at hbk;exact (hb k hbk).1
  ·rw [there j hji] at hbk;exact hF _ (h.blk j k hj hbk)
 ·rw [List.length_set] at hp hq
  by_cases hpi:p=i
  ·by_cases hqi:q=i
   ·rw [hpi,hqi]
   ·rw [hpi,here] at h1;rw [there q hqi] at h2
    rcases (hb k h1).2 with h3 | h3
    ·exact absurd (h.blk q k hq h2) h3
    ·exact absurd (h.inj q i k hq hi h2 h3) hqi
  ·by_cases hqi:q=i
   ·rw [hqi,here] at h2;rw [there p hpi] at h1
    rcases (hb k h2).2 with h3 | h3
    ·exact absurd (h.blk p k hp h1) h3
    ·exact absurd (h.inj p i k hp hi h1 h3) hpi
   ·rw [there p hpi] at h1;rw [there q hqi] at h2
    exact h.inj p q k hp hq h1 h2
def rowsD (q:Nat) (L:List (List DV)):DV:=.list 1 (L.map (DV.list q))
theorem freeze_cells (q:Nat) {e:ET}:∀ (xs:List AV) (L:List (List DV)) (σ:ST),e.n=q→xs.length=L.length→(∀ i,i<L.length→Cell σ e (xs.getD i .any) (L.getD i [])) →
  (∀ i j k,i<L.length→j<L.length→blkOf (xs.getD i .any)=some k→blkOf (xs.getD j .any)=some k→i=j)→∃ σ',freezeCells q xs σ=some (L.map (DV.list q),σ')∧σ'.length=σ.length ∧
  ∀ k,(∀ i,i<L.length→blkOf (xs.getD i .any)≠some k)→stGet σ' k=stGet σ k
 | [],L,σ,_,hl,_,_=>by
  obtain rfl:L=[]:=List.length_eq_zero_iff.1 hl.symm
  exact ⟨σ,rfl,rfl,fun k _=>rfl⟩
 | c::xs,[],σ,_,hl,_,_=>by simp at hl
 | c::xs,ys::L,σ,he,hl,hc,hi=>by
  have hc':∀ i,i<L.length→Cell σ e (xs.getD i .any) (L.getD i []):=fun i h=>by have:=hc (i+1) (by simp;omega);simpa using this
  have hi':∀ i j k,i<L.length→j<L.length→blkOf (xs.getD i .any)=some k→blkOf (xs.getD j .any)=some k→i=j:=fun i j k h1 h2 h3 h4=>by
   have:=hi (i+1) (j+1) k (by simp;omega) (by simp;omega) (by simpa using h3) (by simpa using h4)
   omega
  have h0:Cell σ e c ys:=by have:=hc 0 (by simp);simpa using this
  rcases h0 with ⟨rfl,rfl⟩ | ⟨b,g,n,hn,rfl,hb⟩
  ·obtain ⟨σ',h1,h2,h3⟩:=freeze_cells q xs L σ he (by simpa using hl) hc' hi'
   refine ⟨σ',by simp [freezeCells,h1],h2,fun k hk=>h3 k fun i h=>?_⟩
   have:=hk (i+1) (by simp;omega)
   simpa using this
  ·have hlt:=lt_of_get hb (by simp)
   have away:∀ i,i<L.length→blkOf (xs.getD i .any)≠some b:=fun i h hb'=>by
    have:=hi 0 (i+1) b (by simp) (by simp;omega) rfl (by simpa using hb')
    omega
   obtain ⟨σ',h1,h2,h3⟩:=freeze_cells q xs L (stSet σ b .dead) he (by simpa using hl) (fun i h=>(hc' i h).keep fun k hb'=>by
    rw [stGet_set _ hlt,if_neg]
    intro e;subst e;exact away i h hb') hi'
   refine ⟨σ',?_,by rw [h2,stSet_len],fun k hk=>?_⟩
   ·have ht:List.take n (List.drop 0 ys)=ys:=by rw [List.drop_zero,hn,List.take_length]
    simp only [freezeCells,hb]
    rw [if_pos ⟨by simp,by omega⟩,h1,ht,he];rfl
   ·have hkb:k≠b:=fun e=>by subst e;exact absurd rfl (hk 0 (by simp))
    rw [h3 k fun i h=>by have:=hk (i+1) (by simp;omega);simpa using this,stGet_set _ hlt,if_neg hkb]
theorem Rows.deep {σ:ST} {e:ET} {t b g n:Nat} {L:List (List DV)} {F:Nat→Prop} {xs:List AV} (h:Rows σ e t b g n L F xs) :
  ∃ σ',freezeCells e.n xs σ=some (L.map (DV.list e.n),σ')∧σ'.length=σ.length∧∀ k,¬ F k→stGet σ' k=stGet σ k:=by
 obtain ⟨σ',h1,h2,h3⟩:=freeze_cells e.n xs L σ rfl h.len h.cell h.inj
 exact ⟨σ',h1,h2,fun k hk=>h3 k fun i hi hb=>hk (h.blk i k hi hb)⟩
structure TwoP (pre:List AV) (σ:ST) (p T:Nat) (eA eE:ET) (tA tE:Nat) (A E:List (List DV)) (va ve:AV) (F G:Nat→Prop) (H:Nat→Prop):Prop where
 box:stGet σ p=.box T (pre++[va,ve])
 a:Rw σ eA tA va A F
 e:Rw σ eE tE ve E G
 dis:∀ k,F k→¬ G k
 np:¬ F p∧¬ G p
 fh:∀ k,F k→H k
 gh:∀ k,G k→H k
 hp:H p
 lt:∀ k,H k→k<σ.length
abbrev Two (σ:ST) (p T:Nat) (eA eE:ET) (tA tE:Nat) (A E:List (List DV)) (va ve:AV) (F G:Nat→Prop) (H:Nat→Prop):Prop:=TwoP [] σ p T eA eE tA tE A E va ve F G H
theorem Two.box {σ:ST} {p T:Nat} {eA eE:ET} {tA tE:Nat} {A E:List (List DV)} {va ve:AV} {F G H:Nat→Prop} (h:Two σ p T eA eE tA tE A E va ve F G H):stGet σ p=.box T [va,ve]:=TwoP.box h
structure Keeps (σ:ST) (H:Nat→Prop) (σ':ST) (H':Nat→Prop):Prop where
 len:σ.length≤σ'.length
 old:∀ k,k<σ.length→¬ H k→stGet σ' k=stGet σ k
 new:∀ k,H' k→H k∨σ.length≤k
theorem Keeps.refl (σ:ST) (H:Nat→Prop):Keeps σ H σ H:=⟨Nat.le_refl _,fun _ _ _=>rfl,fun _ h=>.inl h⟩
theorem Keeps.trans {σ σ1 σ2:ST} {H H1 H2:Nat→Prop} (h:Keeps σ H σ1 H1) (h':Keeps σ1 H1 σ2 H2):Keeps σ H σ2 H2 :=
 ⟨Nat.le_trans h.len h'.len,fun k hk hH=>(h'.old k (Nat.lt_of_lt_of_le hk h.len) fun h1=>(h.new k h1).elim hH (by omega)).trans (h.old k hk hH),
  fun k hk=>(h'.new k hk).elim (h.new k) fun h1=>.inr (Nat.le_trans h.len h1)⟩
theorem Keeps.push (σ:ST) (H:Nat→Prop) (τ:ST):Keeps σ H (σ++τ) H:=⟨by simp,fun k hk _=>stGet_old σ τ hk,fun _ h=>.inl h⟩
theorem TwoP.keep {σ σ':ST} {p T:Nat} {eA eE:ET} {tA tE:Nat} {A E:List (List DV)} {va ve:AV} {F G H:Nat→Prop} {pre:List AV} (h:TwoP pre σ p T eA eE tA tE A E va ve F G H) (hl:σ.length≤σ'.length) (hk:∀ k,H k→stGet σ' k=stGet σ k) :
  TwoP pre σ' p T eA eE tA tE A E va ve F G H :=
 ⟨(hk p h.hp).trans h.box,h.a.keep fun k hF=>hk k (h.fh k hF),h.e.keep fun k hG=>hk k (h.gh k hG),h.dis,h.np,h.fh,h.gh,h.hp,fun k hH=>Nat.lt_of_lt_of_le (h.lt k hH) hl⟩
theorem TwoP.pushed {σ:ST} {p T:Nat} {eA eE:ET} {tA tE:Nat} {A E:List (List DV)} {va ve:AV} {F G H:Nat→Prop} {pre:List AV} (h:TwoP pre σ p T eA eE tA tE A E va ve F G H) (τ:ST):TwoP pre (σ++τ) p T eA eE tA tE A E va ve F G H :=
 h.keep (by simp) fun k hk=>stGet_old σ τ (h.lt k hk)
end Nv
/- A box of two rows of slices: how it grows. No program. -/

set_option linter.unusedVariables false
set_option linter.unusedSimpArgs false
namespace Nv
open Go
variable {σ σ':ST} {p T:Nat} {eA eE:ET} {tA tE:Nat} {A E:List (List DV)} {va ve:AV} {F G H:Nat→Prop} {pre:List AV}
theorem TwoP.swapK (h:TwoP pre σ p T eA eE tA tE A E va ve F G H) (hk:∀ k,H k→k≠p→stGet σ' k=stGet σ k):(Rw σ' eA tA va A F)∧Rw σ' eE tE ve E G :=
 ⟨h.a.keep fun k hF=>hk k (h.fh k hF) fun e=>h.np.1 (e ▸ hF),h.e.keep fun k hG=>hk k (h.gh k hG) fun e=>h.np.2 (e ▸ hG)⟩
theorem TwoP.newA {b g:Nat} (h:TwoP pre σ p T eA eE tA tE [] E va ve F G H) (hb:stGet σ' b=.rows g tA [.d .nilslice]) (h1:σ.length≤b) (h2:b<σ'.length) (hp:stGet σ' p=.box T (pre++[.rown b g 0 1,ve]))
  (hk:∀ k,H k→k≠p→stGet σ' k=stGet σ k) (hl:σ.length≤σ'.length):TwoP pre σ' p T eA eE tA tE [[]] E (.rown b g 0 1) ve (fun k=>k=b) G (fun k=>H k∨k=b) where
 box:=hp
 a:=.inr ⟨b,g,1,_,rfl,.one hb rfl⟩
 e:=(h.swapK hk).2
 dis k e hG:=by subst e;have:=h.lt _ (h.gh _ hG);omega
 np:=⟨fun e=>by have:=h.lt _ h.hp;omega,h.np.2⟩
 fh k e:=.inr e
 gh k hG:=.inl (h.gh k hG)
 hp:=.inl h.hp
 lt k hH:=by rcases hH with hH | rfl;have:=h.lt k hH;omega;exact h2
theorem TwoP.newE {b g:Nat} (h:TwoP pre σ p T eA eE tA tE A [] va ve F G H) (hb:stGet σ' b=.rows g tE [.d .nilslice]) (h1:σ.length≤b) (h2:b<σ'.length) (hp:stGet σ' p=.box T (pre++[va,.rown b g 0 1]))
  (hk:∀ k,H k→k≠p→stGet σ' k=stGet σ k) (hl:σ.length≤σ'.length):TwoP pre σ' p T eA eE tA tE A [[]] va (.rown b g 0 1) F (fun k=>k=b) (fun k=>H k∨k=b) where
 box:=hp
 a:=(h.swapK hk).1
 e:=.inr ⟨b,g,1,_,rfl,.one hb rfl⟩
 dis k hF e:=by subst e;have:=h.lt _ (h.fh _ hF);omega
 np:=⟨h.np.1,fun e=>by have:=h.lt _ h.hp;omega⟩
 fh k hF:=.inl (h.fh k hF)
 gh k e:=.inr e
 hp:=.inl h.hp
 lt k hH:=by rcases hH with hH | rfl;have:=h.lt k hH;omega;exact h2
theorem TwoP.moreA {b g g' n:Nat} {xs:List AV} (h:TwoP pre σ p T eA eE tA tE A E va ve F G H) (hr:Rows σ eA tA b g n A F xs) (hb:stGet σ' b=.rows g' tA (xs++[.d .nilslice])) (hp:stGet σ' p=.box T (pre++[.rown b g' 0 (n+1),ve]))
  (hk:∀ k,H k→k≠p→k≠b→stGet σ' k=stGet σ k) (hl:σ.length≤σ'.length):TwoP pre σ' p T eA eE tA tE (A++[[]]) E (.rown b g' 0 (n+1)) ve F G H where
 box:=hp
 a:=.inr ⟨b,g',n+1,_,rfl,hr.push hb fun k hF hkb=>hk k (h.fh k hF) (fun e=>h.np.1 (e ▸ hF)) hkb⟩
 e:=h.e.keep fun k hG=>hk k (h.gh k hG) (fun e=>h.np.2 (e ▸ hG)) (fun e=>h.dis b hr.mem (e ▸ hG))
 dis:=h.dis
 np:=h.np
 fh:=h.fh
 gh:=h.gh
 hp:=h.hp
 lt k hH:=Nat.lt_of_lt_of_le (h.lt k hH) hl
theorem TwoP.moreE {b g g' n:Nat} {xs:List AV} (h:TwoP pre σ p T eA eE tA tE A E va ve F G H) (hr:Rows σ eE tE b g n E G xs) (hb:stGet σ' b=.rows g' tE (xs++[.d .nilslice])) (hp:stGet σ' p=.box T (pre++[va,.rown b g' 0 (n+1)]))
  (hk:∀ k,H k→k≠p→k≠b→stGet σ' k=stGet σ k) (hl:σ.length≤σ'.length):TwoP pre σ' p T eA eE tA tE A (E++[[]]) va (.rown b g' 0 (n+1)) F G H where
 box:=hp
 a:=h.a.keep fun k hF=>hk k (h.fh k hF) (fun e=>h.np.1 (e ▸ hF)) (fun e=>h.dis k hF (e ▸ hr.mem))
 e:=.inr ⟨b,g',n+1,_,rfl,hr.push hb fun k hG hkb=>hk k (h.gh k hG) (fun e=>h.np.2 (e ▸ hG)) hkb⟩
 dis:=h.dis
 np:=h.np
 fh:=h.fh
 gh:=h.gh
 hp:=h.hp
 lt k hH:=Nat.lt_of_lt_of_le (h.lt k hH) hl
theorem TwoP.writeA {b g n i:Nat} {xs:List AV} {c:AV} {ys:List DV} {q:Nat} (h:TwoP pre σ p T eA eE tA tE A E va ve F G H) (hr:Rows σ eA tA b g n A F xs) (hi:i<A.length) (hb:stGet σ' b=.rows g tA (xs.set i c))
  (hc:Cell σ' eA c ys) (hq:blkOf c=some q) (hn:(σ.length≤q∧q<σ'.length)∨blkOf (xs.getD i .any)=some q) (hv:va=.rown b g 0 n)
  (hk:∀ k,H k→k≠b→blkOf (xs.getD i .any)≠some k→stGet σ' k=stGet σ k) (hl:σ.length≤σ'.length):TwoP pre σ' p T eA eE tA tE (A.set i ys) E va ve (fun k=>F k∨k=q) G (fun k=>H k∨k=q):=by
 have hFq:∀ k,blkOf (xs.getD i .any)=some k→F k:=fun k hb=>hr.blk i k hi hb
 have hpb:p≠b:=fun e=>h.np.1 (e ▸ hr.mem)
 have hlt:q<σ'.length:=by
  rcases hn with hn | hn
  ·exact hn.2
  ·exact Nat.lt_of_lt_of_le (h.lt q (h.fh q (hFq q hn))) hl
 refine ⟨(hk p h.hp hpb fun e=>h.np.1 (hFq p e)).trans h.box,.inr ⟨b,g,n,_,hv,hr.write hi hb hc (fun k hF=>.inl hF) (fun k hbk=>?_) fun k hF hkb hbk=>hk k (h.fh k hF) hkb hbk⟩,?_,?_,⟨?_,h.np.2⟩,?_,fun k hG=>.inl (h.gh k hG),.inl h.hp,?_⟩
 ·rw [hq] at hbk;cases hbk
  refine ⟨.inr rfl,?_⟩
  rcases hn with hn | hn
  ·exact .inl fun hF=>by have:=h.lt _ (h.fh _ hF);omega
  ·exact .inr hn
 ·exact h.e.keep fun k hG=>hk k (h.gh k hG) (fun e=>h.dis b hr.mem (e ▸ hG)) (fun e=>h.dis k (hFq k e) hG)
 ·rintro k (hF | rfl) hG
  ·exact h.dis k hF hG
  ·rcases hn with hn | hn
   ·have:=h.lt _ (h.gh _ hG);omega
   ·exact h.dis _ (hFq _ hn) hG
 ·rintro (hF | rfl)
  ·exact h.np.1 hF
  ·rcases hn with hn | hn
   ·have:=h.lt _ h.hp;omega
   ·exact h.np.1 (hFq _ hn)
 ·rintro k (hF | rfl)
  ·exact .inl (h.fh k hF)
  ·exact .inr rfl
 ·rintro k (hH | rfl)
  ·exact Nat.lt_of_lt_of_le (h.lt k hH) hl
  ·exact hlt
theorem TwoP.writeE {b g n i:Nat} {xs:List AV} {c:AV} {ys:List DV} {q:Nat} (h:TwoP pre σ p T eA eE tA tE A E va ve F G H) (hr:Rows σ eE tE b g n E G xs) (hi:i<E.length) (hb:stGet σ' b=.rows g tE (xs.set i c))
  (hc:Cell σ' eE c ys) (hq:blkOf c=some q) (hn:(σ.length≤q∧q<σ'.length)∨blkOf (xs.getD i .any)=some q) (hv:ve=.rown b g 0 n)
  (hk:∀ k,H k→k≠b→blkOf (xs.getD i .any)≠some k→stGet σ' k=stGet σ k) (hl:σ.length≤σ'.length):TwoP pre σ' p T eA eE tA tE A (E.set i ys) va ve F (fun k=>G k∨k=q) (fun k=>H k∨k=q):=by
 have hGq:∀ k,blkOf (xs.getD i .any)=some k→G k:=fun k hb=>hr.blk i k hi hb
 have hpb:p≠b:=fun e=>h.np.2 (e ▸ hr.mem)
 have hlt:q<σ'.length:=by
  rcases hn with hn | hn
  ·exact hn.2
  ·exact Nat.lt_of_lt_of_le (h.lt q (h.gh q (hGq q hn))) hl
 refine ⟨(hk p h.hp hpb fun e=>h.np.2 (hGq p e)).trans h.box,?_,.inr ⟨b,g,n,_,hv,hr.write hi hb hc (fun k hF=>.inl hF) (fun k hbk=>?_) fun k hG hkb hbk=>hk k (h.gh k hG) hkb hbk⟩,?_,⟨h.np.1,?_⟩,fun k hF=>.inl (h.fh k hF),?_,.inl h.hp,?_⟩
 ·exact h.a.keep fun k hF=>hk k (h.fh k hF) (fun e=>h.dis k hF (e ▸ hr.mem)) (fun e=>h.dis k hF (hGq k e))
 ·rw [hq] at hbk;cases hbk
  refine ⟨.inr rfl,?_⟩
  rcases hn with hn | hn
  ·exact .inl fun hG=>by have:=h.lt _ (h.gh _ hG);omega
  ·exact .inr hn
 ·rintro k hF (hG | rfl)
  ·exact h.dis k hF hG
  ·rcases hn with hn | hn
   ·have:=h.lt _ (h.fh _ hF);omega
   ·exact h.dis _ hF (hGq _ hn)
 ·rintro (hG | rfl)
  ·exact h.np.2 hG
  ·rcases hn with hn | hn
   ·have:=h.lt _ h.hp;omega
   ·exact h.np.2 (hGq _ hn)
 ·rintro k (hG | rfl)
  ·exact .inl (h.gh k hG)
  ·exact .inr rfl
 ·rintro k (hH | rfl)
  ·exact Nat.lt_of_lt_of_le (h.lt k hH) hl
  ·exact hlt
theorem Keeps.turn {σ σ1 σ2:ST} {H H':Nat→Prop} (h:Keeps σ H σ1 H') (hl:σ1.length≤σ2.length) (hk:∀ k,k<σ.length→stGet σ2 k=stGet σ1 k):Keeps σ H σ2 H' :=
 ⟨Nat.le_trans h.len hl,fun k h1 h2=>(hk k h1).trans (h.old k h1 h2),h.new⟩
theorem Keeps.more {σ σ1:ST} {H H':Nat→Prop} (h:Keeps σ H σ1 H') (τ:ST):Keeps σ H (σ1++τ) H':=h.turn (by simp) fun k hk=>stGet_old σ1 τ (Nat.lt_of_lt_of_le hk h.len)
theorem Keeps.stay {σ σ1:ST} {H H':Nat→Prop} (h:Keeps σ H σ1 H') {k:Nat} {b:Blk} (hb:stGet σ k=b) (hd:b≠.dead) (hH:¬ H k):stGet σ1 k=b∧¬ H' k:=by
 have hlt:=lt_of_get hb hd
 exact ⟨(h.old k hlt hH).trans hb,fun h'=>(h.new k h').elim hH (by omega)⟩
end Nv
/- Automata of trees: how they are built,by the program and by the reference,and what they hold. Plain: no program. -/

set_option linter.unusedVariables false
set_option linter.unusedSimpArgs false
namespace Pat
abbrev Arc:=Int × Int × Int
structure St where
 A:List (List Arc)
 E:List (List Int)
namespace St
def len (s:St):Nat:=s.A.length
def push (s:St):St:=⟨s.A++[[]],s.E++[[]]⟩
def arc (s:St) (f t:Nat) (set:List (Int × Int)):St:=⟨s.A.set f (s.A.getD f []++set.map fun r=>(r.1,r.2,(t:Int))),s.E⟩
end St
def addE (E:List (List Int)) (f t:Nat):List (List Int):=if (t:Int)∈E.getD f [] then E else E.set f (E.getD f []++[(t:Int)])
def St.free (s:St) (f t:Nat):St:=⟨s.A,addE s.E f t⟩
def copies (a b:Int):Nat:=(if b<0 then a+1 else b).toNat
def chainB:List (St→St × Nat)→St→Nat→Nat→St × List Nat × Nat
 | [],st,_,first=>(st,[],first)
 | f::l,st,at',_=>((chainB l ((f st).1.free at' st.len) (f st).2 st.len).1,(f st).2::(chainB l ((f st).1.free at' st.len) (f st).2 st.len).2.1,(chainB l ((f st).1.free at' st.len) (f st).2 st.len).2.2)
def fanB:List (St→St × Nat)→St→Nat→St × List Nat
 | [],st,_=>(st,[])
 | f::l,st,s=>((fanB l ((f st).1.free s st.len) s).1,(f st).2::(fanB l ((f st).1.free s st.len) s).2)
def frees (st:St) (l:List Nat) (t:Nat):St:=l.foldl (fun x q=>x.free q t) st
def lastD (l:List Nat) (s:Nat):Nat:=l.getLastD s
mutual
def partB:Tree→St→St × Nat
 | .mk k set sub a b,st =>
  if k=2 then (st.push.push.arc st.len (st.len+1) set,st.len+1)
  else if k=3 then
   (((chainB (partsB sub) st.push st.len st.len).1.push.free (lastD (chainB (partsB sub) st.push st.len st.len).2.1 st.len) (chainB (partsB sub) st.push st.len st.len).1.len),(chainB (partsB sub) st.push st.len st.len).1.len)
  else if k=4 then
   (frees (fanB (partsB sub) st.push st.len).1.push (fanB (partsB sub) st.push st.len).2 (fanB (partsB sub) st.push st.len).1.len,(fanB (partsB sub) st.push st.len).1.len)
  else if k=5 then endR a b st.len (chainB (List.replicate (copies a b) ((partsB sub).headD fun x=>(x,0))) st.push st.len st.len)
  else (st.push.push.free st.len (st.len+1),st.len+1)
def partsB:List Tree→List (St→St × Nat)
 | []=>[]
 | x::l=>(fun st=>partB x st)::partsB l
def endR (a b:Int) (s:Nat) (r:St × List Nat × Nat):St × Nat :=
 (if b<0 then (frees r.1.push ((s::r.2.1).drop a.toNat) r.1.len).free (lastD r.2.1 s) r.2.2 else frees r.1.push ((s::r.2.1).drop a.toNat) r.1.len,r.1.len)
end
theorem partsB_map (l:List Tree):partsB l=l.map fun x st=>partB x st:=by
 induction l with
 | nil=>rfl
 | cons x l ih=>rw [partsB,ih];rfl
/- What a part holds. -/
mutual
def sz:Tree→Nat
 | .mk k _ sub a b=>if k=5 then 2+copies a b * (szs sub).headD 0 else 2+(szs sub).sum
def szs:List Tree→List Nat
 | []=>[]
 | x::l=>sz x::szs l
end
theorem szs_map (l:List Tree):szs l=l.map sz:=by
 induction l with
 | nil=>rfl
 | cons x l ih=>rw [szs,ih];rfl
def items:Tree→List Tree
 | .mk k _ sub a b=>if k=5 then List.replicate (copies a b) (sub.headD default) else sub
def fst (xs:List Tree) (o i:Nat):Nat:=o+((xs.take i).map sz).sum
def lst (xs:List Tree) (o i:Nat):Nat:=fst xs o (i+1) - 1
def pt (xs:List Tree) (o s i:Nat):Nat:=if i=0 then s else lst xs o (i - 1)
inductive WF:Tree→Prop
 | mk {k:Int} {set:List (Int × Int)} {sub:List Tree} {a b:Int}:(k=1∨k=2∨k=3∨k=4∨k=5)→(k=1∨k=2→sub=[])→(k=5→∃ x,sub=[x]∧0≤a∧(0≤b→a≤b))→(∀ x,x∈sub→WF x)→WF (.mk k set sub a b)
theorem sz_eq {n:Tree} (h:WF n):sz n=2+((items n).map sz).sum:=by
 cases h with
 | @mk k set sub a b h1 h2 h3 h4 =>
  rw [sz,szs_map]
  by_cases h5:k=5
  ·obtain ⟨x,rfl,_⟩:=h3 h5
   rw [if_pos h5]
   simp [items,h5,List.sum_replicate_nat]
  ·rw [if_neg h5];simp [items,h5]
theorem items_wf {n:Tree} (h:WF n):∀ x,x∈items n→WF x:=by
 cases h with
 | @mk k set sub a b h1 h2 h3 h4 =>
  intro x hx
  by_cases h5:k=5
  ·obtain ⟨y,rfl,_⟩:=h3 h5
   simp only [items,h5,if_true,List.headD_cons] at hx
   rw [(List.mem_replicate.1 hx).2]
   exact h4 y (by simp)
  ·simp only [items,h5,if_false] at hx
   exact h4 x hx
theorem sz_two {n:Tree} (h:WF n):2≤sz n:=by rw [sz_eq h];omega
def Own:Tree→Nat→Nat→Nat→Prop
 | .mk k set sub a b,o,r,t =>
  if k=2 then False
  else if k=3 then (∃ i,i<(items (.mk k set sub a b)).length∧r=pt (items (.mk k set sub a b)) (o+1) o i∧t=fst (items (.mk k set sub a b)) (o+1) i) ∨
   (r=pt (items (.mk k set sub a b)) (o+1) o (items (.mk k set sub a b)).length∧t=fst (items (.mk k set sub a b)) (o+1) (items (.mk k set sub a b)).length)
  else if k=4 then ∃ i,i<(items (.mk k set sub a b)).length∧((r=o∧t=fst (items (.mk k set sub a b)) (o+1) i) ∨
   (r=lst (items (.mk k set sub a b)) (o+1) i∧t=fst (items (.mk k set sub a b)) (o+1) (items (.mk k set sub a b)).length))
  else if k=5 then (∃ i,i<(items (.mk k set sub a b)).length∧r=pt (items (.mk k set sub a b)) (o+1) o i∧t=fst (items (.mk k set sub a b)) (o+1) i) ∨
   (∃ i,a.toNat≤i∧i≤(items (.mk k set sub a b)).length∧r=pt (items (.mk k set sub a b)) (o+1) o i∧t=fst (items (.mk k set sub a b)) (o+1) (items (.mk k set sub a b)).length) ∨
   (b<0∧r=pt (items (.mk k set sub a b)) (o+1) o (items (.mk k set sub a b)).length∧t=fst (items (.mk k set sub a b)) (o+1) ((items (.mk k set sub a b)).length - 1))
  else r=o∧t=fst (items (.mk k set sub a b)) (o+1) (items (.mk k set sub a b)).length
inductive Ed:Tree→Nat→Nat→Nat→Prop
 | own {n:Tree} {o r t:Nat}:Own n o r t→Ed n o r t
 | sub {n x:Tree} {o r t i:Nat}:(items n)[i]? = some x→Ed x (fst (items n) (o+1) i) r t→Ed n o r t
mutual
def rowsA:Tree→Nat→List (List Arc)
 | .mk k set sub a b,o =>
  if k=2 then [set.map fun r=>(r.1,r.2,((o+1:Nat):Int)),[]]
  else []::(catA (if k=5 then List.replicate (copies a b) ((rowsL sub).headD fun _=>[]) else rowsL sub) (o+1)++[[]])
def rowsL:List Tree→List (Nat→List (List Arc))
 | []=>[]
 | x::l=>(fun o=>rowsA x o)::rowsL l
def catA:List (Nat→List (List Arc))→Nat→List (List Arc)
 | [],_=>[]
 | f::l,o=>f o++catA l (o+(f o).length)
end
theorem rowsL_map (l:List Tree):rowsL l=l.map fun x o=>rowsA x o:=by
 induction l with
 | nil=>rfl
 | cons x l ih=>rw [rowsL,ih];rfl
end Pat
/- What the program's parts come to. Plain: no program. -/

set_option linter.unusedVariables false
set_option linter.unusedSimpArgs false
namespace Pat
theorem fst_zero (xs:List Tree) (o:Nat):fst xs o 0=o:=by simp [fst]
theorem fst_cons (x:Tree) (xs:List Tree) (o i:Nat):fst (x::xs) o (i+1)=fst xs (o+sz x) i:=by simp [fst];omega
theorem fst_succ (xs:List Tree) (o i:Nat) {x:Tree} (h:xs[i]? = some x):fst xs o (i+1)=fst xs o i+sz x:=by
 obtain ⟨hi,rfl⟩:=List.getElem?_eq_some_iff.1 h
 unfold fst
 rw [List.take_succ_eq_append_getElem hi,List.map_append,List.sum_append]
 simp only [List.map_cons,List.map_nil,List.sum_cons,List.sum_nil];omega
theorem fst_all (xs:List Tree) (o:Nat):fst xs o xs.length=o+(xs.map sz).sum:=by simp [fst]
theorem fst_mono (xs:List Tree) (o:Nat) {i j:Nat} (h:i≤j):fst xs o i≤fst xs o j:=by
 induction j with
 | zero =>
  obtain rfl:i=0:=by omega
  exact Nat.le_refl _
 | succ j ih =>
  rcases Nat.lt_or_ge j i with h1 | h1
  ·obtain rfl:i=j+1:=by omega
   exact Nat.le_refl _
  ·refine Nat.le_trans (ih h1) ?_
   rcases Nat.lt_or_ge j xs.length with hj | hj
   ·rw [fst_succ xs o j (List.getElem?_eq_getElem hj)];omega
   ·unfold fst;rw [List.take_of_length_le hj,List.take_of_length_le (by omega)];exact Nat.le_refl _
def Mem (E:List (List Int)) (r:Nat) (z:Int):Prop:=z∈E.getD r []
theorem mem_push (E:List (List Int)) (r:Nat) (z:Int):Mem (E++[[]]) r z↔Mem E r z:=by
 unfold Mem
 rcases Nat.lt_trichotomy r E.length with h | h | h
 ·rw [List.getD_eq_getElem?_getD,List.getElem?_append_left h,← List.getD_eq_getElem?_getD]
 ·subst h;simp
 ·rw [List.getD_eq_getElem?_getD,List.getElem?_eq_none (by simp;omega),List.getD_eq_getElem?_getD,List.getElem?_eq_none (by omega)]
theorem mem_add {E:List (List Int)} {f t:Nat} (hf:f<E.length) (r:Nat) (z:Int):Mem (addE E f t) r z↔Mem E r z∨(r=f∧z=t):=by
 unfold addE
 split
 ·rename_i h
  constructor
  ·exact .inl
  ·rintro (h1 | ⟨rfl,rfl⟩)
   ·exact h1
   ·exact h
 ·rename_i h
  unfold Mem
  by_cases hr:r=f
  ·subst hr
   simp [List.getD_eq_getElem?_getD,hf]
  ·simp [List.getD_eq_getElem?_getD,List.getElem?_set,Ne.symm hr,hr]
theorem add_len (E:List (List Int)) (f t:Nat):(addE E f t).length=E.length:=by unfold addE;split <;> simp
structure St.Is (st:St) (A:List (List Arc)) (M:Nat→Int→Prop):Prop where
 a:st.A=A
 e:st.E.length=A.length
 m:∀ r z,Mem st.E r z↔M r z
theorem St.Is.push {st:St} {A:List (List Arc)} {M:Nat→Int→Prop} (h:st.Is A M):st.push.Is (A++[[]]) M :=
 ⟨by simp [St.push,h.a],by simp [St.push,h.e],fun r z=>(mem_push _ _ _).trans (h.m r z)⟩
theorem St.Is.free {st:St} {A:List (List Arc)} {M:Nat→Int→Prop} (h:st.Is A M) {f:Nat} (t:Nat) (hf:f<A.length):(st.free f t).Is A fun r z=>M r z∨(r=f∧z=t) :=
 ⟨h.a,by simp [St.free,add_len,h.e],fun r z=>(mem_add (by rw [h.e];exact hf) r z).trans (or_congr (h.m r z) Iff.rfl)⟩
theorem St.Is.congr {st:St} {A A':List (List Arc)} {M M':Nat→Int→Prop} (h:st.Is A M) (hA:A=A') (hM:∀ r z,M r z↔M' r z):st.Is A' M' :=
 ⟨hA ▸ h.a,hA ▸ h.e,fun r z=>(h.m r z).trans (hM r z)⟩
theorem St.Is.len {st:St} {A:List (List Arc)} {M:Nat→Int→Prop} (h:st.Is A M):st.len=A.length:=by rw [St.len,h.a]
theorem St.Is.frees {t:Nat}:∀ (l:List Nat) {st:St} {A:List (List Arc)} {M:Nat→Int→Prop},st.Is A M→(∀ q,q∈l→q<A.length)→(Pat.frees st l t).Is A fun r z=>M r z∨(r∈l∧z=t)
 | [],st,A,M,h,_=>h.congr rfl fun r z=>by simp
 | q::l,st,A,M,h,hl=>by
  have h1:=h.free t (hl q (by simp))
  have h2:=St.Is.frees (t:=t) l h1 fun x hx=>hl x (by simp [hx])
  refine h2.congr rfl fun r z=>?_
  simp only [List.mem_cons]
  constructor
  ·rintro ((h | ⟨rfl,h⟩) | ⟨h,h'⟩)
   ·exact .inl h
   ·exact .inr ⟨.inl rfl,h⟩
   ·exact .inr ⟨.inr h,h'⟩
  ·rintro (h | ⟨rfl | h,h'⟩)
   ·exact .inl (.inl h)
   ·exact .inl (.inr ⟨rfl,h'⟩)
   ·exact .inr ⟨h,h'⟩
def Part (n:Tree) (f:St→St × Nat):Prop:=∀ st A M,st.Is A M→(f st).1.Is (A++rowsA n A.length) (fun r z=>M r z∨∃ t:Nat,z=t∧Ed n A.length r t)∧(f st).2+1=A.length+sz n
theorem catA_len:∀ (xs:List Tree) (o:Nat),(∀ x,x∈xs→∀ o,(rowsA x o).length=sz x)→(catA (xs.map fun x o=>rowsA x o) o).length=(xs.map sz).sum
 | [],o,_=>rfl
 | x::xs,o,h=>by
  simp only [List.map_cons,catA,List.length_append,List.sum_cons]
  rw [catA_len xs _ (fun y hy=>h y (by simp [hy])),h x (by simp) o]
theorem rowsA_items (k:Int) (set:List (Int × Int)) (sub:List Tree) (a b:Int) (o:Nat) (h2:k≠2) (h5:k=5→sub≠[]) :
  rowsA (.mk k set sub a b) o=[]::(catA ((items (.mk k set sub a b)).map fun x o=>rowsA x o) (o+1)++[[]]):=by
 rw [rowsA,if_neg h2,rowsL_map]
 by_cases h:k=5
 ·cases sub with
  | nil=>exact absurd rfl (h5 h)
  | cons x l=>simp [items,h]
 ·simp [items,h]
theorem rowsA_len {n:Tree} (h:WF n):∀ o,(rowsA n o).length=sz n:=by
 induction h with
 | @mk k set sub a b h1 h2 h3 h4 ih =>
  intro o
  have hw:WF (.mk k set sub a b):=.mk h1 h2 h3 h4
  by_cases h:k=2
  ·subst h
   obtain rfl:=h2 (.inr rfl)
   rw [rowsA,if_pos rfl];simp [sz,szs]
  ·rw [rowsA_items k set sub a b o h (fun h5=>by obtain ⟨x,rfl,_⟩:=h3 h5;simp),sz_eq hw]
   simp only [List.length_cons,List.length_append,List.length_nil]
   rw [catA_len _ _ (fun x hx o=>?_)]
   ·omega
   ·by_cases h5:k=5
    ·obtain ⟨y,rfl,_⟩:=h3 h5
     simp only [items,h5,if_true,List.headD_cons] at hx
     rw [(List.mem_replicate.1 hx).2]
     exact ih y (by simp) o
    ·simp only [items,h5,if_false] at hx
     exact ih x hx o
end Pat
/- What the program's parts come to: parts in a row,beside each other,and the part of a tree. Plain: no program. -/

set_option linter.unusedVariables false
set_option linter.unusedSimpArgs false
namespace Pat
theorem lst_cons (x:Tree) (xs:List Tree) (o i:Nat):lst (x::xs) o (i+1)=lst xs (o+sz x) i:=by unfold lst;rw [fst_cons]
theorem lst_zero (x:Tree) (xs:List Tree) (o:Nat):lst (x::xs) o 0=o+sz x - 1:=by unfold lst;rw [fst_cons,fst_zero]
theorem pt_cons (x:Tree) (xs:List Tree) (o s i:Nat):pt (x::xs) o s (i+1)=pt xs (o+sz x) (o+sz x - 1) i:=by
 unfold pt
 rw [if_neg (by omega),Nat.add_sub_cancel]
 cases i with
 | zero=>rw [lst_zero,if_pos rfl]
 | succ i=>rw [lst_cons,if_neg (by omega),Nat.add_sub_cancel]
def RowM (xs:List Tree) (o s r t:Nat):Prop:=(∃ i x,xs[i]? = some x∧Ed x (fst xs o i) r t)∨∃ i,i<xs.length∧r=pt xs o s i∧t=fst xs o i
theorem rowM_cons (x:Tree) (xs:List Tree) (o s r t:Nat):RowM (x::xs) o s r t↔(Ed x o r t∨(r=s∧t=o))∨RowM xs (o+sz x) (o+sz x - 1) r t:=by
 unfold RowM
 constructor
 ·rintro (⟨i,y,h1,h2⟩ | ⟨i,h1,h2,h3⟩)
  ·cases i with
   | zero=>simp only [List.getElem?_cons_zero,Option.some.injEq] at h1;subst h1;rw [fst_zero] at h2;exact .inl (.inl h2)
   | succ i=>rw [fst_cons] at h2;exact .inr (.inl ⟨i,y,by simpa using h1,h2⟩)
  ·cases i with
   | zero=>rw [fst_zero] at h3;exact .inl (.inr ⟨by simpa [pt] using h2,h3⟩)
   | succ i=>rw [fst_cons] at h3;rw [pt_cons] at h2;exact .inr (.inr ⟨i,by simpa using h1,h2,h3⟩)
 ·rintro ((h | ⟨h1,h2⟩) | ⟨i,y,h1,h2⟩ | ⟨i,h1,h2,h3⟩)
  ·exact .inl ⟨0,x,rfl,by rw [fst_zero];exact h⟩
  ·exact .inr ⟨0,by simp,by simpa [pt] using h1,by rw [fst_zero];exact h2⟩
  ·exact .inl ⟨i+1,y,by simpa using h1,by rw [fst_cons];exact h2⟩
  ·exact .inr ⟨i+1,by simpa using h1,by rw [pt_cons];exact h2,by rw [fst_cons];exact h3⟩
theorem chain_spec:∀ (xs:List Tree),(∀ x,x∈xs→WF x)→(∀ x,x∈xs→Part x fun st=>partB x st)→∀ (st:St) (A:List (List Arc)) (M:Nat→Int→Prop) (s first:Nat),st.Is A M→s<A.length →
  (chainB (xs.map fun x st=>partB x st) st s first).1.Is (A++catA (xs.map fun x o=>rowsA x o) A.length) (fun r z=>M r z∨∃ t:Nat,z=t∧RowM xs A.length s r t) ∧
   (chainB (xs.map fun x st=>partB x st) st s first).2.1=(List.range xs.length).map (fun i=>lst xs A.length i) ∧
   (chainB (xs.map fun x st=>partB x st) st s first).2.2=if xs.length=0 then first else fst xs A.length (xs.length - 1)
 | [],_,_,st,A,M,s,first,h,hs=>⟨h.congr (by simp [catA]) fun r z=>by simp [RowM],rfl,rfl⟩
 | x::xs,hw,hp,st,A,M,s,first,h,hs=>by
  obtain ⟨h1,h2⟩:=hp x (by simp) st A M h
  have hx2:=sz_two (hw x (by simp))
  have hl:(A++rowsA x A.length).length=A.length+sz x:=by rw [List.length_append,rowsA_len (hw x (by simp))]
  have hq:(partB x st).2=A.length+sz x - 1:=by have h2':(partB x st).2+1=A.length+sz x:=h2;omega
  have h3:=h1.free A.length (f:=s) (by rw [hl];omega)
  obtain ⟨k1,k2,k3⟩:=chain_spec xs (fun y hy=>hw y (by simp [hy])) (fun y hy=>hp y (by simp [hy])) _ _ _ (partB x st).2 A.length h3 (by rw [hl];omega)
  simp only [List.map_cons,chainB,h.len]
  rw [hl] at k1 k2 k3
  refine ⟨k1.congr ?_ fun r z=>?_,?_,?_⟩
  ·simp only [catA,List.append_assoc]
   rw [rowsA_len (hw x (by simp))]
  ·rw [hq]
   constructor
   ·rintro (((h | ⟨t,rfl,h⟩) | ⟨rfl,rfl⟩) | ⟨t,rfl,h⟩)
    ·exact .inl h
    ·exact .inr ⟨t,rfl,(rowM_cons _ _ _ _ _ _).2 (.inl (.inl h))⟩
    ·exact .inr ⟨_,rfl,(rowM_cons _ _ _ _ _ _).2 (.inl (.inr ⟨rfl,rfl⟩))⟩
    ·exact .inr ⟨t,rfl,(rowM_cons _ _ _ _ _ _).2 (.inr h)⟩
   ·rintro (h | ⟨t,rfl,h⟩)
    ·exact .inl (.inl (.inl h))
    ·rcases (rowM_cons _ _ _ _ _ _).1 h with (h | ⟨rfl,rfl⟩) | h
     ·exact .inl (.inl (.inr ⟨t,rfl,h⟩))
     ·exact .inl (.inr ⟨rfl,rfl⟩)
     ·exact .inr ⟨t,rfl,h⟩
  ·rw [k2,hq,List.length_cons,List.range_succ_eq_map,List.map_cons,List.map_map,lst_zero]
   congr 1
   exact List.map_congr_left fun i _=>(lst_cons x xs _ i).symm
  ·rw [k3]
   cases xs with
   | nil=>simp [fst]
   | cons y l=>simp only [List.length_cons,Nat.add_sub_cancel,if_neg (Nat.succ_ne_zero _)];rw [fst_cons]
def FanM (xs:List Tree) (o s r t:Nat):Prop:=(∃ i x,xs[i]? = some x∧Ed x (fst xs o i) r t)∨∃ i,i<xs.length∧r=s∧t=fst xs o i
theorem fanM_cons (x:Tree) (xs:List Tree) (o s r t:Nat):FanM (x::xs) o s r t↔(Ed x o r t∨(r=s∧t=o))∨FanM xs (o+sz x) s r t:=by
 unfold FanM
 constructor
 ·rintro (⟨i,y,h1,h2⟩ | ⟨i,h1,h2,h3⟩)
  ·cases i with
   | zero=>simp only [List.getElem?_cons_zero,Option.some.injEq] at h1;subst h1;rw [fst_zero] at h2;exact .inl (.inl h2)
   | succ i=>rw [fst_cons] at h2;exact .inr (.inl ⟨i,y,by simpa using h1,h2⟩)
  ·cases i with
   | zero=>rw [fst_zero] at h3;exact .inl (.inr ⟨h2,h3⟩)
   | succ i=>rw [fst_cons] at h3;exact .inr (.inr ⟨i,by simpa using h1,h2,h3⟩)
 ·rintro ((h | ⟨h1,h2⟩) | ⟨i,y,h1,h2⟩ | ⟨i,h1,h2,h3⟩)
  ·exact .inl ⟨0,x,rfl,by rw [fst_zero];exact h⟩
  ·exact .inr ⟨0,by simp,h1,by rw [fst_zero];exact h2⟩
  ·exact .inl ⟨i+1,y,by simpa using h1,by rw [fst_cons];exact h2⟩
  ·exact .inr ⟨i+1,by simpa using h1,h2,by rw [fst_cons];exact h3⟩
theorem fan_spec:∀ (xs:List Tree),(∀ x,x∈xs→WF x)→(∀ x,x∈xs→Part x fun st=>partB x st)→∀ (st:St) (A:List (List Arc)) (M:Nat→Int→Prop) (s:Nat),st.Is A M→s<A.length →
  (fanB (xs.map fun x st=>partB x st) st s).1.Is (A++catA (xs.map fun x o=>rowsA x o) A.length) (fun r z=>M r z∨∃ t:Nat,z=t∧FanM xs A.length s r t) ∧
   (fanB (xs.map fun x st=>partB x st) st s).2=(List.range xs.length).map (fun i=>lst xs A.length i)
 | [],_,_,st,A,M,s,h,hs=>⟨h.congr (by simp [catA]) fun r z=>by simp [FanM],rfl⟩
 | x::xs,hw,hp,st,A,M,s,h,hs=>by
  obtain ⟨h1,h2⟩:=hp x (by simp) st A M h
  have hx2:=sz_two (hw x (by simp))
  have hl:(A++rowsA x A.length).length=A.length+sz x:=by rw [List.length_append,rowsA_len (hw x (by simp))]
  have hq:(partB x st).2=A.length+sz x - 1:=by have h2':(partB x st).2+1=A.length+sz x:=h2;omega
  have h3:=h1.free A.length (f:=s) (by rw [hl];omega)
  obtain ⟨k1,k2⟩:=fan_spec xs (fun y hy=>hw y (by simp [hy])) (fun y hy=>hp y (by simp [hy])) _ _ _ s h3 (by rw [hl];omega)
  simp only [List.map_cons,fanB,h.len]
  rw [hl] at k1 k2
  refine ⟨k1.congr ?_ fun r z=>?_,?_⟩
  ·simp only [catA,List.append_assoc]
   rw [rowsA_len (hw x (by simp))]
  ·constructor
   ·rintro (((h | ⟨t,rfl,h⟩) | ⟨rfl,rfl⟩) | ⟨t,rfl,h⟩)
    ·exact .inl h
    ·exact .inr ⟨t,rfl,(fanM_cons _ _ _ _ _ _).2 (.inl (.inl h))⟩
    ·exact .inr ⟨_,rfl,(fanM_cons _ _ _ _ _ _).2 (.inl (.inr ⟨rfl,rfl⟩))⟩
    ·exact .inr ⟨t,rfl,(fanM_cons _ _ _ _ _ _).2 (.inr h)⟩
   ·rintro (h | ⟨t,rfl,h⟩)
    ·exact .inl (.inl (.inl h))
    ·rcases (fanM_cons _ _ _ _ _ _).1 h with (h | ⟨rfl,rfl⟩) | h
     ·exact .inl (.inl (.inr ⟨t,rfl,h⟩))
     ·exact .inl (.inr ⟨rfl,rfl⟩)
     ·exact .inr ⟨t,rfl,h⟩
  ·rw [k2,hq,List.length_cons,List.range_succ_eq_map,List.map_cons,List.map_map,lst_zero]
   congr 1
   exact List.map_congr_left fun i _=>(lst_cons x xs _ i).symm
end Pat
/- The part of a tree,as the program builds it. Plain: no program. -/

set_option linter.unusedVariables false
set_option linter.unusedSimpArgs false
namespace Pat
theorem pts_list (xs:List Tree) (o s:Nat):s::(List.range xs.length).map (fun i=>lst xs o i)=(List.range (xs.length+1)).map (fun i=>pt xs o s i):=by
 rw [List.range_succ_eq_map,List.map_cons,List.map_map]
 congr 1
theorem last_pt (xs:List Tree) (o s:Nat):lastD ((List.range xs.length).map fun i=>lst xs o i) s=pt xs o s xs.length:=by
 unfold lastD pt
 cases h:xs.length with
 | zero=>rfl
 | succ m =>
  rw [if_neg (by omega),List.range_succ,List.map_append,List.map_cons,List.map_nil,List.getLastD_eq_getLast?,List.getLast?_concat];rfl
theorem mem_drop_pts (xs:List Tree) (o s a q:Nat):q∈(s::(List.range xs.length).map (fun i=>lst xs o i)).drop a↔∃ i,a≤i∧i≤xs.length∧q=pt xs o s i:=by
 rw [pts_list]
 constructor
 ·intro h
  obtain ⟨j,hj,he⟩:=List.getElem_of_mem h
  simp only [List.getElem_drop,List.getElem_map,List.getElem_range] at he
  simp only [List.length_drop,List.length_map,List.length_range] at hj
  exact ⟨a+j,by omega,by omega,he.symm⟩
 ·rintro ⟨i,h1,h2,rfl⟩
  refine List.mem_iff_getElem.2 ⟨i - a,by simp;omega,?_⟩
  simp only [List.getElem_drop,List.getElem_map,List.getElem_range]
  congr 1;omega
theorem pt_lt {xs:List Tree} (h:∀ x,x∈xs→2≤sz x) (o s:Nat) (hs:s<o):∀ i,i≤xs.length→pt xs o s i<fst xs o xs.length:=by
 intro i hi
 unfold pt
 split
 ·exact Nat.lt_of_lt_of_le hs (by have:=fst_mono xs o (Nat.zero_le xs.length);rw [fst_zero] at this;exact this)
 ·rename_i h0
  have h1:=fst_succ xs o (i - 1) (List.getElem?_eq_getElem (show i - 1<xs.length by omega))
  have h2:=h _ (List.getElem_mem (show i - 1<xs.length by omega))
  have h3:=fst_mono xs o (show i - 1+1≤xs.length by omega)
  unfold lst
  omega
theorem lst_lt {xs:List Tree} (h:∀ x,x∈xs→2≤sz x) (o:Nat) {i:Nat} (hi:i<xs.length):lst xs o i<fst xs o xs.length:=by
 have h1:=fst_succ xs o i (List.getElem?_eq_getElem hi)
 have h2:=h _ (List.getElem_mem hi)
 have h3:=fst_mono xs o (show i+1≤xs.length by omega)
 unfold lst;omega
theorem ed_iff (n:Tree) (o r t:Nat):Ed n o r t↔Own n o r t∨∃ i x,(items n)[i]? = some x∧Ed x (fst (items n) (o+1) i) r t:=by
 constructor
 ·intro h
  cases h with
  | own h=>exact .inl h
  | sub h1 h2=>exact .inr ⟨_,_,h1,h2⟩
 ·rintro (h | ⟨i,x,h1,h2⟩)
  ·exact .own h
  ·exact .sub h1 h2
theorem part_spec {n:Tree} (hn:WF n):Part n fun st=>partB n st:=by
 induction hn with
 | @mk k set sub a b h1 h2 h3 h4 ih =>
  have hw:WF (.mk k set sub a b):=.mk h1 h2 h3 h4
  intro st A M h
  have hp:=h.push
  have hlp:(A++[[]]).length=A.length+1:=by simp
  have hsz:=sz_eq hw
  by_cases k2:k=2
  ·subst k2
   obtain rfl:=h2 (.inr rfl)
   have hi:items (.mk 2 set [] a b)=[]:=rfl
   have h5:=hp.push
   simp only [partB,if_true]
   have hs2:sz (.mk 2 set [] a b)=2:=by simp [sz,szs]
   refine ⟨⟨?_,?_,fun r z=>?_⟩,by rw [h.len,hs2]⟩
   ·simp only [St.arc,St.push,h.a,h.len,rowsA,if_true,List.append_assoc,List.cons_append,List.nil_append]
    rw [List.set_append_right _ _ (Nat.le_refl _),Nat.sub_self,List.getD_eq_getElem?_getD,List.getElem?_append_right (Nat.le_refl _),Nat.sub_self]
    rfl
   ·simp only [St.arc]
    rw [h5.e];simp [rowsA]
   ·refine (h5.m r z).trans ⟨.inl,?_⟩
    rintro (h | ⟨t,rfl,hE⟩)
    ·exact h
    ·rcases (ed_iff _ _ _ _).1 hE with hE | ⟨i,x,hx,_⟩
     ·simp only [Own,if_true] at hE
     ·rw [hi] at hx;cases hx
  have hrows:=rowsA_items k set sub a b A.length k2 (fun h5=>by obtain ⟨x,rfl,_⟩:=h3 h5;simp)
  have hiw:=items_wf hw
  have hi2:∀ x,x∈items (.mk k set sub a b)→2≤sz x:=fun x hx=>sz_two (hiw x hx)
  have hct:(catA ((items (.mk k set sub a b)).map fun x o=>rowsA x o) (A.length+1)).length=((items (.mk k set sub a b)).map sz).sum:=catA_len _ _ fun x hx o=>rowsA_len (hiw x hx) o
  have hTf:fst (items (.mk k set sub a b)) (A.length+1) (items (.mk k set sub a b)).length=A.length+1+((items (.mk k set sub a b)).map sz).sum:=fst_all _ _
  have hlc:(A++[[]]++catA ((items (.mk k set sub a b)).map fun x o=>rowsA x o) (A.length+1)).length=fst (items (.mk k set sub a b)) (A.length+1) (items (.mk k set sub a b)).length:=by
   rw [List.length_append,hlp,hct,hTf]
  have hA:A++[[]]++catA ((items (.mk k set sub a b)).map fun x o=>rowsA x o) (A.length+1)++[[]]=A++rowsA (.mk k set sub a b) A.length:=by rw [hrows];simp
  have hlT:fst (items (.mk k set sub a b)) (A.length+1) (items (.mk k set sub a b)).length+1=A.length+sz (.mk k set sub a b):=by omega
  by_cases k3:k=3
  ·have hit:items (.mk k set sub a b)=sub:=by simp [items,k3]
   rw [hit] at hct hTf hlc hA hlT hi2 hiw
   obtain ⟨c1,c2,c3⟩:=chain_spec sub hiw (fun x hx=>ih x hx) st.push _ M A.length A.length hp (by rw [hlp];omega)
   rw [hlp] at c1 c2
   have hpt:=pt_lt hi2 (A.length+1) A.length (Nat.lt_succ_self _) sub.length (Nat.le_refl _)
   have hl:=c1.len
   rw [hlc] at hl
   have c4:=c1.push.free (fst sub (A.length+1) sub.length) (f:=pt sub (A.length+1) A.length sub.length) (by rw [List.length_append,hlc];omega)
   simp only [partB,if_neg k2,if_pos k3,partsB_map,h.len,c2,last_pt,hl]
   refine ⟨c4.congr hA fun r z=>?_,hlT⟩
   have hE:∀ t,Ed (.mk k set sub a b) A.length r t↔RowM sub (A.length+1) A.length r t∨(r=pt sub (A.length+1) A.length sub.length∧t=fst sub (A.length+1) sub.length):=by
    intro t
    rw [ed_iff,Own,if_neg k2,if_pos k3,hit]
    unfold RowM
    constructor
    ·rintro ((h | h) | h)
     ·exact .inl (.inr h)
     ·exact .inr h
     ·exact .inl (.inl h)
    ·rintro ((h | h) | h)
     ·exact .inr h
     ·exact .inl (.inl h)
     ·exact .inl (.inr h)
   constructor
   ·rintro ((h | ⟨t,rfl,h⟩) | ⟨rfl,rfl⟩)
    ·exact .inl h
    ·exact .inr ⟨t,rfl,(hE t).2 (.inl h)⟩
    ·exact .inr ⟨_,rfl,(hE _).2 (.inr ⟨rfl,rfl⟩)⟩
   ·rintro (h | ⟨t,rfl,h⟩)
    ·exact .inl (.inl h)
    ·rcases (hE t).1 h with h | ⟨rfl,rfl⟩
     ·exact .inl (.inr ⟨t,rfl,h⟩)
     ·exact .inr ⟨rfl,rfl⟩
  by_cases k4:k=4
  ·have hit:items (.mk k set sub a b)=sub:=by simp [items,k4]
   rw [hit] at hct hTf hlc hA hlT hi2 hiw
   obtain ⟨c1,c2⟩:=fan_spec sub hiw (fun x hx=>ih x hx) st.push _ M A.length hp (by rw [hlp];omega)
   rw [hlp] at c1 c2
   have hl:=c1.len
   rw [hlc] at hl
   have c4:=c1.push.frees ((List.range sub.length).map fun i=>lst sub (A.length+1) i) (t:=fst sub (A.length+1) sub.length) (fun q hq=>by
    obtain ⟨i,hi,rfl⟩:=List.mem_map.1 hq
    rw [List.mem_range] at hi
    have:=lst_lt hi2 (A.length+1) hi
    rw [List.length_append,hlc];omega)
   simp only [partB,if_neg k2,if_neg k3,if_pos k4,partsB_map,h.len,c2,hl]
   refine ⟨c4.congr hA fun r z=>?_,hlT⟩
   have hE:∀ t,Ed (.mk k set sub a b) A.length r t↔FanM sub (A.length+1) A.length r t∨(r∈(List.range sub.length).map (fun i=>lst sub (A.length+1) i)∧t=fst sub (A.length+1) sub.length):=by
    intro t
    rw [ed_iff,Own,if_neg k2,if_neg k3,if_pos k4,hit]
    unfold FanM
    simp only [List.mem_map,List.mem_range]
    constructor
    ·rintro (⟨i,hi,⟨h1,h2⟩ | ⟨h1,h2⟩⟩ | h)
     ·exact .inl (.inr ⟨i,hi,h1,h2⟩)
     ·exact .inr ⟨⟨i,hi,h1.symm⟩,h2⟩
     ·exact .inl (.inl h)
    ·rintro ((h | ⟨i,hi,h1,h2⟩) | ⟨⟨i,hi,h1⟩,h2⟩)
     ·exact .inr h
     ·exact .inl ⟨i,hi,.inl ⟨h1,h2⟩⟩
     ·exact .inl ⟨i,hi,.inr ⟨h1.symm,h2⟩⟩
   constructor
   ·rintro ((h | ⟨t,rfl,h⟩) | ⟨h,rfl⟩)
    ·exact .inl h
    ·exact .inr ⟨t,rfl,(hE t).2 (.inl h)⟩
    ·exact .inr ⟨_,rfl,(hE _).2 (.inr ⟨h,rfl⟩)⟩
   ·rintro (h | ⟨t,rfl,h⟩)
    ·exact .inl (.inl h)
    ·rcases (hE t).1 h with h | ⟨h',rfl⟩
     ·exact .inl (.inr ⟨t,rfl,h⟩)
     ·exact .inr ⟨h',rfl⟩
  by_cases k5:k=5
  ·obtain ⟨x,rfl,ha,hab⟩:=h3 k5
   have hit:items (.mk k set [x] a b)=List.replicate (copies a b) x:=by simp [items,k5]
   obtain ⟨xs,hxs⟩:∃ xs,xs=List.replicate (copies a b) x:=⟨_,rfl⟩
   rw [hit,← hxs] at hct hTf hlc hA hlT hi2 hiw
   have hxm:∀ y,y∈xs→y=x:=fun y hy=>by rw [hxs] at hy;exact (List.mem_replicate.1 hy).2
   obtain ⟨c1,c2,c3⟩:=chain_spec xs hiw (fun y hy=>by rw [hxm y hy];exact ih x (by simp)) st.push _ M A.length A.length hp (by rw [hlp];omega)
   have hmap:xs.map (fun x st=>partB x st)=List.replicate (copies a b) (fun st=>partB x st):=by rw [hxs,List.map_replicate]
   rw [hmap] at c1 c2 c3
   rw [hlp] at c1 c2 c3
   have hl:=c1.len
   rw [hlc] at hl
   have hm:b<0→xs.length=a.toNat+1:=fun hb=>by rw [hxs,List.length_replicate,copies,if_pos hb];omega
   have c4:=c1.push.frees ((A.length::(List.range xs.length).map fun i=>lst xs (A.length+1) i).drop a.toNat) (t:=fst xs (A.length+1) xs.length) (fun q hq=>by
    obtain ⟨i,_,hi,rfl⟩:=(mem_drop_pts xs _ _ _ _).1 hq
    have:=pt_lt hi2 (A.length+1) A.length (Nat.lt_succ_self _) i hi
    rw [List.length_append,hlc];omega)
   have hpt:=pt_lt hi2 (A.length+1) A.length (Nat.lt_succ_self _) xs.length (Nat.le_refl _)
   have c5:=c4.free (fst xs (A.length+1) (xs.length - 1)) (f:=pt xs (A.length+1) A.length xs.length) (by rw [List.length_append,hlc];omega)
   simp only [partB,if_neg k2,if_neg k3,if_neg k4,if_pos k5,partsB,List.headD_cons,h.len,endR,c2,c3,last_pt,hl]
   have hE:∀ r t,Ed (.mk k set [x] a b) A.length r t↔(RowM xs (A.length+1) A.length r t∨(r∈(A.length::(List.range xs.length).map fun i=>lst xs (A.length+1) i).drop a.toNat∧t=fst xs (A.length+1) xs.length)) ∨
     (b<0∧r=pt xs (A.length+1) A.length xs.length∧t=fst xs (A.length+1) (xs.length - 1)):=by
    intro r t
    rw [ed_iff,Own,if_neg k2,if_neg k3,if_neg k4,if_pos k5,hit,← hxs,mem_drop_pts]
    unfold RowM
    constructor
    ·rintro ((h | ⟨i,h1,h2,h3,h4⟩ | h) | h)
     ·exact .inl (.inl (.inr h))
     ·exact .inl (.inr ⟨⟨i,h1,h2,h3⟩,h4⟩)
     ·exact .inr h
     ·exact .inl (.inl (.inl h))
    ·rintro (((h | h) | ⟨⟨i,h1,h2,h3⟩,h4⟩) | h)
     ·exact .inr h
     ·exact .inl (.inl h)
     ·exact .inl (.inr (.inl ⟨i,h1,h2,h3,h4⟩))
     ·exact .inl (.inr (.inr h))
   by_cases hb:b<0
   ·have h0:¬ xs.length=0:=by rw [hm hb];omega
    rw [if_pos hb,if_neg h0]
    refine ⟨c5.congr hA fun r z=>?_,hlT⟩
    constructor
    ·rintro (((h | ⟨t,rfl,h⟩) | ⟨h,rfl⟩) | ⟨h,rfl⟩)
     ·exact .inl h
     ·exact .inr ⟨t,rfl,(hE r t).2 (.inl (.inl h))⟩
     ·exact .inr ⟨_,rfl,(hE r _).2 (.inl (.inr ⟨h,rfl⟩))⟩
     ·exact .inr ⟨_,rfl,(hE r _).2 (.inr ⟨hb,h,rfl⟩)⟩
    ·rintro (h | ⟨t,rfl,h⟩)
     ·exact .inl (.inl (.inl h))
     ·rcases (hE r t).1 h with (h | ⟨h',rfl⟩) | ⟨_,h',rfl⟩
      ·exact .inl (.inl (.inr ⟨t,rfl,h⟩))
      ·exact .inl (.inr ⟨h',rfl⟩)
      ·exact .inr ⟨h',rfl⟩
   ·rw [if_neg hb]
    refine ⟨c4.congr hA fun r z=>?_,hlT⟩
    constructor
    ·rintro ((h | ⟨t,rfl,h⟩) | ⟨h,rfl⟩)
     ·exact .inl h
     ·exact .inr ⟨t,rfl,(hE r t).2 (.inl (.inl h))⟩
     ·exact .inr ⟨_,rfl,(hE r _).2 (.inl (.inr ⟨h,rfl⟩))⟩
    ·rintro (h | ⟨t,rfl,h⟩)
     ·exact .inl (.inl h)
     ·rcases (hE r t).1 h with (h | ⟨h',rfl⟩) | ⟨hb',_⟩
      ·exact .inl (.inr ⟨t,rfl,h⟩)
      ·exact .inr ⟨h',rfl⟩
      ·exact absurd hb' hb
  ·have hk1:k=1:=by rcases h1 with h | h | h | h | h <;> first | exact h | exact absurd h k2 | exact absurd h k3 | exact absurd h k4 | exact absurd h k5
   obtain rfl:=h2 (.inl hk1)
   have hit:items (.mk k set [] a b)=[]:=by simp [items,k5]
   rw [hit] at hct hTf hlc hA hlT
   have c4:=hp.push.free (A.length+1) (f:=A.length) (by simp)
   simp only [partB,if_neg k2,if_neg k3,if_neg k4,if_neg k5,h.len]
   have hT1:fst ([]:List Tree) (A.length+1) ([]:List Tree).length=A.length+1:=by simp [fst]
   rw [hT1] at hlT
   refine ⟨c4.congr (by simpa [catA] using hA) fun r z=>?_,hlT⟩
   have hE:∀ t,Ed (.mk k set [] a b) A.length r t↔r=A.length∧t=A.length+1:=by
    intro t
    rw [ed_iff,Own,if_neg k2,if_neg k3,if_neg k4,if_neg k5,hit,hT1]
    simp
   constructor
   ·rintro (h | ⟨h,rfl⟩)
    ·exact .inl h
    ·exact .inr ⟨_,rfl,(hE _).2 ⟨h,rfl⟩⟩
   ·rintro (h | ⟨t,rfl,h⟩)
    ·exact .inl h
    ·obtain ⟨h1,rfl⟩:=(hE t).1 h
     exact .inr ⟨h1,rfl⟩
end Pat
