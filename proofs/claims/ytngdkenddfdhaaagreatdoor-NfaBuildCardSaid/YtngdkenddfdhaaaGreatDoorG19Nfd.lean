/- Part of a proof about the functions of this seat. -/
import Derived.Test.YtngdkenddfdhaaaGreatDoorG18Nfk
import Derived.Test.YtngdkenddfdhaaaGreatDoorG11O32
/- The automaton of a tree reads what the tree matches. Plain: no program. -/

set_option linter.unusedVariables false
set_option linter.unusedSimpArgs false
namespace Pat
variable {Ep:Nat→Nat→Prop} {Ar:Nat→Int→Nat→Prop}
theorem ed_pt {n:Tree} (hn:WF n) (o:Nat) {i:Nat} (hi:i≤(items n).length) (t:Nat):Ed n o (pt (items n) (o+1) o i) t↔Own n o (pt (items n) (o+1) o i) t:=by
 rw [ed_iff]
 refine ⟨fun h=>h.elim id fun ⟨j,x,hx,h⟩=>?_,.inl⟩
 exfalso
 have hiw:=items_wf hn
 have hi2:∀ x,x∈items n→2≤sz x:=fun x hx=>sz_two (hiw x hx)
 have hjl:=(List.getElem?_eq_some_iff.1 hx).1
 have hreg:=(ed_region (hiw x (List.mem_of_getElem? hx)) _ _ _ h).1
 have hj1:=lst_fst (o:=o+1) hx (hi2 x (List.mem_of_getElem? hx))
 have hpos:=fst_pos (items n) (o+1) j
 cases i with
 | zero=>rw [pt_zero] at hreg;omega
 | succ i =>
  rw [pt_succ] at hreg
  rcases Nat.lt_trichotomy j i with h1 | h1 | h1
  ·have h2:=fst_lt hi2 (o+1) h1 hjl
   have h3:=lst_fst (o:=o+1) (List.getElem?_eq_getElem (show i<(items n).length by omega)) (hi2 _ (List.getElem_mem (show i<(items n).length by omega)))
   have h4:=hi2 _ (List.getElem_mem (show i<(items n).length by omega))
   omega
  ·subst h1;omega
  ·have h2:=fst_lt hi2 (o+1) h1 (by omega)
   omega
theorem frame_of {n:Tree} (hn:WF n) {o:Nat} (he:Emb Ep Ar n o) (hk:∀ k s l a b,n=.mk k s l a b→k≠2∧(k=5→l≠[])):Frame Ep Ar (items n) o (o+sz n - 1) where
 two:=fun x hx=>sz_two (items_wf hn x hx)
 T:=by rw [fst_all,sz_eq hn];omega
 noAr:=row_none hn he hk
 sub:=fun i x hx=>he.item hn hx
theorem ep_pt {n:Tree} (hn:WF n) {o:Nat} (he:Emb Ep Ar n o) {i:Nat} (hi:i≤(items n).length) (t:Nat):Ep (pt (items n) (o+1) o i) t↔Own n o (pt (items n) (o+1) o i) t:=by
 have hiw:=items_wf hn
 have hi2:∀ x,x∈items n→2≤sz x:=fun x hx=>sz_two (hiw x hx)
 have hs:=sz_eq hn
 have hall:=fst_all (items n) (o+1)
 have hlt:=pt_lt hi2 (o+1) o (by omega) i hi
 have hge:o≤pt (items n) (o+1) o i:=by
  cases i with
  | zero=>rw [pt_zero];exact Nat.le_refl _
  | succ i =>
   rw [pt_succ]
   have h1:=lst_fst (o:=o+1) (List.getElem?_eq_getElem (show i<(items n).length by omega)) (hi2 _ (List.getElem_mem (show i<(items n).length by omega)))
   have h2:=fst_pos (items n) (o+1) i
   have h3:=hi2 _ (List.getElem_mem (show i<(items n).length by omega))
   omega
 exact ((he _ hge (by omega)).1 t).trans (ed_pt hn o hi t)
theorem reads_set (s:List (Int × Int)) (a b:Int):Reads Ep Ar (.mk 2 s [] a b):=by
 intro o he
 have hs:sz (.mk 2 s [] a b)=2:=by simp [sz,szs]
 rw [hs]
 obtain ⟨e1,e2⟩:=he o (Nat.le_refl _) (by rw [hs];omega)
 have hEp:∀ t,¬ Ep o t:=by
  intro t h
  rcases (ed_iff _ _ _ _).1 ((e1 t).1 h) with h | ⟨i,x,hx,_⟩
  ·simp only [Own,if_true] at h
  ·simp [items] at hx
 have hAr:∀ c t,Ar o c t↔t=o+1∧InSet s c:=by
  intro c t
  rw [e2 c t,Nat.sub_self]
  unfold ArcIn InSet
  simp only [rowsA,if_true,List.getD_cons_zero,List.mem_map,Prod.mk.injEq]
  constructor
  ·rintro ⟨lo,hi,⟨r,hr,rfl,rfl,ht⟩,h1,h2⟩;exact ⟨by omega,r,hr,h1,h2⟩
  ·rintro ⟨rfl,r,hr,h1,h2⟩;exact ⟨r.1,r.2,⟨r,hr,rfl,rfl,rfl⟩,h1,h2⟩
 constructor
 ·intro k w y h hy
  cases h with
  | nil=>omega
  | eps h1 h2=>exact absurd h1 (hEp _)
  | @arc k c w x t z h1 h2 =>
   obtain ⟨rfl,hin⟩:=(hAr _ _).1 h1
   refine ⟨k,[c],w,by omega,rfl,?_,h2⟩
   rw [Lang,if_neg (by decide),if_pos rfl]
   exact ⟨c,rfl,hin⟩
 ·intro u hu
  rw [Lang,if_neg (by decide),if_pos rfl] at hu
  obtain ⟨c,rfl,hin⟩:=hu
  exact ⟨1,.arc ((hAr _ _).2 ⟨rfl,hin⟩) (.nil _)⟩
theorem reads_empty (s:List (Int × Int)) (a b:Int):Reads Ep Ar (.mk 1 s [] a b):=by
 intro o he
 have hn:WF (.mk 1 s [] a b):=.mk (.inl rfl) (fun _=>rfl) (fun h=>absurd h (by decide)) (by simp)
 have hs:sz (.mk 1 s [] a b)=2:=by simp [sz,szs]
 have hit:items (.mk 1 s [] a b)=[]:=by simp [items]
 have hF:=frame_of hn he (fun k s l a b e=>by cases e;exact ⟨by decide,fun h=>absurd h (by decide)⟩)
 rw [hs] at hF ⊢
 have hep:∀ t,Ep o t↔t=o+1:=by
  intro t
  have:=ep_pt hn he (Nat.zero_le _) t
  rw [pt_zero] at this
  rw [this,Own,if_neg (by decide),if_neg (by decide),if_neg (by decide),if_neg (by decide),hit]
  simp [fst]
 have hna:∀ c t,¬ Ar o c t:=by have:=hF.noAr 0 (Nat.zero_le _);rwa [pt_zero] at this
 constructor
 ·intro k w y h hy
  obtain ⟨k',t,rfl,h1,h2⟩:=walk_first h (by omega) hna
  obtain rfl:=(hep t).1 h1
  exact ⟨k',[],w,by omega,rfl,by rw [Lang,if_pos rfl],h2⟩
 ·intro u hu
  rw [Lang,if_pos rfl] at hu
  subst hu
  exact ⟨1,.eps ((hep _).2 rfl) (.nil _)⟩
theorem drop_get {xs:List Tree} {i:Nat} (h:i<xs.length):xs.drop i=xs[i]::xs.drop (i+1):=List.drop_eq_getElem_cons h
theorem reads_join {s:List (Int × Int)} {xs:List Tree} {a b:Int} (hn:WF (.mk 3 s xs a b)) (ih:∀ x,x∈xs→Reads Ep Ar x):Reads Ep Ar (.mk 3 s xs a b):=by
 intro o he
 have hit:items (.mk 3 s xs a b)=xs:=by simp [items]
 have hF:=frame_of hn he (fun k s l a b e=>by cases e;exact ⟨by decide,fun h=>absurd h (by decide)⟩)
 have hT:=hF.T
 have hpi:=fun {i j:Nat}=>pt_inj hF.two (o:=o+1) (s:=o) (by omega) (i:=i) (j:=j)
 have hep:∀ i,i≤xs.length→∀ t,Ep (pt xs (o+1) o i) t↔(i<xs.length∧t=fst xs (o+1) i)∨(i=xs.length∧t=o+sz (.mk 3 s xs a b) - 1):=by
  intro i hi t
  have h1:=ep_pt hn he (by rw [hit];exact hi) t
  rw [hit] at h1 hT hpi
  rw [h1,Own,if_neg (by decide),if_pos rfl,hit,hT]
  constructor
  ·rintro (⟨j,hj,e,rfl⟩ | ⟨e,rfl⟩)
   ·obtain rfl:=hpi hi (by omega) e;exact .inl ⟨hj,rfl⟩
   ·exact .inr ⟨hpi hi (Nat.le_refl _) e,rfl⟩
  ·rintro (⟨hj,rfl⟩ | ⟨rfl,rfl⟩)
   ·exact .inl ⟨i,hj,rfl,rfl⟩
   ·exact .inr ⟨rfl,rfl⟩
 have hna:=hF.noAr
 have hlt:=fun i hi=>pt_lt hF.two (o+1) o (by omega) i hi
 rw [hit] at hF hT hna hlt
 rw [← hT] at hlt
 have hge:∀ i,i≤xs.length→o≤pt xs (o+1) o i:=by
  intro i hi
  cases i with
  | zero=>rw [pt_zero];exact Nat.le_refl _
  | succ i=>rw [pt_succ];have h1:=lst_fst (o:=o+1) (List.getElem?_eq_getElem (show i<xs.length by omega)) (hF.two _ (List.getElem_mem (show i<xs.length by omega)));have:=fst_pos xs (o+1) i;have:=hF.two _ (List.getElem_mem (show i<xs.length by omega));omega
 have hs2:=sz_two hn
 constructor
 ·have key:∀ d i,i≤xs.length→xs.length - i=d→∀ k w y,Walk Ep Ar k w (pt xs (o+1) o i) y→(y<o∨o+sz (.mk 3 s xs a b)≤y+1) →
    ∃ k' u v,k'≤k∧w=u++v∧LangJ (xs.drop i) u∧Walk Ep Ar k' v (o+sz (.mk 3 s xs a b) - 1) y:=by
   intro d
   induction d with
   | zero =>
    intro i hi hd k w y h hy
    obtain rfl:i=xs.length:=by omega
    have:=hlt _ hi;have:=hge _ hi
    obtain ⟨k',t,rfl,h1,h2⟩:=walk_first h (by omega) (hna _ hi)
    rcases (hep _ hi t).1 h1 with ⟨h,_⟩ | ⟨_,rfl⟩
    ·omega
    ·exact ⟨k',[],w,by omega,rfl,by rw [List.drop_length,LangJ],h2⟩
   | succ d ihd =>
    intro i hi hd k w y h hy
    have:=hlt _ hi;have:=hge _ hi
    obtain ⟨k',t,rfl,h1,h2⟩:=walk_first h (by omega) (hna _ hi)
    rcases (hep _ hi t).1 h1 with ⟨hil,rfl⟩ | ⟨h,_⟩
    ·obtain ⟨k2,u,v,e1,rfl,hL,h3⟩:=hF.pass (List.getElem?_eq_getElem hil) (ih _ (List.getElem_mem hil)) h2 (by omega)
     obtain ⟨k3,u',v',e2,rfl,hL',h4⟩:=ihd (i+1) hil (by omega) _ _ _ h3 hy
     exact ⟨k3,u++u',v',by omega,by simp,by rw [drop_get hil,LangJ];exact ⟨u,u',rfl,hL,hL'⟩,h4⟩
    ·omega
  intro k w y h hy
  obtain ⟨k',u,v,e1,e2,e3,e4⟩:=key _ 0 (Nat.zero_le _) rfl k w y (by rw [pt_zero];exact h) hy
  exact ⟨k',u,v,e1,e2,by rw [Lang,if_neg (by decide),if_neg (by decide),if_pos rfl];exact e3,e4⟩
 ·have key:∀ d i,i≤xs.length→xs.length - i=d→∀ u,LangJ (xs.drop i) u→∃ k,Walk Ep Ar k u (pt xs (o+1) o i) (o+sz (.mk 3 s xs a b) - 1):=by
   intro d
   induction d with
   | zero =>
    intro i hi hd u hu
    obtain rfl:i=xs.length:=by omega
    rw [List.drop_length,LangJ] at hu
    subst hu
    exact ⟨1,.eps ((hep _ hi _).2 (.inr ⟨rfl,rfl⟩)) (.nil _)⟩
   | succ d ihd =>
    intro i hi hd u hu
    have hil:i<xs.length:=by omega
    rw [drop_get hil,LangJ] at hu
    obtain ⟨p,q,rfl,hp,hq⟩:=hu
    obtain ⟨k1,w1⟩:=hF.run (List.getElem?_eq_getElem hil) (ih _ (List.getElem_mem hil)) hp
    obtain ⟨k2,w2⟩:=ihd (i+1) hil (by omega) q hq
    exact ⟨_,.eps ((hep _ hi _).2 (.inl ⟨hil,rfl⟩)) (w1.trans w2)⟩
  intro u hu
  rw [Lang,if_neg (by decide),if_neg (by decide),if_pos rfl] at hu
  have:=key _ 0 (Nat.zero_le _) rfl u hu
  rwa [pt_zero] at this
end Pat
/- The automaton of a tree reads what the tree matches: choices and repetitions. Plain: no program. -/

set_option linter.unusedVariables false
set_option linter.unusedSimpArgs false
namespace Pat
variable {Ep:Nat→Nat→Prop} {Ar:Nat→Int→Nat→Prop}
theorem pt_ge {xs:List Tree} (h2:∀ x,x∈xs→2≤sz x) (o:Nat):∀ i,i≤xs.length→o≤pt xs (o+1) o i:=by
 intro i hi
 cases i with
 | zero=>rw [pt_zero];exact Nat.le_refl _
 | succ i =>
  rw [pt_succ]
  have h1:=lst_fst (o:=o+1) (List.getElem?_eq_getElem (show i<xs.length by omega)) (h2 _ (List.getElem_mem (show i<xs.length by omega)))
  have h3:=fst_pos xs (o+1) i
  have h4:=h2 _ (List.getElem_mem (show i<xs.length by omega))
  omega
theorem reads_choice {s:List (Int × Int)} {xs:List Tree} {a b:Int} (hn:WF (.mk 4 s xs a b)) (ih:∀ x,x∈xs→Reads Ep Ar x):Reads Ep Ar (.mk 4 s xs a b):=by
 intro o he
 have hit:items (.mk 4 s xs a b)=xs:=by simp [items]
 have hF:=frame_of hn he (fun k s l a b e=>by cases e;exact ⟨by decide,fun h=>absurd h (by decide)⟩)
 have hT:=hF.T
 have hpi:=fun {i j:Nat}=>pt_inj hF.two (o:=o+1) (s:=o) (by omega) (i:=i) (j:=j)
 have hep0:∀ t,Ep o t↔∃ i,i<xs.length∧t=fst xs (o+1) i:=by
  intro t
  have h1:=ep_pt hn he (Nat.zero_le _) t
  rw [hit] at h1 hT hpi
  rw [pt_zero] at h1
  rw [h1,Own,if_neg (by decide),if_neg (by decide),if_pos rfl,hit]
  constructor
  ·rintro ⟨j,hj,⟨_,rfl⟩ | ⟨e,rfl⟩⟩
   ·exact ⟨j,hj,rfl⟩
   ·have:=hpi (i:=0) (j:=j+1) (Nat.zero_le _) hj (by rw [pt_zero,pt_succ];exact e)
    omega
  ·rintro ⟨j,hj,rfl⟩;exact ⟨j,hj,.inl ⟨rfl,rfl⟩⟩
 have hep1:∀ i,i<xs.length→∀ t,Ep (pt xs (o+1) o (i+1)) t↔t=o+sz (.mk 4 s xs a b) - 1:=by
  intro i hi t
  have h1:=ep_pt hn he (i:=i+1) (by rw [hit];exact hi) t
  rw [hit] at h1 hT hpi
  rw [h1,Own,if_neg (by decide),if_neg (by decide),if_pos rfl,hit,hT]
  constructor
  ·rintro ⟨j,hj,⟨e,rfl⟩ | ⟨e,rfl⟩⟩
   ·have:=hpi (i:=i+1) (j:=0) hi (Nat.zero_le _) (by rw [pt_zero];exact e)
    omega
   ·rfl
  ·rintro rfl;exact ⟨i,hi,.inr ⟨pt_succ _ _ _ _,rfl⟩⟩
 have hna:=hF.noAr
 have hlt:=fun i hi=>pt_lt hF.two (o+1) o (by omega) i hi
 have hge:=pt_ge hF.two o
 rw [hit] at hF hT hna hlt hge
 rw [← hT] at hlt
 have hs2:=sz_two hn
 have hna0:∀ c t,¬ Ar o c t:=by have:=hna 0 (Nat.zero_le _);rwa [pt_zero] at this
 constructor
 ·intro k w y h hy
  obtain ⟨k1,t,rfl,h1,h2⟩:=walk_first h (by omega) hna0
  obtain ⟨i,hi,rfl⟩:=(hep0 t).1 h1
  obtain ⟨k2,u,v,e1,rfl,hL,h3⟩:=hF.pass (List.getElem?_eq_getElem hi) (ih _ (List.getElem_mem hi)) h2 (by omega)
  have:=hlt (i+1) hi;have:=hge (i+1) hi
  obtain ⟨k3,t,rfl,h4,h5⟩:=walk_first h3 (by omega) (hna (i+1) hi)
  obtain rfl:=(hep1 i hi t).1 h4
  exact ⟨k3,u,v,by omega,rfl,by rw [Lang,if_neg (by decide),if_neg (by decide),if_neg (by decide),if_pos rfl,langC_iff];exact ⟨_,List.getElem_mem hi,hL⟩,h5⟩
 ·intro u hu
  rw [Lang,if_neg (by decide),if_neg (by decide),if_neg (by decide),if_pos rfl,langC_iff] at hu
  obtain ⟨x,hx,hL⟩:=hu
  obtain ⟨i,hi,rfl⟩:=List.getElem_of_mem hx
  obtain ⟨k1,w1⟩:=hF.run (List.getElem?_eq_getElem hi) (ih _ (List.getElem_mem hi)) hL
  have w2:=w1.trans (.eps ((hep1 i hi _).2 rfl) (.nil _))
  rw [List.append_nil] at w2
  exact ⟨_,.eps ((hep0 _).2 ⟨i,hi,rfl⟩) w2⟩
theorem reads_repeat {s:List (Int × Int)} {x:Tree} {a b:Int} (hn:WF (.mk 5 s [x] a b)) (ih:Reads Ep Ar x):Reads Ep Ar (.mk 5 s [x] a b):=by
 intro o he
 obtain ⟨ha,hab⟩:0≤a∧(0≤b→a≤b):=by
  cases hn with
  | mk h1 h2 h3 h4=>obtain ⟨_,_,h⟩:=h3 rfl;exact h
 obtain ⟨xs,hxs⟩:∃ xs,xs=items (.mk 5 s [x] a b):=⟨_,rfl⟩
 have hit:items (.mk 5 s [x] a b)=List.replicate (copies a b) x:=by simp [items]
 have hxm:∀ y,y∈xs→y=x:=fun y hy=>by rw [hxs,hit] at hy;exact (List.mem_replicate.1 hy).2
 have hlen:xs.length=copies a b:=by rw [hxs,hit,List.length_replicate]
 have hget:∀ i,i<xs.length→xs[i]? = some x:=fun i hi=>by rw [List.getElem?_eq_getElem hi,hxm _ (List.getElem_mem hi)]
 have hF:=frame_of hn he (fun k s l a b e=>by cases e;exact ⟨by decide,fun _=>by simp⟩)
 rw [← hxs] at hF
 have hT:=hF.T
 have hpi:=fun {i j:Nat}=>pt_inj hF.two (o:=o+1) (s:=o) (by omega) (i:=i) (j:=j)
 have hm0:b<0→xs.length=a.toNat+1:=fun hb=>by rw [hlen,copies,if_pos hb];omega
 have hmb:¬ b<0→(xs.length:Int)=b:=fun hb=>by rw [hlen,copies,if_neg hb];omega
 have hep:∀ i,i≤xs.length→∀ t,Ep (pt xs (o+1) o i) t↔(i<xs.length∧t=fst xs (o+1) i)∨(a.toNat≤i∧t=o+sz (.mk 5 s [x] a b) - 1)∨(b<0∧i=xs.length∧t=fst xs (o+1) (xs.length - 1)):=by
  intro i hi t
  have h1:=ep_pt hn he (by rw [← hxs];exact hi) t
  rw [← hxs] at h1
  rw [h1,Own,if_neg (by decide),if_neg (by decide),if_neg (by decide),if_pos rfl,← hxs,hT]
  constructor
  ·rintro (⟨j,hj,e,rfl⟩ | ⟨j,hj1,hj2,e,rfl⟩ | ⟨hb,e,rfl⟩)
   ·obtain rfl:=hpi hi (by omega) e;exact .inl ⟨hj,rfl⟩
   ·obtain rfl:=hpi hi hj2 e;exact .inr (.inl ⟨hj1,rfl⟩)
   ·exact .inr (.inr ⟨hb,hpi hi (Nat.le_refl _) e,rfl⟩)
  ·rintro (⟨hj,rfl⟩ | ⟨hj1,rfl⟩ | ⟨hb,rfl,rfl⟩)
   ·exact .inl ⟨i,hj,rfl,rfl⟩
   ·exact .inr (.inl ⟨i,hj1,hi,rfl,rfl⟩)
   ·exact .inr (.inr ⟨hb,rfl,rfl⟩)
 have hna:=hF.noAr
 have hlt:=fun i hi=>pt_lt hF.two (o+1) o (by omega) i hi
 have hge:=pt_ge hF.two o
 rw [← hT] at hlt
 have hs2:=sz_two hn
 have hLang:∀ u,Lang (.mk 5 s [x] a b) u↔∃ j:Nat,a≤(j:Int)∧(b<0∨(j:Int)≤b)∧Pow (fun w=>Lang x w) j u:=by
  intro u
  rw [Lang,if_neg (by decide),if_neg (by decide),if_neg (by decide),if_neg (by decide),if_pos rfl]
  simp only [LangP]
 constructor
 ·have key:∀ k i,i≤xs.length→∀ w y,Walk Ep Ar k w (pt xs (o+1) o i) y→(y<o∨o+sz (.mk 5 s [x] a b)≤y+1) →
    ∃ k' j u v,k'≤k∧w=u++v∧Pow (fun w=>Lang x w) j u∧a.toNat≤i+j∧(b<0∨i+j≤xs.length)∧Walk Ep Ar k' v (o+sz (.mk 5 s [x] a b) - 1) y:=by
   intro k
   induction k using Nat.strongRecOn with
   | ind k ihk =>
    intro i hi w y h hy
    have:=hlt _ hi;have:=hge _ hi
    obtain ⟨k1,t,rfl,h1,h2⟩:=walk_first h (by omega) (hna _ hi)
    rcases (hep _ hi t).1 h1 with ⟨hil,rfl⟩ | ⟨hai,rfl⟩ | ⟨hb,rfl,rfl⟩
    ·obtain ⟨k2,u,v,e1,rfl,hL,h3⟩:=hF.pass (hget i hil) ih h2 (by omega)
     obtain ⟨k3,j,u',v',e2,rfl,hP,e3,e4,h4⟩:=ihk k2 (by omega) (i+1) hil _ _ h3 hy
     exact ⟨k3,j+1,u++u',v',by omega,by simp,⟨u,u',rfl,hL,hP⟩,by omega,by omega,h4⟩
    ·exact ⟨k1,0,[],w,by omega,rfl,rfl,by omega,.inr (by omega),h2⟩
    ·have hm:=hm0 hb
     obtain ⟨k2,u,v,e1,rfl,hL,h3⟩:=hF.pass (hget (xs.length - 1) (by omega)) ih h2 (by omega)
     rw [show xs.length - 1+1=xs.length by omega] at h3
     obtain ⟨k3,j,u',v',e2,rfl,hP,e3,e4,h4⟩:=ihk k2 (by omega) xs.length (Nat.le_refl _) _ _ h3 hy
     exact ⟨k3,j+1,u++u',v',by omega,by simp,⟨u,u',rfl,hL,hP⟩,by omega,.inl hb,h4⟩
  intro k w y h hy
  obtain ⟨k',j,u,v,e1,e2,hP,e3,e4,h4⟩:=key k 0 (Nat.zero_le _) w y (by rw [pt_zero];exact h) hy
  refine ⟨k',u,v,e1,e2,(hLang u).2 ⟨j,by omega,?_,hP⟩,h4⟩
  by_cases hb:b<0
  ·exact .inl hb
  ·right;have:=hmb hb;omega
 · -- a number of copies,from a point on
  have run1:∀ j i,i+j≤xs.length→∀ u,Pow (fun w=>Lang x w) j u→∃ k,Walk Ep Ar k u (pt xs (o+1) o i) (pt xs (o+1) o (i+j)):=by
   intro j
   induction j with
   | zero=>intro i hi u hu;obtain rfl:u=[]:=hu;exact ⟨0,.nil _⟩
   | succ j ihj =>
    intro i hi u hu
    obtain ⟨p,q,rfl,hp,hq⟩:=hu
    obtain ⟨k1,w1⟩:=hF.run (hget i (by omega)) ih hp
    obtain ⟨k2,w2⟩:=ihj (i+1) (by omega) q hq
    rw [show i+1+j=i+(j+1) by omega] at w2
    exact ⟨_,.eps ((hep i (by omega) _).2 (.inl ⟨by omega,rfl⟩)) (w1.trans w2)⟩
  have run2:b<0→∀ j u,Pow (fun w=>Lang x w) j u→∃ k,Walk Ep Ar k u (pt xs (o+1) o xs.length) (pt xs (o+1) o xs.length):=by
   intro hb j
   have hm:=hm0 hb
   induction j with
   | zero=>intro u hu;obtain rfl:u=[]:=hu;exact ⟨0,.nil _⟩
   | succ j ihj =>
    intro u hu
    obtain ⟨p,q,rfl,hp,hq⟩:=hu
    obtain ⟨k1,w1⟩:=hF.run (hget (xs.length - 1) (by omega)) ih hp
    rw [show xs.length - 1+1=xs.length by omega] at w1
    obtain ⟨k2,w2⟩:=ihj q hq
    exact ⟨_,.eps ((hep _ (Nat.le_refl _) _).2 (.inr (.inr ⟨hb,rfl,rfl⟩))) (w1.trans w2)⟩
  intro u hu
  obtain ⟨j,h1,h2,hP⟩:=(hLang u).1 hu
  rcases Nat.lt_or_ge xs.length j with hj | hj
  ·have hb:b<0:=by
    rcases h2 with h2 | h2
    ·exact h2
    ·by_cases hb:b<0
     ·exact hb
     ·have:=hmb hb;omega
   have hm:=hm0 hb
   rw [show j=xs.length+(j - xs.length) by omega] at hP
   obtain ⟨p,q,rfl,hp,hq⟩:=(pow_add _ _ _ _).1 hP
   obtain ⟨k1,w1⟩:=run1 xs.length 0 (by omega) p hp
   obtain ⟨k2,w2⟩:=run2 hb _ q hq
   rw [Nat.zero_add,pt_zero] at w1
   have w3:=(w1.trans w2).trans (.eps ((hep _ (Nat.le_refl _) _).2 (.inr (.inl ⟨by omega,rfl⟩))) (.nil _))
   rw [List.append_nil] at w3
   exact ⟨_,w3⟩
  ·obtain ⟨k1,w1⟩:=run1 j 0 (by omega) u hP
   rw [Nat.zero_add,pt_zero] at w1
   have w3:=w1.trans (.eps ((hep _ hj _).2 (.inr (.inl ⟨by omega,rfl⟩))) (.nil _))
   rw [List.append_nil] at w3
   exact ⟨_,w3⟩
theorem reads {n:Tree} (hn:WF n):Reads Ep Ar n:=by
 induction hn with
 | @mk k set sub a b h1 h2 h3 h4 ih =>
  have hw:WF (.mk k set sub a b):=.mk h1 h2 h3 h4
  rcases h1 with rfl | rfl | rfl | rfl | rfl
  ·obtain rfl:=h2 (.inl rfl);exact reads_empty _ _ _
  ·obtain rfl:=h2 (.inr rfl);exact reads_set _ _ _
  ·exact reads_join hw ih
  ·exact reads_choice hw ih
  ·obtain ⟨x,rfl,_⟩:=h3 rfl
   exact reads_repeat hw (ih x (by simp))
theorem reads_all {n:Tree} (hn:WF n) (he:Emb Ep Ar n 0) (hE:∀ t,¬ Ep (sz n - 1) t) (hA:∀ c t,¬ Ar (sz n - 1) c t) (w:List Int):(∃ k,Walk Ep Ar k w 0 (sz n - 1))↔Lang n w:=by
 have h2:=sz_two hn
 have hr:=reads hn 0 he
 rw [Nat.zero_add] at hr
 constructor
 ·rintro ⟨k,h⟩
  obtain ⟨k',u,v,_,rfl,hL,h3⟩:=hr.1 k w _ h (.inr (by omega))
  cases h3 with
  | nil=>rwa [List.append_nil]
  | eps h _=>exact absurd h (hE _)
  | arc h _=>exact absurd h (hA _ _)
 ·exact fun h=>hr.2 w h
end Pat
/- Automata: closures,steps,and what they accept. Plain: no program. -/

set_option linter.unusedVariables false
set_option linter.unusedSimpArgs false
namespace Pat
structure Au where
 start:Int
 accept:Int
 arcs:List (List Arc)
 emp:List (List Int)
 deriving Inhabited
def inR (n:Nat) (z:Int):Prop:=0≤z∧z<n
def scalar (r:Int):Prop:=0≤r∧r≤1114111∧(r<55296∨57343<r)
structure Au.Proper (A:Au):Prop where
 pos:1≤A.arcs.length
 most:A.arcs.length≤3000
 same:A.emp.length=A.arcs.length
 start:inR A.arcs.length A.start
 accept:inR A.arcs.length A.accept
 arcs:∀ l,l∈A.arcs→∀ x,x∈l→scalar x.1∧scalar x.2.1∧x.1≤x.2.1∧inR A.arcs.length x.2.2
 emp:∀ l,l∈A.emp→∀ z,z∈l→inR A.arcs.length z
inductive Reach (A:Au):Int→Int→Prop
 | refl (x:Int):Reach A x x
 | step {x y z:Int}:y∈A.emp.getD x.toNat []→Reach A y z→Reach A x z
theorem Reach.trans {A:Au} {x y z:Int} (h:Reach A x y) (h':Reach A y z):Reach A x z:=by
 induction h with
 | refl=>exact h'
 | step h1 h2 ih=>exact .step h1 (ih h')
theorem getD_mem_of {α:Type} {l:List (List α)} {i:Nat} {x:α} (h:x∈l.getD i []):∃ r,r∈l∧x∈r:=by
 rw [List.getD_eq_getElem?_getD] at h
 cases hi:l[i]? with
 | none=>rw [hi] at h;cases h
 | some r=>rw [hi] at h;exact ⟨r,List.mem_of_getElem? hi,h⟩
theorem Reach.inR {A:Au} (hp:A.Proper) {x y:Int} (h:Reach A x y) (hx:inR A.arcs.length x):inR A.arcs.length y:=by
 induction h with
 | refl=>exact hx
 | step h1 h2 ih =>
  obtain ⟨r,hr,hz⟩:=getD_mem_of h1
  exact ih (hp.emp r hr _ hz)
def Got (A:Au) (l:List Int) (z:Int):Prop:=∃ x,x∈l∧inR A.arcs.length x∧Reach A x z
open Classical in
noncomputable def closM (A:Au) (l:List Int):List Int:=((List.range A.arcs.length).filter fun (s:Nat)=>decide (Got A l (s:Int))).map fun (s:Nat)=>(s:Int)
theorem mem_clos {A:Au} (hp:A.Proper) (l:List Int) (z:Int):z∈closM A l↔Got A l z:=by
 unfold closM
 simp only [List.mem_map,List.mem_filter,List.mem_range,decide_eq_true_eq]
 constructor
 ·rintro ⟨s,⟨_,h⟩,rfl⟩;exact h
 ·rintro ⟨x,h1,h2,h3⟩
  have h4:=h3.inR hp h2
  refine ⟨z.toNat,⟨by have:=h4.1;have:=h4.2;omega,x,h1,h2,?_⟩,by have:=h4.1;omega⟩
  rw [show ((z.toNat:Nat):Int)=z by have:=h4.1;omega];exact h3
theorem clos_congr {A:Au} {l l':List Int} (h:∀ z,Got A l z↔Got A l' z):closM A l=closM A l':=by
 unfold closM
 congr 1
 refine List.filter_congr fun s _=>?_
 exact decide_eq_decide.2 (h s)
theorem from_self {A:Au} {l:List Int} {z:Int} (h:z∈l) (hr:inR A.arcs.length z):Got A l z:=⟨z,h,hr,.refl _⟩
theorem from_inR {A:Au} (hp:A.Proper) {l:List Int} {z:Int} (h:Got A l z):inR A.arcs.length z:=by
 obtain ⟨x,_,h2,h3⟩:=h
 exact h3.inR hp h2
theorem clos_clos {A:Au} (hp:A.Proper) (l:List Int):closM A (closM A l)=closM A l:=by
 refine clos_congr fun z=>⟨?_,fun h=>from_self ((mem_clos hp l z).2 h) (from_inR hp h)⟩
 rintro ⟨x,h1,h2,h3⟩
 obtain ⟨y,k1,k2,k3⟩:=(mem_clos hp l x).1 h1
 exact ⟨y,k1,k2,k3.trans h3⟩
def hitsC (c:Int) (l:List Arc):List Int:=l.filterMap fun x=>if x.1≤c∧c≤x.2.1 then some x.2.2 else none
def targets (A:Au) (l:List Int) (c:Int):List Int:=l.flatMap fun s=>hitsC c (A.arcs.getD s.toNat [])
theorem mem_hits {c z:Int} {l:List Arc}:z∈hitsC c l↔∃ lo hi,(lo,hi,z)∈l∧lo≤c∧c≤hi:=by
 unfold hitsC
 simp only [List.mem_filterMap]
 constructor
 ·rintro ⟨⟨lo,hi,t⟩,h1,h2⟩
  split at h2
  ·rename_i h;cases h2;exact ⟨lo,hi,h1,h.1,h.2⟩
  ·cases h2
 ·rintro ⟨lo,hi,h1,h2,h3⟩;exact ⟨(lo,hi,z),h1,by rw [if_pos ⟨h2,h3⟩]⟩
theorem mem_targets {A:Au} {l:List Int} {c z:Int}:z∈targets A l c↔∃ s,s∈l∧z∈hitsC c (A.arcs.getD s.toNat []):=by simp [targets]
theorem targets_append (A:Au) (l m:List Int) (c:Int):targets A (l++m) c=targets A l c++targets A m c:=by simp [targets]
theorem targets_inR {A:Au} (hp:A.Proper) {l:List Int} {c z:Int} (h:z∈targets A l c):inR A.arcs.length z:=by
 obtain ⟨s,_,h⟩:=mem_targets.1 h
 obtain ⟨lo,hi,h,_⟩:=mem_hits.1 h
 obtain ⟨r,hr,hz⟩:=getD_mem_of h
 exact (hp.arcs r hr _ hz).2.2.2
noncomputable def stepM (A:Au) (l:List Int) (c:Int):List Int:=closM A (targets A l c)
noncomputable def runM (A:Au) (w:List Int):List Int:=w.foldl (stepM A) (closM A [A.start])
noncomputable def acceptM (A:Au) (w:List Int):Prop:=A.accept∈runM A w
theorem run_closed {A:Au} (hp:A.Proper):∀ w:List Int,closM A (runM A w)=runM A w:=by
 intro w
 have:∀ (w:List Int) (l:List Int),closM A l=l→closM A (w.foldl (stepM A) l)=w.foldl (stepM A) l:=by
  intro w
  induction w with
  | nil=>intro l h;exact h
  | cons c w ih=>intro l h;exact ih _ (clos_clos hp _)
 exact this w _ (clos_clos hp _)
/- The automaton as a graph on numbers. -/
def EpA (A:Au) (x t:Nat):Prop:=(t:Int)∈A.emp.getD x []
def ArA (A:Au) (x:Nat) (c:Int) (t:Nat):Prop:=ArcIn A.arcs x c t
theorem reach_walk {A:Au} (hp:A.Proper) {x:Nat} {z:Int} (h:Reach A (x:Int) z):∃ t k:Nat,z=t∧Walk (EpA A) (ArA A) k [] x t:=by
 generalize hx:(x:Int)=x' at h
 induction h generalizing x with
 | refl=>exact ⟨x,0,hx.symm,.nil _⟩
 | @step x' y z h1 h2 ih =>
  subst hx
  rw [Int.toNat_natCast] at h1
  obtain ⟨r,hr,hz⟩:=getD_mem_of h1
  have h0:=(hp.emp r hr _ hz).1
  obtain ⟨t,k,rfl,hw⟩:=ih (x:=y.toNat) (by omega)
  exact ⟨t,k+1,rfl,.eps (show ((y.toNat:Nat):Int)∈_ by rw [show ((y.toNat:Nat):Int)=y by omega];exact h1) hw⟩
theorem walk_reach {A:Au} {k:Nat} {w:List Int} {x t:Nat} (h:Walk (EpA A) (ArA A) k w x t) (hw:w=[]):Reach A (x:Int) (t:Int):=by
 induction h with
 | nil=>exact .refl _
 | eps h1 h2 ih=>exact .step (by rw [Int.toNat_natCast];exact h1) (ih hw)
 | arc=>cases hw
theorem walk_snoc {Ep:Nat→Nat→Prop} {Ar:Nat→Int→Nat→Prop} {k:Nat} {w:List Int} {x z:Nat} (h:Walk Ep Ar k w x z):∀ (w':List Int) (c:Int),w=w'++[c] →
  ∃ k1 k2 y y',Walk Ep Ar k1 w' x y∧Ar y c y'∧Walk Ep Ar k2 [] y' z:=by
 induction h with
 | nil=>intro w' c h;simp at h
 | eps h1 h2 ih =>
  intro w' c h
  obtain ⟨k1,k2,y,y',a1,a2,a3⟩:=ih w' c h
  exact ⟨k1+1,k2,y,y',.eps h1 a1,a2,a3⟩
 | @arc k d w x y z h1 h2 ih =>
  intro w' c h
  cases w' with
  | nil =>
   simp only [List.nil_append,List.cons.injEq] at h
   obtain ⟨rfl,rfl⟩:=h
   exact ⟨0,k,x,y,.nil _,h1,h2⟩
  | cons e w' =>
   simp only [List.cons_append,List.cons.injEq] at h
   obtain ⟨rfl,h⟩:=h
   obtain ⟨k1,k2,y1,y',a1,a2,a3⟩:=ih w' c h
   exact ⟨k1+1,k2,y1,y',.arc h1 a1,a2,a3⟩
theorem run_snoc (A:Au) (w:List Int) (c:Int):runM A (w++[c])=stepM A (runM A w) c:=by simp [runM]
theorem mem_run {A:Au} (hp:A.Proper):∀ (n:Nat) (w:List Int),w.length=n→∀ z,z∈runM A w↔∃ k t:Nat,z=t∧Walk (EpA A) (ArA A) k w A.start.toNat t:=by
 have hs:=hp.start
 have hst:((A.start.toNat:Nat):Int)=A.start:=by have:=hs.1;omega
 intro n
 induction n with
 | zero =>
  intro w hw z
  obtain rfl:=List.length_eq_zero_iff.1 hw
  show z∈closM A [A.start]↔_
  rw [mem_clos hp]
  constructor
  ·rintro ⟨x,h1,h2,h3⟩
   rw [List.mem_singleton] at h1;subst h1
   rw [← hst] at h3
   obtain ⟨t,k,h4,h5⟩:=reach_walk hp h3
   exact ⟨k,t,h4,h5⟩
  ·rintro ⟨k,t,rfl,h⟩
   have:=walk_reach h rfl
   rw [hst] at this
   exact ⟨_,by simp,hs,this⟩
 | succ n ih =>
  intro w hw z
  obtain ⟨w',c,rfl⟩:∃ w' c,w=w'++[c]:=⟨w.dropLast,w.getLast (by intro h;rw [h] at hw;cases hw),(List.dropLast_concat_getLast _).symm⟩
  have hl:w'.length=n:=by simpa using hw
  rw [run_snoc]
  unfold stepM
  rw [mem_clos hp]
  constructor
  ·rintro ⟨x,h1,h2,h3⟩
   obtain ⟨s,hs1,hx⟩:=mem_targets.1 h1
   obtain ⟨k1,t1,rfl,w1⟩:=(ih w' hl s).1 hs1
   obtain ⟨lo,hi,hm,hc⟩:=mem_hits.1 hx
   rw [Int.toNat_natCast] at hm
   have hx0:((x.toNat:Nat):Int)=x:=by have:=h2.1;omega
   rw [← hx0] at h3 hm
   obtain ⟨t,k2,rfl,w2⟩:=reach_walk hp h3
   have w3:Walk (EpA A) (ArA A) (k2+1) ([c]++[]) t1 t:=.arc ⟨lo,hi,hm,hc⟩ w2
   exact ⟨_,t,rfl,by have:=w1.trans w3;simpa using this⟩
  ·rintro ⟨k,t,rfl,h⟩
   obtain ⟨k1,k2,y,y',a1,⟨lo,hi,hm,hc⟩,a3⟩:=walk_snoc h w' c rfl
   have h1:(y':Int)∈targets A (runM A w') c:=mem_targets.2 ⟨y,(ih w' hl y).2 ⟨k1,y,rfl,a1⟩,mem_hits.2 ⟨lo,hi,by rw [Int.toNat_natCast];exact hm,hc⟩⟩
   exact ⟨y',h1,targets_inR hp h1,walk_reach a3 rfl⟩
theorem accept_iff {A:Au} (hp:A.Proper) (w:List Int):acceptM A w↔∃ k,Walk (EpA A) (ArA A) k w A.start.toNat A.accept.toNat:=by
 have ha:((A.accept.toNat:Nat):Int)=A.accept:=by have:=hp.accept.1;omega
 unfold acceptM
 rw [mem_run hp _ w rfl]
 constructor
 ·rintro ⟨k,t,h,hw⟩
  obtain rfl:t=A.accept.toNat:=by omega
  exact ⟨k,hw⟩
 ·rintro ⟨k,h⟩;exact ⟨k,_,ha.symm,h⟩
end Pat
set_option linter.unusedVariables false
set_option linter.unusedSimpArgs false
set_option maxRecDepth 100000
namespace Go.Proofs.YtngdkenddfdhaaaGreatDoor
open Go Nv Pat
def st0:St:=⟨[],[]⟩
def buildM (n:Tree):Au:=⟨0,(partB n st0).2,(partB n st0).1.A,(partB n st0).1.E.map sortI⟩
def auF (A:Au):List AV:=[.d (.int .i64 A.start),.d (.int .i64 A.accept),.d (rowsD 3 (arcsL A.arcs)),.d (rowsD 1 (intsL A.emp))]
def auA (A:Au):AV:=.agg (auF A)
def auZ:AV:=.agg [.d (.int .i64 0),.d (.int .i64 0),.d .nilslice,.d .nilslice]
def buildE (n:Tree):Int:=if chkE n=0 then (if 3000<szP n then 5 else 0) else chkE n
def buildA (n:Tree):AV:=if buildE n=0 then auA (buildM n) else auZ
theorem Rw.thaw {P:Program} {σ:Nv.ST} {e:ET} {t:Nat} {v:AV} {L:List (List DV)} {F:Nat→Prop} (h:Rw σ e t v L F):∃ τ,Thaws P v (.d (rowsD e.n L)) σ τ∧∀ k,¬ F k→stGet τ k=stGet σ k:=by
 rcases h with ⟨rfl,rfl⟩ | ⟨b,g,n,xs,rfl,hr⟩
 ·exact ⟨σ,Thaws.deep (q:=e.n) (by simp [rDeep,Res.holds,rowsD]),fun _ _=>rfl⟩
 ·obtain ⟨σ',h1,h2,h3⟩:=hr.deep
  have hbl:=lt_of_get hr.row (by simp)
  refine ⟨stSet σ' b .dead,Thaws.deep (q:=e.n) ?_,fun k hk=>?_⟩
  ·simp only [rDeep,hr.row,Res.holds]
   refine ⟨⟨trivial,trivial,by rw [hr.num,hr.len]⟩,?_⟩
   rw [h1]
   simp only [Res.holds]
   refine ⟨by simp [DV.isAgg],?_⟩
   simp [rowsD]
  ·rw [stGet_set_ne (fun e=>hk (by rw [e];exact hr.mem))]
   exact h3 k hk
theorem intsL_set (E:List (List Int)) (i:Nat) (l:List Int):intsL (E.set i l)=(intsL E).set i (l.map intD):=by simp [intsL,List.map_set]
theorem set_getD_self {α:Type} {l:List α} {i:Nat} {d:α} (h:i<l.length):l.set i (l.getD i d)=l:=by
 rw [List.getD_eq_getElem?_getD,List.getElem?_eq_getElem h];simp
theorem two_sort {σ σ':Nv.ST} {p b g n:Nat} {va:AV} {A:List (List DV)} {E:List (List Int)} {F G H:Nat→Prop} {xs:List AV} (hT:Two σ p 48 ⟨3,59⟩ ⟨1,3⟩ 55 51 A (intsL E) va (.rown b g 0 n) F G H)
  (hr:Nv.Rows σ ⟨1,3⟩ 51 b g n (intsL E) G xs) {i:Nat} (hi:i<E.length) {l:List Int} (hc:Cell σ' ⟨1,3⟩ (xs.getD i .any) (l.map intD)) (hl:σ'.length=σ.length) (hk:∀ k,blkOf (xs.getD i .any)≠some k→stGet σ' k=stGet σ k)
  (hnil:blkOf (xs.getD i .any)=none→E.getD i []=l):∃ G' H',Two σ' p 48 ⟨3,59⟩ ⟨1,3⟩ 55 51 A (intsL (E.set i l)) va (.rown b g 0 n) F G' H'∧∀ k,H' k→H k:=by
 have hil:i<(intsL E).length:=by simpa [intsL] using hi
 cases hq:blkOf (xs.getD i .any) with
 | none =>
  have he:E.set i l=E:=by rw [← hnil hq];exact set_getD_self hi
  rw [he]
  exact ⟨G,H,hT.keep (by omega) fun k _=>hk k (by rw [hq];simp),fun k h=>h⟩
 | some q =>
  have hxl:i<xs.length:=by rw [hr.len];exact hil
  have hne:q≠b:=by
   intro e
   subst e
   rcases hr.cell i hil with ⟨h1,_⟩ | ⟨b',g1,n1,_,h1,h2⟩
   ·rw [h1] at hq;cases hq
   ·rw [h1] at hq
    simp only [blkOf,Option.some.injEq] at hq
    subst hq
    rw [hr.row] at h2;cases h2
  have hG:=hr.blk i q hil hq
  rw [intsL_set]
  refine ⟨_,_,hT.writeE hr hil (c:=xs.getD i .any) (by rw [set_getD_self hxl,hk b (by rw [hq];simpa using hne)];exact hr.row) hc hq (.inr hq) rfl (fun k _ _ hb=>hk k hb) (by omega),?_⟩
  rintro k (h | rfl)
  ·exact h
  ·exact hT.gh _ hG
theorem build9 (n:Tree) (ht:Thin n) (hn:n.nodes≤1000000):PCall Tryz.prog 9 [nodeA n] (.tuple [buildA n,.d (.int .i64 (buildE n))]):=by
 refine fn9.thaw noHint (Nat.le_refl _) (by simp only [go_sem,nodeA,nodeF,setD]) (by unfold buildA;split <;> rfl) ?_
 simp (disch:=omega) only [go_sem,nodeA,nodeF,setD]
 refine (check13 n ht).at ?_
 by_cases hc:chkE n=0
 ·simp (disch:=omega) only [go_sem,hc]
  obtain ⟨hn120,hc0⟩:=chkE_ok hc
  refine (size24 n hc0 hn).at ?_
  by_cases hbig:3000<szP n
  ·have hE:buildE n=5:=by rw [buildE,if_pos hc,if_pos hbig]
   have hA:buildA n=auZ:=by rw [buildA,if_neg (by rw [hE];decide)]
   have hbig':(3000:Int)<(szP n:Int):=by omega
   simp (disch:=omega) only [go_sem,hbig']
   rw [hA,hE]
   exact ⟨_,_,rfl,Thaws.refl _ _⟩
  ·have hE:buildE n=0:=by rw [buildE,if_pos hc,if_neg hbig]
   have hA:buildA n=auA (buildM n):=by rw [buildA,if_pos hE]
   have hbig':¬ (3000:Int)<(szP n:Int):=by omega
   have hsz:sz n≤3000:=by unfold szP at hbig;omega
   simp (disch:=omega) only [go_sem,hbig']
   have hwf:=chk_wf n hc0
   have hO0:Okb st0:=⟨rfl,fun f=>by simp [st0],fun f z hz=>by simp [st0] at hz⟩
   obtain ⟨S,hS⟩:∃ S,S=[Blk.box 25 [AV.d (.int .i64 n.kind),AV.d (.list 2 (n.set.map rgD)),AV.d (.list 5 (n.sub.map nodeD)),AV.d (.int .i64 n.min),AV.d (.int .i64 n.max)],
    Blk.box 31 [AV.d (.int .i64 0),AV.d (.int .i64 0),AV.d .nilslice,AV.d .nilslice],Blk.box 48 [AV.d .nilslice,AV.d .nilslice]]:=⟨_,rfl⟩
   have hB0:Bld S 2 st0 (fun k=>k=2):=by
    refine ⟨.d .nilslice,.d .nilslice,fun _=>False,fun _=>False,?_⟩
    exact ⟨by rw [hS];rfl,.inl ⟨rfl,rfl⟩,.inl ⟨rfl,rfl⟩,fun _ h=>h.elim,⟨id,id⟩,fun _ h=>h.elim,fun _ h=>h.elim,rfl,fun k e=>by rw [e,hS];simp⟩
   rw [← hS]
   refine (part_one hwf (thin_sets n ht) hB0 hO0 (by simp only [st0,List.length_nil];omega)).at ?_
   rintro v σ1 ⟨rfl,H1,hB1,hK1⟩
   have hres:stGet σ1 1=.box 31 [AV.d (.int .i64 0),AV.d (.int .i64 0),AV.d .nilslice,AV.d .nilslice]∧¬ H1 1:=hK1.stay (by rw [hS];rfl) (by simp) (by omega)
   have hOk:=part_ok hwf st0 hO0
   have hplen:=(part_len hwf hO0).1
   simp only at hOk
   obtain ⟨hOk,_,_⟩:=hOk
   have hbA:buildM n=⟨0,(partB n st0).2,(partB n st0).1.A,(partB n st0).1.E.map sortI⟩:=rfl
   generalize partB n st0=R at *
   obtain ⟨va,ve,F,G,hT⟩:=hB1
   have hp:=hT.box
   have hEl:(intsL R.1.E).length=R.1.E.length:=by simp [intsL]
   have hsz2:=sz_two hwf
   have hEA:=hOk.len
   rcases hT.e with ⟨_,hE0⟩ | ⟨b,g,N,xs,rfl,hr⟩
   ·have h0:=congrArg List.length hE0
    rw [hEl] at h0;simp only [List.length_nil] at h0;simp only [st0,List.length_nil] at hplen;omega
   rcases hT.a with ⟨_,hA0⟩ | ⟨bA,gA,NA,xsA,rfl,hrA⟩
   ·have h0:=congrArg List.length hA0
    rw [arcsL_len] at h0;simp only [List.length_nil] at h0;simp only [st0,List.length_nil] at hplen;omega
   have hr1:=hr.row
   have hN:N=R.1.E.length:=by rw [hr.num,hEl]
   simp (disch:=omega) only [go_sem,hp,hr1]
   clear hr hr1
   subst hN
   have hNs:R.1.E.length≤3000:=by simp only [st0,List.length_nil] at hplen;omega
   refine wL_ind (fun (i:Nat) fr τ=>i≤R.1.E.length∧fr 2=.ptr 1 0∧fr 5=.ptr 2 0∧fr 6=.d (.int .i64 0)∧fr 7=.d (.int .i64 R.2)∧fr 31=.rown b g 0 R.1.E.length∧fr 32=.d (.int .i64 R.1.E.length)∧fr 33=.d (.int .i64 i) ∧
    ∃ (G2 H2:Nat→Prop),stGet τ 1=.box 31 [AV.d (.int .i64 0),AV.d (.int .i64 0),AV.d .nilslice,AV.d .nilslice]∧¬ H2 1 ∧
     Two τ 2 48 ⟨3,59⟩ ⟨1,3⟩ 55 51 (arcsL R.1.A) (intsL ((R.1.E.take i).map sortI++R.1.E.drop i)) (.rown bA gA 0 NA) (.rown b g 0 R.1.E.length) F G2 H2) (fun i=>R.1.E.length - i) ?_ 0 ?_
   ·rintro i fr τ ⟨hi,f2,f5,f6,f7,f31,f32,f33,G2,H2,hz,hzH,hT2⟩ ih2
    have hlen:((R.1.E.take i).map sortI++R.1.E.drop i).length=R.1.E.length:=by simp;omega
    by_cases hlt:i<R.1.E.length
    ·rcases hT2.e with ⟨he,_⟩ | ⟨b',g',n',xs',he,hr⟩
     ·cases he
     cases he
     have hr1:=hr.row
     have hil:i<(intsL ((R.1.E.take i).map sortI++R.1.E.drop i)).length:=by simp only [intsL,List.length_map];omega
     have hxl:i<xs'.length:=by rw [hr.len];exact hil
     have hc:=hr.cell i hil
     rw [intsL_get] at hc
     have hget:((R.1.E.take i).map sortI++R.1.E.drop i).getD i []=R.1.E.getD i []:=by
      rw [List.getD_eq_getElem?_getD,List.getElem?_append_right (by simp;omega)]
      simp [List.getD_eq_getElem?_getD]
      congr 2;omega
     rw [hget] at hc
     simp (disch:=omega) only [go_sem,f2,f5,f31,f32,f33,hlt,hr1,hxl,Nat.zero_add]
     refine (sort26c hc ?_).at ?_
     ·have:=hOk.row i;omega
     rintro v σ' ⟨rfl,hsl,hsc,hsk⟩
     obtain ⟨G3,H3,hT3,hH3⟩:=two_sort hT2 hr (by omega) hsc hsl hsk (fun hn=>by
      rcases hc with ⟨h1,h2⟩ | ⟨b',g1,n1,_,h1,h2⟩
      ·have:R.1.E.getD i []=[]:=by simpa using h2
       rw [hget,this,sortI_nil]
      ·rw [h1] at hn;cases hn)
     have hset:((R.1.E.take i).map sortI++R.1.E.drop i).set i (sortI (R.1.E.getD i []))=(R.1.E.take (i+1)).map sortI++R.1.E.drop (i+1):=by
      rw [List.set_append_right _ _ (by simp;omega)]
      rw [show i - ((R.1.E.take i).map sortI).length=0 by simp;omega,drop_cons _ i hlt,List.set_cons_zero,take_succ' _ i hlt,List.map_append,List.append_assoc]
      rfl
     rw [hset] at hT3
     simp (disch:=omega) only [go_sem,f33]
     refine ih2 (i+1) _ _ (by omega) ⟨by omega,?_,?_,?_,?_,?_,?_,?_,G3,H3,?_,fun h=>hzH (hH3 1 h),hT3⟩
     ·simp (disch:=omega) only [go_sem,f2]
     ·simp (disch:=omega) only [go_sem,f5]
     ·simp (disch:=omega) only [go_sem,f6]
     ·simp (disch:=omega) only [go_sem,f7]
     ·simp (disch:=omega) only [go_sem,f31]
     ·simp (disch:=omega) only [go_sem,f32]
     ·simp (disch:=omega) only [go_sem]
     ·rw [hsk 1 (fun e=>hzH (hT2.gh 1 (hr.blk i 1 hil e)))];exact hz
    ·have hie:i=R.1.E.length:=by omega
     subst hie
     rw [List.take_length,List.drop_length,List.append_nil] at hT2
     have hp2:=hT2.box
     have hzl:=lt_of_get hz (by simp)
     simp (disch:=omega) only [go_sem,f2,f5,f6,f7,f31,f32,f33,hlt,hp2,hz,stGet_set_eq,apR]
     rw [hA,hE,hbA]
     have hT3:=hT2.keep (σ':=stSet τ 1 (.box 31 [AV.d (.int .i64 0),AV.d (.int .i64 R.2),AV.rown bA gA 0 NA,AV.rown b g 0 R.1.E.length])) (by rw [stSet_len];exact Nat.le_refl _) (fun k hk=>stGet_set_ne fun e=>hzH (e ▸ hk))
     obtain ⟨τ1,t1,k1⟩:=Rw.thaw (P:=Tryz.prog) hT3.a
     obtain ⟨τ2,t2,_⟩:=Rw.thaw (P:=Tryz.prog) (hT3.e.keep fun k hk=>k1 k fun hF=>hT3.dis k hF hk)
     refine ⟨_,τ2,rfl,?_⟩
     exact Thaws.tuple (.cons (Thaws.agg (.cons (Thaws.refl _ _) (.cons (Thaws.refl _ _) (.cons t1 (.cons t2 (.nil _)))))) (.cons (Thaws.refl _ _) (.nil _)))
   ·refine ⟨by omega,?_,?_,?_,?_,?_,?_,?_,G,H1,hres.1,hres.2,by simpa using hT⟩
    all_goals simp (disch:=omega) only [go_sem,st0,St.len,List.length_nil]
 ·have hE:buildE n=chkE n:=by rw [buildE,if_neg hc]
  have hA:buildA n=auZ:=by rw [buildA,if_neg (by rw [hE];exact hc)]
  simp (disch:=omega) only [go_sem,hc]
  rw [hA,hE]
  exact ⟨_,_,rfl,Thaws.refl _ _⟩
end Go.Proofs.YtngdkenddfdhaaaGreatDoor
set_option linter.unusedVariables false
set_option linter.unusedSimpArgs false
set_option maxRecDepth 100000
namespace Go.Proofs.YtngdkenddfdhaaaGreatDoor
open Go Nv Pat
def inZ (n:Nat) (z:Int):Bool:=decide (0≤z) && decide (z<n)
def arcB (n:Nat) (x:Arc):Bool:=charB x.1 && charB x.2.1 && decide (x.1≤x.2.1) && inZ n x.2.2
def rowB (A:Au) (j:Nat):Bool:=(A.arcs.getD j []).all (arcB A.arcs.length) && (A.emp.getD j []).all (inZ A.arcs.length)
def okA (A:Au):Bool:=decide (1≤A.arcs.length) && decide (A.arcs.length≤3000) && decide (A.emp.length=A.arcs.length) && inZ A.arcs.length A.start && inZ A.arcs.length A.accept && (List.range A.arcs.length).all (rowB A)
structure Fit (A:Au):Prop where
 arcs:A.arcs.length≤1000000000
 emp:A.emp.length≤1000000000
 arow:∀ l,l∈A.arcs→l.length≤1000000000
 erow:∀ l,l∈A.emp→l.length≤1000000000
theorem charB_iff2 (r:Int):charB r=true↔scalar r:=by
 rw [charB_iff];unfold scalar;omega
theorem char38 (r:Int):PCall Tryz.prog 38 [.d (.int .i32 r)] (.d (.bool (charB r))):=by
 refine fn38.pure noHint (Nat.le_refl _) (by simp only [go_sem]) (by simp only [go_sem]) ?_
 simp (disch:=omega) only [go_sem]
 by_cases h1:0≤r
 ·by_cases h2:r≤1114111
  ·by_cases h3:r<55296
   ·have e:charB r=true:=(charB_iff r).2 (by omega)
    simp (disch:=omega) only [go_sem,h1,h2,h3,e]
   ·by_cases h4:57343<r
    ·have e:charB r=true:=(charB_iff r).2 (by omega)
     simp (disch:=omega) only [go_sem,h1,h2,h3,h4,e]
    ·have e:charB r=false:=by
      cases hc:charB r
      ·rfl
      ·have:=(charB_iff r).1 hc;omega
     simp (disch:=omega) only [go_sem,h1,h2,h3,h4,e]
  ·have e:charB r=false:=by
    cases hc:charB r
    ·rfl
    ·have:=(charB_iff r).1 hc;omega
   simp (disch:=omega) only [go_sem,h1,h2,e]
 ·have e:charB r=false:=by
   cases hc:charB r
   ·rfl
   ·have:=(charB_iff r).1 hc;omega
  simp (disch:=omega) only [go_sem,h1,e]
theorem in37 {σ:Nv.ST} {b n:Nat} (hb:stGet σ b=.box 3 [.d (.int .i64 n)]) (x:Int) :
  RCall Tryz.prog 37 [.d (.int .i64 x),.ptr b 0] σ fun v σ'=>v=.d (.bool (inZ n x))∧σ'=σ:=by
 refine fn37.rel noHint (Nat.le_refl _) ?_
 by_cases h1:0≤x
 ·by_cases h2:x<n
  ·simp (disch:=omega) only [go_sem,hb,h1,h2,inZ]
   exact ⟨_,rfl,rfl⟩
  ·simp (disch:=omega) only [go_sem,hb,h1,h2,inZ]
   exact ⟨_,rfl,rfl⟩
 ·simp (disch:=omega) only [go_sem,hb,h1,inZ]
  exact ⟨_,rfl,rfl⟩
theorem arows_get (A:List (List Arc)) (j:Nat) (h:j<A.length):((arcsL A).map (DV.list 3)).getD j default=.list 3 ((A.getD j []).map arcD):=by
 simp [arcsL,List.getD_eq_getElem?_getD,h]
theorem erows_get (E:List (List Int)) (j:Nat) (h:j<E.length):((intsL E).map (DV.list 1)).getD j default=.list 1 ((E.getD j []).map intD):=by
 simp [intsL,List.getD_eq_getElem?_getD,h]
theorem arc_get (l:List Arc) (i:Nat) (h:i<l.length):(l.map arcD).getD i default=.agg [.int .i32 (l.getD i default).1,.int .i32 (l.getD i default).2.1,.int .i64 (l.getD i default).2.2]:=by
 simp [arcD,List.getD_eq_getElem?_getD,h]
theorem emp_get (l:List Int) (i:Nat) (h:i<l.length):(l.map intD).getD i default=.int .i64 (l.getD i default):=by
 simp [intD,List.getD_eq_getElem?_getD,h]
theorem okA_bad {A:Au} {j:Nat} (hj:j<A.arcs.length) (h:rowB A j=false):okA A=false:=by
 cases ho:okA A
 ·rfl
 ·unfold okA at ho
  simp only [Bool.and_eq_true,List.all_eq_true] at ho
  have:=ho.2 j (List.mem_range.2 hj)
  rw [h] at this;cases this
theorem all_bad {α:Type} [Inhabited α] {l:List α} {f:α→Bool} {i:Nat} (hi:i<l.length) (h:f (l.getD i default)=false):l.all f=false:=by
 cases ha:l.all f
 ·rfl
 ·have:=List.all_eq_true.1 ha _ (getD_mem l i hi)
  rw [h] at this;cases this
theorem all_take {α:Type} [Inhabited α] {l:List α} {f:α→Bool} {i:Nat} (hi:i<l.length) (h1:(l.take i).all f=true) (h2:f (l.getD i default)=true):(l.take (i+1)).all f=true:=by
 rw [take_succ' l i hi,List.all_append,h1,List.all_cons,List.all_nil,h2];rfl
theorem check17 (A:Au) (hf:Fit A):PCall Tryz.prog 17 [auA A] (.d (.int .i64 (if okA A then 0 else 1))):=by
 refine fn17.pure noHint (Nat.le_refl _) (by simp only [go_sem,auA,auF,rowsD]) (by simp only [go_sem]) ?_
 have hla:((arcsL A.arcs).map (DV.list 3)).length=A.arcs.length:=by simp [arcsL]
 have hle:((intsL A.emp).map (DV.list 1)).length=A.emp.length:=by simp [intsL]
 simp (disch:=omega) only [go_sem,auA,auF,rowsD,hla,hle]
 have hfa:=hf.arcs
 have hfe:=hf.emp
 have okf:(decide (1≤A.arcs.length) && decide (A.arcs.length≤3000) && decide (A.emp.length=A.arcs.length))=false→okA A=false:=fun h=>by unfold okA;rw [h];rfl
 by_cases h1:¬ 1≤A.arcs.length
 ·have h1':(A.arcs.length:Int)<1:=by omega
  have e:=okf (by simp [h1])
  simp (disch:=omega) only [go_sem,h1',e]
 have h1:1≤A.arcs.length:=by omega
 have h1':¬ (A.arcs.length:Int)<1:=by omega
 by_cases h2:¬ A.arcs.length≤3000
 ·have h2':(3000:Int)<(A.arcs.length:Int):=by omega
  have e:=okf (by simp [h2])
  simp (disch:=omega) only [go_sem,h1',h2',e]
 have h2:A.arcs.length≤3000:=by omega
 have h2':¬ (3000:Int)<(A.arcs.length:Int):=by omega
 by_cases h3:¬ A.emp.length=A.arcs.length
 ·have h3':¬ (A.emp.length:Int)=(A.arcs.length:Int):=by omega
  have e:=okf (by simp [h3])
  simp (disch:=omega) only [go_sem,h1',h2',h3',hle,e]
 have h3:A.emp.length=A.arcs.length:=by omega
 have h3':(A.emp.length:Int)=(A.arcs.length:Int):=by omega
 simp (disch:=omega) only [go_sem,h1',h2',h3',hle]
 refine (in37 (b:=1) (n:=A.arcs.length) rfl A.start).at ?_
 rintro v σ' ⟨rfl,rfl⟩
 cases h4:inZ A.arcs.length A.start with
 | false =>
  have e:okA A=false:=by unfold okA;rw [h4];simp
  simp (disch:=omega) only [go_sem,h4,e]
 | true =>
 simp (disch:=omega) only [go_sem,h4]
 refine (in37 (b:=1) (n:=A.arcs.length) rfl A.accept).at ?_
 rintro v σ' ⟨rfl,rfl⟩
 cases h5:inZ A.arcs.length A.accept with
 | false =>
  have e:okA A=false:=by unfold okA;rw [h5];simp
  simp (disch:=omega) only [go_sem,h5,e]
 | true =>
 simp (disch:=omega) only [go_sem,h5]
 obtain ⟨B0,hB0⟩:∃ B0,B0=Blk.box 31 [AV.d (.int .i64 A.start),AV.d (.int .i64 A.accept),AV.d (.list 1 ((arcsL A.arcs).map (DV.list 3))),AV.d (.list 1 ((intsL A.emp).map (DV.list 1)))]:=⟨_,rfl⟩
 obtain ⟨B1,hB1⟩:∃ B1,B1=Blk.box 3 [AV.d (.int .i64 A.arcs.length)]:=⟨_,rfl⟩
 refine wL_ind (fun (j:Nat) fr σ=>j≤A.arcs.length∧fr 1=.ptr 0 0∧fr 3=.ptr 1 0∧fr 4=.func (.func 37) [] [.ptr 1 0]∧fr 41=.d (.int .i64 A.arcs.length)∧fr 42=.d (.int .i64 j)∧(∃ τ,σ=B0::B1::τ)∧∀ i,i<j→rowB A i=true) (fun j=>A.arcs.length - j) ?_ 0 ?_
 ·rintro j fr σ ⟨hj,f1,f3,f4,f41,f42,⟨τ,rfl⟩,hok⟩ ih
  by_cases hlt:j<A.arcs.length
  ·have ha:=arows_get A.arcs j hlt
   have he:=erows_get A.emp j (by omega)
   have hrl:=hf.arow (A.arcs.getD j []) (by rw [List.getD_eq_getElem?_getD,List.getElem?_eq_getElem hlt];exact List.getElem_mem _)
   have hre:=hf.erow (A.emp.getD j []) (by rw [List.getD_eq_getElem?_getD,List.getElem?_eq_getElem (by omega)];exact List.getElem_mem _)
   obtain ⟨row,hrow⟩:∃ row,row=A.arcs.getD j []:=⟨_,rfl⟩
   obtain ⟨erow,herow⟩:∃ erow,erow=A.emp.getD j []:=⟨_,rfl⟩
   have hrB:rowB A j=(row.all (arcB A.arcs.length) && erow.all (inZ A.arcs.length)):=by rw [hrow,herow];rfl
   rw [← hrow] at ha hrl
   rw [← herow] at he hre
   simp (disch:=omega) only [go_sem,f1,f3,f4,f41,f42,hlt,hB0,hla,ha,List.length_map]
   refine wL_ind (fun (i:Nat) fr σ=>i≤row.length∧fr 1=.ptr 0 0∧fr 3=.ptr 1 0∧fr 4=.func (.func 37) [] [.ptr 1 0]∧fr 41=.d (.int .i64 A.arcs.length)∧fr 42=.d (.int .i64 j)∧fr 5=.d (.int .i64 j) ∧
    fr 49=.d (.list 3 (row.map arcD))∧fr 50=.d (.int .i64 row.length)∧fr 51=.d (.int .i64 i)∧(∃ τ,σ=B0::B1::τ)∧(row.take i).all (arcB A.arcs.length)=true) (fun i=>row.length - i) ?_ 0 ?_
   ·rintro i fr σ ⟨hi,f1,f3,f4,f41,f42,f5,f49,f50,f51,⟨τ,rfl⟩,hall⟩ ih2
    by_cases hil:i<row.length
    ·have hg:=arc_get row i hil
     have hbad:arcB A.arcs.length (row.getD i default)=false→okA A=false:=fun h=>okA_bad hlt (by rw [hrB,all_bad hil h];rfl)
     have htake:arcB A.arcs.length (row.getD i default)=true→(row.take (i+1)).all (arcB A.arcs.length)=true:=all_take hil hall
     generalize row.getD i default=x at *
     obtain ⟨lo,hi',to⟩:=x
     unfold arcB at hbad htake
     simp (disch:=omega) only [go_sem,f1,f3,f4,f41,f42,f49,f50,f51,hil,hg,apR]
     refine (char38 lo).at ?_
     cases c1:charB lo with
     | false =>
      have e:=hbad (by simp [c1])
      simp (disch:=omega) only [go_sem,c1,e]
     | true =>
     simp (disch:=omega) only [go_sem,c1]
     refine (char38 hi').at ?_
     cases c2:charB hi' with
     | false =>
      have e:=hbad (by simp [c2])
      simp (disch:=omega) only [go_sem,c2,e]
     | true =>
     by_cases c3:¬ lo≤hi'
     ·have e:=hbad (by simp [c3])
      have c3':hi'<lo:=by omega
      simp (disch:=omega) only [go_sem,c2,c3',e]
     have c3:lo≤hi':=by omega
     have c3':¬ hi'<lo:=by omega
     simp (disch:=omega) only [go_sem,c2,c3',f4]
     refine (in37 (b:=1) (n:=A.arcs.length) (by rw [hB1];rfl) to).at ?_
     rintro v σ' ⟨rfl,rfl⟩
     cases c4:inZ A.arcs.length to with
     | false =>
      have e:=hbad (by simp [c4])
      simp (disch:=omega) only [go_sem,c4,e]
     | true =>
     simp (disch:=omega) only [go_sem,c4,f51]
     refine ih2 (i+1) _ _ (by omega) ⟨by omega,?_,?_,?_,?_,?_,?_,?_,?_,?_,⟨_,rfl⟩,htake (by simp [c1,c2,c3,c4])⟩
     ·simp (disch:=omega) only [go_sem,f1]
     ·simp (disch:=omega) only [go_sem,f3]
     ·simp (disch:=omega) only [go_sem,f4]
     ·simp (disch:=omega) only [go_sem,f41]
     ·simp (disch:=omega) only [go_sem,f42]
     ·simp (disch:=omega) only [go_sem,f5]
     ·simp (disch:=omega) only [go_sem,f49]
     ·simp (disch:=omega) only [go_sem,f50]
     ·simp (disch:=omega) only [go_sem]
    ·rw [List.take_of_length_le (by omega)] at hall
     have hlt2:j<A.emp.length:=by omega
     simp (disch:=omega) only [go_sem,f1,f3,f4,f41,f42,f5,f49,f50,f51,hil,hlt2,hB0,hle,he,List.length_map]
     refine wL_ind (fun (i:Nat) fr σ=>i≤erow.length∧fr 1=.ptr 0 0∧fr 3=.ptr 1 0∧fr 4=.func (.func 37) [] [.ptr 1 0]∧fr 41=.d (.int .i64 A.arcs.length)∧fr 42=.d (.int .i64 j) ∧
      fr 88=.d (.list 1 (erow.map intD))∧fr 89=.d (.int .i64 erow.length)∧fr 90=.d (.int .i64 i)∧(∃ τ,σ=B0::B1::τ)∧(erow.take i).all (inZ A.arcs.length)=true) (fun i=>erow.length - i) ?_ 0 ?_
     ·rintro i fr σ ⟨hi,f1,f3,f4,f41,f42,f88,f89,f90,⟨τ,rfl⟩,hall2⟩ ih3
      by_cases hil:i<erow.length
      ·have hg:=emp_get erow i hil
       have hbad:inZ A.arcs.length (erow.getD i default)=false→okA A=false:=fun h=>okA_bad hlt (by rw [hrB,all_bad hil h,Bool.and_false])
       have htake:inZ A.arcs.length (erow.getD i default)=true→(erow.take (i+1)).all (inZ A.arcs.length)=true:=all_take hil hall2
       generalize erow.getD i default=z at *
       simp (disch:=omega) only [go_sem,f1,f3,f4,f41,f42,f88,f89,f90,hil,hg,apR]
       refine (in37 (b:=1) (n:=A.arcs.length) (by rw [hB1];rfl) z).at ?_
       rintro v σ' ⟨rfl,rfl⟩
       cases c4:inZ A.arcs.length z with
       | false =>
        have e:=hbad c4
        simp (disch:=omega) only [go_sem,c4,e]
       | true =>
       simp (disch:=omega) only [go_sem,c4,f90]
       refine ih3 (i+1) _ _ (by omega) ⟨by omega,?_,?_,?_,?_,?_,?_,?_,?_,⟨_,rfl⟩,htake c4⟩
       ·simp (disch:=omega) only [go_sem,f1]
       ·simp (disch:=omega) only [go_sem,f3]
       ·simp (disch:=omega) only [go_sem,f4]
       ·simp (disch:=omega) only [go_sem,f41]
       ·simp (disch:=omega) only [go_sem,f42]
       ·simp (disch:=omega) only [go_sem,f88]
       ·simp (disch:=omega) only [go_sem,f89]
       ·simp (disch:=omega) only [go_sem]
      ·rw [List.take_of_length_le (by omega)] at hall2
       simp (disch:=omega) only [go_sem,f1,f3,f4,f41,f42,f88,f89,f90,hil]
       refine ih (j+1) _ _ (by omega) ⟨by omega,?_,?_,?_,?_,?_,⟨_,rfl⟩,fun i hi=>?_⟩
       ·simp (disch:=omega) only [go_sem,f1]
       ·simp (disch:=omega) only [go_sem,f3]
       ·simp (disch:=omega) only [go_sem,f4]
       ·simp (disch:=omega) only [go_sem,f41]
       ·simp (disch:=omega) only [go_sem]
       ·rcases Nat.lt_or_ge i j with h | h
        ·exact hok i h
        ·obtain rfl:i=j:=by omega
         rw [hrB,hall,hall2];rfl
     ·refine ⟨by omega,?_,?_,?_,?_,?_,?_,?_,?_,⟨τ,by rw [hB0]⟩,rfl⟩
      all_goals simp (disch:=omega) only [go_sem,f1,f3,f4,f41,f42]
   ·refine ⟨by omega,?_,?_,?_,?_,?_,?_,?_,?_,?_,⟨τ,by rw [hB0]⟩,rfl⟩
    all_goals simp (disch:=omega) only [go_sem,f1,f3,f4,f41,f42]
  ·have e:okA A=true:=by
    unfold okA
    rw [h4,h5]
    simp only [Bool.and_eq_true,decide_eq_true_eq,List.all_eq_true,List.mem_range]
    exact ⟨⟨⟨⟨⟨h1,h2⟩,h3⟩,trivial⟩,trivial⟩,fun i hi=>hok i (by omega)⟩
   simp (disch:=omega) only [go_sem,f1,f3,f4,f41,f42,hlt,e]
 ·refine ⟨by omega,?_,?_,?_,?_,?_,⟨[],by rw [hB0,hB1]⟩,fun i hi=>by omega⟩
  all_goals simp (disch:=omega) only [go_sem]
end Go.Proofs.YtngdkenddfdhaaaGreatDoor
/- Closing a set of states,step by step. Plain: no program. -/

set_option linter.unusedVariables false
set_option linter.unusedSimpArgs false
namespace Pat
def Seen (s:List Bool) (z:Int):Prop:=0≤z∧s.getD z.toNat false=true
def pushC (s:List Bool × List Int) (x:Int):List Bool × List Int:=if 0≤x∧x<s.1.length∧s.1.getD x.toNat false=false then (s.1.set x.toNat true,s.2++[x]) else s
def unseen (s:List Bool):Nat:=s.countP fun b => !b
def meas (s:List Bool × List Int):Nat:=2 * unseen s.1+s.2.length
theorem Seen.lt {s:List Bool} {z:Int} (h:Seen s z):z.toNat<s.length:=by
 rcases Nat.lt_or_ge z.toNat s.length with h1 | h1
 ·exact h1
 ·have:=h.2;rw [List.getD_eq_getElem?_getD,List.getElem?_eq_none h1] at this;cases this
theorem Seen.inR {s:List Bool} {n:Nat} (hl:s.length=n) {z:Int} (h:Seen s z):inR n z:=by
 have h1:=h.lt
 have h2:=h.1
 exact ⟨h2,by omega⟩
theorem unseen_set:∀ (s:List Bool) (i:Nat),i<s.length→s.getD i false=false→unseen (s.set i true)+1=unseen s
 | [],i,h,_=>by simp at h
 | b::s,0,_,h=>by
  have:b=false:=h
  subst this
  simp [unseen]
 | b::s,i+1,h,hb=>by
  have:=unseen_set s i (by simpa using h) (by simpa using hb)
  unfold unseen at this ⊢
  simp only [List.set_cons_succ,List.countP_cons]
  omega
theorem push_meas (s:List Bool × List Int) (x:Int):meas (pushC s x)≤meas s:=by
 unfold pushC
 split
 ·rename_i h
  have:=unseen_set s.1 x.toNat (by have:=h.1;have:=h.2.1;omega) h.2.2
  unfold meas
  simp only [List.length_append,List.length_singleton]
  omega
 ·exact Nat.le_refl _
theorem push_length (s:List Bool × List Int) (x:Int):(pushC s x).1.length=s.1.length:=by
 unfold pushC;split <;> simp
theorem seen_set {s:List Bool} {i:Nat} (hi:i<s.length) (z:Int):Seen (s.set i true) z↔(0≤z∧z.toNat=i)∨Seen s z:=by
 unfold Seen
 by_cases h:i=z.toNat
 ·subst h
  simp [List.getD_eq_getElem?_getD,hi]
  intro h1 _;exact h1
 ·have h':¬ z.toNat=i:=fun e=>h e.symm
  simp [List.getD_eq_getElem?_getD,List.getElem?_set,h,h']
theorem seen_push (s:List Bool × List Int) (x z:Int):Seen (pushC s x).1 z↔Seen s.1 z∨(z=x∧inR s.1.length x):=by
 unfold pushC
 split
 ·rename_i h
  have hlt:x.toNat<s.1.length:=by have:=h.1;have:=h.2.1;omega
  rw [seen_set hlt]
  constructor
  ·rintro (⟨h1,h2⟩ | h1)
   ·exact .inr ⟨by have:=h.1;omega,h.1,h.2.1⟩
   ·exact .inl h1
  ·rintro (h1 | ⟨rfl,h1⟩)
   ·exact .inr h1
   ·exact .inl ⟨h.1,rfl⟩
 ·rename_i h
  constructor
  ·exact .inl
  ·rintro (h1 | ⟨rfl,h1⟩)
   ·exact h1
   ·refine ⟨h1.1,?_⟩
    cases hb:s.1.getD z.toNat false
    ·exact absurd ⟨h1.1,h1.2,hb⟩ h
    ·rfl
structure Dfs (A:Au) (l:List Int) (E:Int→Prop) (s:List Bool × List Int):Prop where
 len:s.1.length=A.arcs.length
 snd:∀ z,Seen s.1 z→Got A l z
 opn:∀ z,z∈s.2→Seen s.1 z
 cls:∀ z,Seen s.1 z→z ∉ s.2→¬ E z→∀ y,y∈A.emp.getD z.toNat []→Seen s.1 y
theorem Dfs.push {A:Au} {l:List Int} {E:Int→Prop} {s:List Bool × List Int} (h:Dfs A l E s) {x:Int} (hx:inR A.arcs.length x→Got A l x):Dfs A l E (pushC s x):=by
 refine ⟨by rw [push_length];exact h.len,fun z hz=>?_,fun z hz=>?_,fun z hz hn hE y hy=>?_⟩
 ·rcases (seen_push s x z).1 hz with h1 | ⟨rfl,h1⟩
  ·exact h.snd z h1
  ·exact hx (by rw [← h.len];exact h1)
 ·rw [seen_push]
  unfold pushC at hz
  split at hz
  ·rename_i hc
   rcases List.mem_append.1 hz with h1 | h1
   ·exact .inl (h.opn z h1)
   ·rw [List.mem_singleton] at h1;subst h1;exact .inr ⟨rfl,hc.1,hc.2.1⟩
  ·exact .inl (h.opn z hz)
 ·rw [seen_push]
  have hold:Seen s.1 z∧z ∉ s.2:=by
   unfold pushC at hz hn
   split at hz
   ·rename_i hc
    rw [if_pos hc] at hn
    have hlt:x.toNat<s.1.length:=by have:=hc.1;have:=hc.2.1;omega
    rw [seen_set hlt] at hz
    rcases hz with ⟨h1,h2⟩ | h1
    ·exact absurd (by rw [show z=x by have:=hc.1;omega];simp) hn
    ·exact ⟨h1,fun hm=>hn (List.mem_append_left _ hm)⟩
   ·rename_i hc
    rw [if_neg hc] at hn
    exact ⟨hz,hn⟩
  exact .inl (h.cls z hold.1 hold.2 hE y hy)
theorem Dfs.start (A:Au) (l:List Int):Dfs A l (fun _=>False) (List.replicate A.arcs.length false,[]):=by
 have hno:∀ z,¬ Seen (List.replicate A.arcs.length false) z:=fun z h=>by
  have h2:=h.2
  rw [List.getD_eq_getElem?_getD,List.getElem?_replicate] at h2
  split at h2 <;> cases h2
 exact ⟨by simp,fun z h=>absurd h (hno z),fun z h=>by (cases h),fun z h=>absurd h (hno z)⟩
theorem Dfs.pop {A:Au} {l:List Int} {s:List Bool} {o:List Int} {x:Int} (h:Dfs A l (fun _=>False) (s,o++[x])):Dfs A l (fun z=>z=x) (s,o):=by
 refine ⟨h.len,h.snd,fun z hz=>h.opn z (List.mem_append_left _ hz),fun z hz hn hE y hy=>h.cls z hz (fun hm=>?_) id y hy⟩
 rcases List.mem_append.1 hm with h1 | h1
 ·exact hn h1
 ·exact hE (List.mem_singleton.1 h1)
theorem Dfs.shut {A:Au} {l:List Int} {s:List Bool × List Int} {x:Int} (h:Dfs A l (fun z=>z=x) s) (hx:∀ y,y∈A.emp.getD x.toNat []→Seen s.1 y):Dfs A l (fun _=>False) s:=by
 refine ⟨h.len,h.snd,h.opn,fun z hz hn _ y hy=>?_⟩
 by_cases hzx:z=x
 ·subst hzx;exact hx y hy
 ·exact h.cls z hz hn hzx y hy
theorem Dfs.done {A:Au} {l:List Int} {s:List Bool} (h:Dfs A l (fun _=>False) (s,[])) (hl:∀ z,z∈l→inR A.arcs.length z→Seen s z) (z:Int):Seen s z↔Got A l z:=by
 have key:∀ x,Reach A x z→Seen s x→Seen s z:=by
  intro x h3
  induction h3 with
  | refl=>exact id
  | step q1 q2 ih=>exact fun hx=>ih (h.cls _ hx (by simp) id _ q1)
 exact ⟨h.snd z,fun ⟨x,h1,h2,h3⟩=>key x h3 (hl x h1 h2)⟩
theorem clos_of {A:Au} {l:List Int} {s:List Bool} (hl:s.length=A.arcs.length) (h:∀ z,Seen s z↔Got A l z):closM A l=((List.range s.length).filter fun i=>s.getD i false).map fun (i:Nat)=>(i:Int):=by
 unfold closM
 rw [hl]
 congr 1
 refine List.filter_congr fun i _=>?_
 have:=h (i:Int)
 unfold Seen at this
 simp only [Int.toNat_natCast,Int.natCast_nonneg,true_and] at this
 rw [Bool.eq_iff_iff]
 rw [this]
 simp
theorem seen_mono (s:List Bool × List Int) (x z:Int) (h:Seen s.1 z):Seen (pushC s x).1 z:=(seen_push s x z).2 (.inl h)
theorem seen_self (s:List Bool × List Int) (x:Int) (h:inR s.1.length x):Seen (pushC s x).1 x:=(seen_push s x x).2 (.inr ⟨rfl,h⟩)
end Pat
