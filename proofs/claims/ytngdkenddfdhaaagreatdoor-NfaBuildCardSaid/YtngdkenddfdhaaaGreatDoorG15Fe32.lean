/- Part of a proof about the functions of this seat. -/
import Derived.Test.YtngdkenddfdhaaaGreatDoorG13Fd32
import Derived.Test.YtngdkenddfdhaaaGreatDoorG14Br32
import Derived.Test.YtngdkenddfdhaaaGreatDoorG12Nfr
/- The automaton of a tree as the reference builds it,and that it is the program's. Plain: no program. -/

set_option linter.unusedVariables false
set_option linter.unusedSimpArgs false
namespace Pat
def insR (N:Nat) (row:List Int) (t:Nat):List Int:=((List.range N).filter fun (s:Nat)=>decide (s=t∨(s:Int)∈row)).map fun (s:Nat)=>(s:Int)
def St.rfree (s:St) (f t:Nat):St:=⟨s.A,s.E.set f (insR s.len (s.E.getD f []) t)⟩
def edges (st:St) (l:List (Nat × Nat)):St:=l.foldl (fun x p=>x.rfree p.1 p.2) st
def allR:List (St→St × Nat)→St→St × List Nat × List Nat
 | [],st=>(st,[],[])
 | f::l,st=>((allR l (f st).1).1,st.len::(allR l (f st).1).2.1,(f st).2::(allR l (f st).1).2.2)
def reps (k a b:Int):Nat:=if k=5 then copies a b else 1
def edgesK (k a b:Int) (s t:Nat) (F L:List Nat):List (Nat × Nat) :=
 if k=1 then [(s,t)] else if k=2 then [] else if k=4 then (F.zip L).flatMap fun p=>[(s,p.1),(p.2,t)]
 else ((s::L).zip F)++(((s::L).drop (if k=5 then a.toNat else F.length)).map fun q=>(q,t))++(if k=5∧b<0 then [(lastD L s,F.getLastD 0)] else [])
def endK (k:Int) (set:List (Int × Int)) (a b:Int) (s:Nat) (C:St × List Nat × List Nat):St × Nat :=
 (if k=2 then C.1.push.arc s C.1.len set else edges C.1.push (edgesK k a b s C.1.len C.2.1 C.2.2),C.1.len)
mutual
def partR:Tree→St→St × Nat
 | .mk k set sub a b,st=>endK k set a b st.len (allR ((partsR sub).flatMap fun f=>List.replicate (reps k a b) f) st.push)
def partsR:List Tree→List (St→St × Nat)
 | []=>[]
 | x::l=>(fun st=>partR x st)::partsR l
end
theorem partsR_map (l:List Tree):partsR l=l.map fun x st=>partR x st:=by
 induction l with
 | nil=>rfl
 | cons x l ih=>rw [partsR,ih];rfl
structure OkR (st:St):Prop where
 len:st.E.length=st.A.length
 so:∀ f,(st.E.getD f []).Pairwise (·<·)
 rg:∀ f z,z∈st.E.getD f []→0≤z∧z<st.A.length
theorem OkR.okb {st:St} (h:OkR st):Okb st:=⟨h.len,fun f=>(h.so f).imp fun h=>by omega,h.rg⟩
theorem OkR.push {st:St} (h:OkR st):OkR st.push:=by
 refine ⟨h.okb.push.len,fun f=>?_,h.okb.push.rg⟩
 simp only [St.push,getD_push];exact h.so f
theorem OkR.arc {st:St} (h:OkR st) (f t:Nat) (set:List (Int × Int)):OkR (st.arc f t set):=⟨(h.okb.arc f t set).len,h.so,(h.okb.arc f t set).rg⟩
theorem insR_mem {N:Nat} {row:List Int} {t:Nat} (ht:t<N) (hr:∀ z,z∈row→0≤z∧z<N) (z:Int):z∈insR N row t↔z∈row∨z=t:=by
 unfold insR
 simp only [List.mem_map,List.mem_filter,List.mem_range,decide_eq_true_eq]
 constructor
 ·rintro ⟨s,⟨h1,h2⟩,rfl⟩
  rcases h2 with rfl | h2
  ·exact .inr rfl
  ·exact .inl h2
 ·rintro (h | rfl)
  ·have:=hr z h
   exact ⟨z.toNat,⟨by omega,.inr (by rw [Int.toNat_of_nonneg this.1];exact h)⟩,by omega⟩
  ·exact ⟨t,⟨ht,.inl rfl⟩,rfl⟩
theorem insR_so (N:Nat) (row:List Int) (t:Nat):(insR N row t).Pairwise (·<·):=by
 unfold insR
 rw [List.pairwise_map]
 exact (List.pairwise_lt_range.filter _).imp fun h=>by omega
theorem insR_len (N:Nat) (row:List Int) (t:Nat):(insR N row t).length≤N:=by
 unfold insR
 rw [List.length_map]
 exact Nat.le_trans (List.length_filter_le _ _) (by simp)
theorem getD_set' {α:Type} (E:List (List α)) (f g:Nat) (l:List α) (h:f<E.length):(E.set f l).getD g []=if g=f then l else E.getD g []:=by
 rw [List.getD_eq_getElem?_getD,List.getElem?_set]
 by_cases hg:g=f
 ·subst hg;rw [if_pos rfl,if_pos h,if_pos rfl];rfl
 ·rw [if_neg (Ne.symm hg),if_neg hg,← List.getD_eq_getElem?_getD]
theorem OkR.rfree {st:St} (h:OkR st) {f t:Nat} (hf:f<st.A.length) (ht:t<st.A.length):OkR (st.rfree f t):=by
 have hf':f<st.E.length:=by rw [h.len];exact hf
 refine ⟨by simp [St.rfree,h.len],fun g=>?_,fun g z hz=>?_⟩
 ·simp only [St.rfree]
  rw [getD_set' _ _ _ _ hf']
  split
  ·exact insR_so _ _ _
  ·exact h.so g
 ·simp only [St.rfree] at hz ⊢
  rw [getD_set' _ _ _ _ hf'] at hz
  split at hz
  ·rcases (insR_mem (N:=st.len) ht (h.rg f) z).1 hz with hz | rfl
   ·exact h.rg f z hz
   ·omega
  ·exact h.rg g z hz
theorem rfree_lenA (st:St) (f t:Nat):(st.rfree f t).A.length=st.A.length:=rfl
theorem St.Is.rfree {st:St} {A:List (List Arc)} {M:Nat→Int→Prop} (h:st.Is A M) (ho:OkR st) {f t:Nat} (hf:f<A.length) (ht:t<A.length):(st.rfree f t).Is A fun r z=>M r z∨(r=f∧z=t):=by
 have hf':f<st.E.length:=by rw [h.e];exact hf
 refine ⟨h.a,by simp [St.rfree,h.e],fun r z=>?_⟩
 have hm:=h.m r z
 unfold Mem at hm ⊢
 simp only [St.rfree]
 rw [getD_set' _ _ _ _ hf']
 split
 ·rename_i hr
  subst hr
  rw [insR_mem (N:=st.len) (by rw [h.len];exact ht) (fun z hz=>ho.rg r z hz) z,hm]
  simp
 ·rename_i hr
  rw [hm];simp [hr]
theorem edges_spec:∀ (l:List (Nat × Nat)) {st:St} {A:List (List Arc)} {M:Nat→Int→Prop},st.Is A M→OkR st→(∀ p,p∈l→p.1<A.length∧p.2<A.length) →
  (edges st l).Is A (fun r z=>M r z∨∃ t:Nat,z=t∧(r,t)∈l)∧OkR (edges st l)
 | [],st,A,M,h,ho,_=>⟨h.congr rfl fun r z=>by simp,ho⟩
 | p::l,st,A,M,h,ho,hl=>by
  obtain ⟨h1,h2⟩:=hl p (by simp)
  have ho1:OkR (st.rfree p.1 p.2):=ho.rfree (by rw [h.a];exact h1) (by rw [h.a];exact h2)
  obtain ⟨k1,k2⟩:=edges_spec l (h.rfree ho h1 h2) ho1 fun q hq=>hl q (by simp [hq])
  refine ⟨k1.congr rfl fun r z=>?_,k2⟩
  constructor
  ·rintro ((h | ⟨rfl,rfl⟩) | ⟨t,rfl,h⟩)
   ·exact .inl h
   ·exact .inr ⟨_,rfl,by simp⟩
   ·exact .inr ⟨_,rfl,by simp [h]⟩
  ·rintro (h | ⟨t,rfl,h⟩)
   ·exact .inl (.inl h)
   ·rcases List.mem_cons.1 h with h | h
    ·subst h;exact .inl (.inr ⟨rfl,rfl⟩)
    ·exact .inr ⟨_,rfl,h⟩
def PartR (n:Tree) (f:St→St × Nat):Prop:=∀ st A M,st.Is A M→OkR st→(f st).1.Is (A++rowsA n A.length) (fun r z=>M r z∨∃ t:Nat,z=t∧Ed n A.length r t)∧(f st).2+1=A.length+sz n∧OkR (f st).1
def SubM (xs:List Tree) (o r t:Nat):Prop:=∃ i x,xs[i]? = some x∧Ed x (fst xs o i) r t
theorem subM_cons (x:Tree) (xs:List Tree) (o r t:Nat):SubM (x::xs) o r t↔Ed x o r t∨SubM xs (o+sz x) r t:=by
 unfold SubM
 constructor
 ·rintro ⟨i,y,h1,h2⟩
  cases i with
  | zero=>simp only [List.getElem?_cons_zero,Option.some.injEq] at h1;subst h1;rw [fst_zero] at h2;exact .inl h2
  | succ i=>rw [fst_cons] at h2;exact .inr ⟨i,y,by simpa using h1,h2⟩
 ·rintro (h | ⟨i,y,h1,h2⟩)
  ·exact ⟨0,x,rfl,by rw [fst_zero];exact h⟩
  ·exact ⟨i+1,y,by simpa using h1,by rw [fst_cons];exact h2⟩
theorem all_spec:∀ (xs:List Tree),(∀ x,x∈xs→WF x)→(∀ x,x∈xs→PartR x fun st=>partR x st)→∀ (st:St) (A:List (List Arc)) (M:Nat→Int→Prop),st.Is A M→OkR st →
  (allR (xs.map fun x st=>partR x st) st).1.Is (A++catA (xs.map fun x o=>rowsA x o) A.length) (fun r z=>M r z∨∃ t:Nat,z=t∧SubM xs A.length r t) ∧
   (allR (xs.map fun x st=>partR x st) st).2.1=(List.range xs.length).map (fun i=>fst xs A.length i) ∧
   (allR (xs.map fun x st=>partR x st) st).2.2=(List.range xs.length).map (fun i=>lst xs A.length i)∧OkR (allR (xs.map fun x st=>partR x st) st).1
 | [],_,_,st,A,M,h,ho=>⟨h.congr (by simp [catA]) fun r z=>by simp [SubM],rfl,rfl,ho⟩
 | x::xs,hw,hp,st,A,M,h,ho=>by
  obtain ⟨h1,h2,h3⟩:=hp x (by simp) st A M h ho
  have hx2:=sz_two (hw x (by simp))
  have hl:(A++rowsA x A.length).length=A.length+sz x:=by rw [List.length_append,rowsA_len (hw x (by simp))]
  have hq:(partR x st).2=A.length+sz x - 1:=by have h2':(partR x st).2+1=A.length+sz x:=h2;omega
  obtain ⟨k1,k2,k3,k4⟩:=all_spec xs (fun y hy=>hw y (by simp [hy])) (fun y hy=>hp y (by simp [hy])) _ _ _ h1 h3
  simp only [List.map_cons,allR,h.len]
  rw [hl] at k1 k2 k3
  refine ⟨k1.congr ?_ fun r z=>?_,?_,?_,k4⟩
  ·simp only [catA,List.append_assoc]
   rw [rowsA_len (hw x (by simp))]
  ·constructor
   ·rintro ((h | ⟨t,rfl,h⟩) | ⟨t,rfl,h⟩)
    ·exact .inl h
    ·exact .inr ⟨t,rfl,(subM_cons _ _ _ _ _).2 (.inl h)⟩
    ·exact .inr ⟨t,rfl,(subM_cons _ _ _ _ _).2 (.inr h)⟩
   ·rintro (h | ⟨t,rfl,h⟩)
    ·exact .inl (.inl h)
    ·rcases (subM_cons _ _ _ _ _).1 h with h | h
     ·exact .inl (.inr ⟨t,rfl,h⟩)
     ·exact .inr ⟨t,rfl,h⟩
  ·rw [k2,List.length_cons,List.range_succ_eq_map,List.map_cons,List.map_map,fst_zero]
   congr 1
   exact List.map_congr_left fun i _=>(fst_cons x xs _ i).symm
  ·rw [k3,hq,List.length_cons,List.range_succ_eq_map,List.map_cons,List.map_map,lst_zero]
   congr 1
   exact List.map_congr_left fun i _=>(lst_cons x xs _ i).symm
theorem mem_zip_range {α:Type} (m:Nat) (f g:Nat→α) (p:α × α):p∈((List.range m).map f).zip ((List.range m).map g)↔∃ i,i<m∧p=(f i,g i):=by
 rw [List.zip_map',List.mem_map]
 simp only [List.mem_range]
 exact ⟨fun ⟨i,h1,h2⟩=>⟨i,h1,h2.symm⟩,fun ⟨i,h1,h2⟩=>⟨i,h1,h2.symm⟩⟩
theorem zip_pts (m:Nat) (f g:Nat→Nat) (p:Nat × Nat):p∈((List.range (m+1)).map g).zip ((List.range m).map f)↔∃ i,i<m∧p=(g i,f i):=by
 rw [List.range_succ,List.map_append,← List.append_nil (List.map f (List.range m)),List.zip_append (by simp)]
 simp only [List.zip_nil_right,List.append_nil]
 exact mem_zip_range m g f p
theorem edgesK_own {k:Int} {set:List (Int × Int)} {sub:List Tree} {a b:Int} (hw:WF (.mk k set sub a b)) (h2:k≠2) (o r t:Nat) :
  (r,t)∈edgesK k a b o (fst (items (.mk k set sub a b)) (o+1) (items (.mk k set sub a b)).length) ((List.range (items (.mk k set sub a b)).length).map fun i=>fst (items (.mk k set sub a b)) (o+1) i)
   ((List.range (items (.mk k set sub a b)).length).map fun i=>lst (items (.mk k set sub a b)) (o+1) i)↔Own (.mk k set sub a b) o r t:=by
 obtain ⟨c1,c2,c3,c4⟩:(k=1∨k=2∨k=3∨k=4∨k=5)∧(k=1∨k=2→sub=[])∧(k=5→∃ x,sub=[x]∧0≤a∧(0≤b→a≤b))∧(∀ x,x∈sub→WF x):=by cases hw with | mk q1 q2 q3 q4=>exact ⟨q1,q2,q3,q4⟩
 have hneg:k=5→b<0→0<(items (.mk k set sub a b)).length:=by
  intro h5 hb
  obtain ⟨x,rfl,h6,_⟩:=c3 h5
  simp only [items,if_pos h5,List.length_replicate,copies,if_pos hb];omega
 generalize hxs:items (.mk k set sub a b)=xs at *
 rw [Own,hxs,if_neg h2]
 unfold edgesK
 rw [if_neg h2]
 by_cases k1:k=1
 ·have h3:¬ k=3:=by clear c3 hneg;omega
  have h4:¬ k=4:=by clear c3 hneg;omega
  have h5:¬ k=5:=by clear c3 hneg;omega
  simp only [k1,if_true,Int.reduceEq,if_false,List.mem_singleton,Prod.mk.injEq]
 rw [if_neg k1]
 by_cases k4:k=4
 ·have h3:¬ k=3:=by clear c3 hneg;omega
  rw [if_pos k4,if_neg h3,if_pos k4]
  simp only [List.mem_flatMap,mem_zip_range,List.mem_cons,List.not_mem_nil,or_false]
  constructor
  ·rintro ⟨p,⟨i,hi,rfl⟩,h | h⟩
   ·simp only [Prod.mk.injEq] at h;exact ⟨i,hi,.inl h⟩
   ·simp only [Prod.mk.injEq] at h;exact ⟨i,hi,.inr h⟩
  ·rintro ⟨i,hi,h | h⟩
   ·exact ⟨_,⟨i,hi,rfl⟩,.inl (by simp [h])⟩
   ·exact ⟨_,⟨i,hi,rfl⟩,.inr (by simp [h])⟩
 rw [if_neg k4,if_neg k4]
 have hlast:0<xs.length→((List.range xs.length).map fun i=>fst xs (o+1) i).getLastD 0=fst xs (o+1) (xs.length - 1):=by
  intro h0
  obtain ⟨m,hm⟩:∃ m,xs.length=m+1:=⟨xs.length - 1,by omega⟩
  rw [hm,List.range_succ,List.map_append,List.map_cons,List.map_nil,List.getLastD_eq_getLast?,List.getLast?_concat];rfl
 have hz:(r,t)∈(o::(List.range xs.length).map fun i=>lst xs (o+1) i).zip ((List.range xs.length).map fun i=>fst xs (o+1) i)↔∃ i,i<xs.length∧r=pt xs (o+1) o i∧t=fst xs (o+1) i:=by
  rw [pts_list,zip_pts];simp only [Prod.mk.injEq]
 have hd:∀ c:Nat,(r,t)∈((o::(List.range xs.length).map fun i=>lst xs (o+1) i).drop c).map (fun q=>(q,fst xs (o+1) xs.length))↔∃ i,c≤i∧i≤xs.length∧r=pt xs (o+1) o i∧t=fst xs (o+1) xs.length:=by
  intro c
  simp only [List.mem_map,mem_drop_pts,Prod.mk.injEq]
  constructor
  ·rintro ⟨q,⟨i,h1,h2,rfl⟩,rfl,rfl⟩;exact ⟨i,h1,h2,rfl,rfl⟩
  ·rintro ⟨i,h1,h2,rfl,rfl⟩;exact ⟨_,⟨i,h1,h2,rfl⟩,rfl,rfl⟩
 simp only [List.mem_append,hz,hd,last_pt]
 by_cases k5:k=5
 ·have h3:¬ k=3:=by clear c3 hneg;omega
  rw [if_neg h3,if_pos k5,if_pos k5]
  by_cases hb:b<0
  ·rw [if_pos ⟨k5,hb⟩,hlast (hneg k5 hb)]
   simp only [List.mem_singleton,Prod.mk.injEq,or_assoc,hb,true_and]
  ·rw [if_neg (fun h=>hb h.2)]
   simp only [List.not_mem_nil,or_false,hb,false_and]
 ·have h3:k=3:=by rcases c1 with h | h | h | h | h <;> first | exact h | exact absurd h k1 | exact absurd h h2 | exact absurd h k4 | exact absurd h k5
  rw [if_pos h3,if_neg k5,if_neg (fun h=>k5 h.1)]
  simp only [List.not_mem_nil,or_false,List.length_map,List.length_range]
  constructor
  ·rintro (h | ⟨i,h1,h2,h3,h4⟩)
   ·exact .inl h
   ·have:i=xs.length:=by omega
    subst this;exact .inr ⟨h3,h4⟩
  ·rintro (h | ⟨h1,h2⟩)
   ·exact .inl h
   ·exact .inr ⟨xs.length,Nat.le_refl _,Nat.le_refl _,h1,h2⟩
theorem own_lt {k:Int} {set:List (Int × Int)} {sub:List Tree} {a b:Int} (hw:WF (.mk k set sub a b)) {o r t:Nat} (h:Own (.mk k set sub a b) o r t) :
  r≤fst (items (.mk k set sub a b)) (o+1) (items (.mk k set sub a b)).length∧t≤fst (items (.mk k set sub a b)) (o+1) (items (.mk k set sub a b)).length:=by
 have hiw:=items_wf hw
 have hi2:∀ x,x∈items (.mk k set sub a b)→2≤sz x:=fun x hx=>sz_two (hiw x hx)
 rw [Own] at h
 generalize items (.mk k set sub a b)=xs at *
 have p1:∀ i,i≤xs.length→pt xs (o+1) o i≤fst xs (o+1) xs.length:=fun i hi=>Nat.le_of_lt (pt_lt hi2 _ _ (Nat.lt_succ_self _) i hi)
 have p2:∀ i,i≤xs.length→fst xs (o+1) i≤fst xs (o+1) xs.length:=fun i hi=>fst_mono xs _ hi
 have p3:∀ i,i<xs.length→lst xs (o+1) i≤fst xs (o+1) xs.length:=fun i hi=>Nat.le_of_lt (lst_lt hi2 _ hi)
 have p4:o≤fst xs (o+1) xs.length:=p1 0 (Nat.zero_le _)
 split at h
 ·exact h.elim
 split at h
 ·rcases h with ⟨i,hi,rfl,rfl⟩ | ⟨rfl,rfl⟩
  ·exact ⟨p1 i (by omega),p2 i (by omega)⟩
  ·exact ⟨p1 _ (Nat.le_refl _),Nat.le_refl _⟩
 split at h
 ·rcases h with ⟨i,hi,⟨rfl,rfl⟩ | ⟨rfl,rfl⟩⟩
  ·exact ⟨p4,p2 i (by omega)⟩
  ·exact ⟨p3 i hi,Nat.le_refl _⟩
 split at h
 ·rcases h with ⟨i,hi,rfl,rfl⟩ | ⟨i,_,hi,rfl,rfl⟩ | ⟨_,rfl,rfl⟩
  ·exact ⟨p1 i (by omega),p2 i (by omega)⟩
  ·exact ⟨p1 i hi,Nat.le_refl _⟩
  ·exact ⟨p1 _ (Nat.le_refl _),p2 _ (by omega)⟩
 ·obtain ⟨rfl,rfl⟩:=h
  exact ⟨p4,Nat.le_refl _⟩
theorem flat_items (k a b:Int) (set:List (Int × Int)) (sub:List Tree) (h:k=5→∃ x,sub=[x]) :
  (partsR sub).flatMap (fun f=>List.replicate (reps k a b) f)=(items (.mk k set sub a b)).map fun x st=>partR x st:=by
 rw [partsR_map]
 by_cases h5:k=5
 ·obtain ⟨x,rfl⟩:=h h5
  simp [items,reps,h5]
 ·simp only [reps,if_neg h5,items,List.replicate_one]
  induction sub with
  | nil=>rfl
  | cons x l ih=>simp only [List.map_cons,List.flatMap_cons];rw [ih (fun h=>absurd h h5)];rfl
theorem partR_spec {n:Tree} (hn:WF n):PartR n fun st=>partR n st:=by
 induction hn with
 | @mk k set sub a b h1 h2 h3 h4 ih =>
  have hw:WF (.mk k set sub a b):=.mk h1 h2 h3 h4
  intro st A M h ho
  have hp:=h.push
  have hop:=ho.push
  have hlp:(A++[[]]).length=A.length+1:=by simp
  have hsz:=sz_eq hw
  have hiw:=items_wf hw
  have hR:∀ x,x∈items (.mk k set sub a b)→PartR x fun st=>partR x st:=by
   intro x hx
   by_cases h5:k=5
   ·obtain ⟨y,rfl,_⟩:=h3 h5
    simp only [items,h5,if_true,List.headD_cons] at hx
    rw [(List.mem_replicate.1 hx).2]
    exact ih y (by simp)
   ·simp only [items,h5,if_false] at hx
    exact ih x hx
  obtain ⟨c1,c2,c3,c4⟩:=all_spec _ hiw hR st.push _ M hp hop
  rw [hlp] at c1 c2 c3
  have hflat:=flat_items k a b set sub (fun h5=>by obtain ⟨x,h,_⟩:=h3 h5;exact ⟨x,h⟩)
  have hct:(catA ((items (.mk k set sub a b)).map fun x o=>rowsA x o) (A.length+1)).length=((items (.mk k set sub a b)).map sz).sum:=catA_len _ _ fun x hx o=>rowsA_len (hiw x hx) o
  have hTf:fst (items (.mk k set sub a b)) (A.length+1) (items (.mk k set sub a b)).length=A.length+1+((items (.mk k set sub a b)).map sz).sum:=fst_all _ _
  have hlc:(A++[[]]++catA ((items (.mk k set sub a b)).map fun x o=>rowsA x o) (A.length+1)).length=fst (items (.mk k set sub a b)) (A.length+1) (items (.mk k set sub a b)).length:=by
   rw [List.length_append,hlp,hct,hTf]
  have hl:=c1.len
  rw [hlc] at hl
  have hlT:fst (items (.mk k set sub a b)) (A.length+1) (items (.mk k set sub a b)).length+1=A.length+sz (.mk k set sub a b):=by omega
  show (endK k set a b st.len _).1.Is _ _∧(endK k set a b st.len _).2+1=_∧OkR (endK k set a b st.len _).1
  simp only [hflat,endK]
  generalize hC:allR ((items (.mk k set sub a b)).map fun x st=>partR x st) st.push=C at *
  by_cases k2:k=2
  ·subst k2
   obtain rfl:=h2 (.inr rfl)
   have hi:items (.mk 2 set [] a b)=[]:=rfl
   rw [hi] at hC hlT hl
   simp only [List.map_nil,allR] at hC
   subst hC
   have hT1:fst ([]:List Tree) (A.length+1) ([]:List Tree).length=A.length+1:=by simp [fst]
   rw [hT1] at hlT hl
   rw [if_pos rfl]
   have h5:=hp.push
   refine ⟨⟨?_,?_,fun r z=>?_⟩,by rw [hl];exact hlT,hop.push.arc _ _ _⟩
   ·rw [hl]
    simp only [St.arc,St.push,h.a,h.len,rowsA,if_true,List.append_assoc,List.cons_append,List.nil_append]
    rw [List.set_append_right _ _ (Nat.le_refl _),Nat.sub_self,List.getD_eq_getElem?_getD,List.getElem?_append_right (Nat.le_refl _),Nat.sub_self]
    rfl
   ·simp only [St.arc]
    rw [h5.e];simp [rowsA]
   ·refine (h5.m r z).trans ⟨.inl,?_⟩
    rintro (h | ⟨t,rfl,hE⟩)
    ·exact h
    ·rcases (ed_iff _ _ _ _).1 hE with hE | ⟨i,x,hx,_⟩
     ·simp only [Own,if_true] at hE
     ·rw [hi] at hx;cases hx
  have hrows:=rowsA_items k set sub a b A.length k2 (fun h5=>by obtain ⟨x,rfl,_⟩:=h3 h5;simp)
  have hA:A++[[]]++catA ((items (.mk k set sub a b)).map fun x o=>rowsA x o) (A.length+1)++[[]]=A++rowsA (.mk k set sub a b) A.length:=by rw [hrows];simp
  rw [if_neg k2]
  have hown:=fun r t=>edgesK_own hw k2 A.length r t
  have hlst:∀ p,p∈edgesK k a b A.length C.1.len C.2.1 C.2.2→p.1<(A++[[]]++catA ((items (.mk k set sub a b)).map fun x o=>rowsA x o) (A.length+1)++[[]]).length∧p.2<(A++[[]]++catA ((items (.mk k set sub a b)).map fun x o=>rowsA x o) (A.length+1)++[[]]).length:=by
   rintro ⟨r,t⟩ hp
   rw [c2,c3,hl] at hp
   obtain ⟨q1,q2⟩:=own_lt hw ((hown r t).1 hp)
   rw [List.length_append,hlc,List.length_singleton]
   exact ⟨by omega,by omega⟩
  obtain ⟨e1,e2⟩:=edges_spec _ c1.push c4.push hlst
  rw [h.len]
  refine ⟨e1.congr hA fun r z=>?_,by rw [hl];exact hlT,e2⟩
  rw [c2,c3,hl]
  constructor
  ·rintro ((h | ⟨t,rfl,h⟩) | ⟨t,rfl,h⟩)
   ·exact .inl h
   ·obtain ⟨i,x,hx,h⟩:=h;exact .inr ⟨t,rfl,.sub hx h⟩
   ·exact .inr ⟨t,rfl,.own ((hown r t).1 h)⟩
  ·rintro (h | ⟨t,rfl,h⟩)
   ·exact .inl (.inl h)
   ·rcases (ed_iff _ _ _ _).1 h with h | ⟨i,x,hx,h⟩
    ·exact .inr ⟨t,rfl,(hown r t).2 h⟩
    ·exact .inl (.inr ⟨t,rfl,i,x,hx,h⟩)
theorem partR_len {n:Tree} (hn:WF n) {st:St} (h:OkR st):(partR n st).1.A.length=st.A.length+sz n∧(partR n st).2+1=st.A.length+sz n∧OkR (partR n st).1:=by
 obtain ⟨h1,h2,h3⟩:=partR_spec hn st st.A _ h.okb.is h
 exact ⟨by have:=h1.len;simp only [St.len] at this;rw [this,List.length_append,rowsA_len hn],h2,h3⟩
theorem sorted_ext:∀ (l m:List Int),l.Pairwise (·<·)→m.Pairwise (·<·)→(∀ z,z∈l↔z∈m)→l=m
 | [],[],_,_,_=>rfl
 | [],y::m,_,_,h=>by have:=(h y).2 (by simp);simp at this
 | x::l,[],_,_,h=>by have:=(h x).1 (by simp);simp at this
 | x::l,y::m,hl,hm,h=>by
  obtain ⟨a1,a2⟩:=List.pairwise_cons.1 hl
  obtain ⟨b1,b2⟩:=List.pairwise_cons.1 hm
  have hxy:x=y:=by
   have h1:=(h x).1 (by simp)
   have h2:=(h y).2 (by simp)
   rcases List.mem_cons.1 h1 with h1 | h1
   ·exact h1
   ·rcases List.mem_cons.1 h2 with h2 | h2
    ·exact h2.symm
    ·have:=a1 y h2;have:=b1 x h1;omega
  subst hxy
  congr 1
  refine sorted_ext l m a2 b2 fun z=>?_
  have hz:=h z
  simp only [List.mem_cons] at hz
  constructor
  ·intro hq
   rcases hz.1 (.inr hq) with rfl | h
   ·have:=a1 z hq;omega
   ·exact h
  ·intro hq
   rcases hz.2 (.inr hq) with rfl | h
   ·have:=b1 z hq;omega
   ·exact h
theorem sort_row {l m:List Int} (hl:l.Nodup) (hm:m.Pairwise (·<·)) (h:∀ z,z∈m↔z∈l):l.mergeSort (fun x y=>decide (x≤y))=m:=by
 refine sorted_ext _ _ ?_ hm fun z=>?_
 ·have h1:(l.mergeSort fun x y=>decide (x≤y)).Pairwise fun x y=>decide (x≤y)=true:=List.pairwise_mergeSort (fun a b c h1 h2=>by simp only [decide_eq_true_eq] at *;omega) (fun a b=>by simp only [Bool.or_eq_true,decide_eq_true_eq];omega) l
  have h2:(l.mergeSort fun x y=>decide (x≤y)).Nodup:=(List.mergeSort_perm l _).nodup_iff.2 hl
  exact (h1.and h2).imp fun ⟨h1,h2⟩=>by simp only [decide_eq_true_eq] at h1;omega
 ·rw [List.mem_mergeSort,h]
theorem part_same {n:Tree} (hn:WF n):(partR n ⟨[],[]⟩).1.A=(partB n ⟨[],[]⟩).1.A∧(partR n ⟨[],[]⟩).1.E=(partB n ⟨[],[]⟩).1.E.map (fun l=>l.mergeSort fun x y=>decide (x≤y))∧(partR n ⟨[],[]⟩).2=(partB n ⟨[],[]⟩).2:=by
 have hb:Okb ⟨[],[]⟩:=⟨rfl,fun f=>by simp,fun f z hz=>by simp at hz⟩
 have hr:OkR ⟨[],[]⟩:=⟨rfl,fun f=>by simp,fun f z hz=>by simp at hz⟩
 obtain ⟨p1,p2⟩:=part_spec hn _ _ _ hb.is
 obtain ⟨q1,q2,q3⟩:=partR_spec hn _ _ _ hr.okb.is hr
 obtain ⟨b1,_,_⟩:=part_ok hn _ hb
 refine ⟨by rw [p1.a,q1.a],?_,by simp only at p2 q2;omega⟩
 have hlen:(partR n ⟨[],[]⟩).1.E.length=(partB n ⟨[],[]⟩).1.E.length:=by rw [p1.e,q1.e]
 refine List.ext_getElem (by rw [List.length_map,hlen]) fun i h1 h2=>?_
 rw [List.getElem_map]
 have h3:i<(partB n ⟨[],[]⟩).1.E.length:=by omega
 have g1:(partR n ⟨[],[]⟩).1.E[i]=(partR n ⟨[],[]⟩).1.E.getD i []:=by simp [List.getD_eq_getElem?_getD,h1]
 have g2:(partB n ⟨[],[]⟩).1.E[i]=(partB n ⟨[],[]⟩).1.E.getD i []:=by simp [List.getD_eq_getElem?_getD,h3]
 rw [g1,g2]
 exact (sort_row (b1.nd i) (q3.so i) fun z=>(q1.m i z).trans (p1.m i z).symm).symm
end Pat
set_option linter.unusedVariables false
set_option linter.unusedSimpArgs false
set_option maxRecDepth 100000
namespace Go.Proofs.YtngdkenddfdhaaaGreatDoor
open Go Nv Pat
/- The reference's builder: an automaton as a value,its rows in the store. -/
def preN:List AV:=[.d (.int .i64 0),.d (.int .i64 0)]
def nfaF (va ve:AV):List AV:=[.d (.int .i64 0),.d (.int .i64 0),va,ve]
def nfaV (va ve:AV):AV:=.agg (nfaF va ve)
abbrev TwoN (σ:Nv.ST) (p:Nat) (st:St) (va ve:AV) (F G H:Nat→Prop):Prop:=TwoP preN σ p 31 ⟨3,59⟩ ⟨1,3⟩ 55 51 (arcsL st.A) (intsL st.E) va ve F G H
structure Duo (σ:Nv.ST) (st:St) (va ve:AV) (F G:Nat→Prop):Prop where
 a:Rw σ ⟨3,59⟩ 55 va (arcsL st.A) F
 e:Rw σ ⟨1,3⟩ 51 ve (intsL st.E) G
 dis:∀ k,F k→¬ G k
 lt:∀ k,F k∨G k→k<σ.length
theorem Duo.keep {σ σ':Nv.ST} {st:St} {va ve:AV} {F G:Nat→Prop} (h:Duo σ st va ve F G) (hl:σ.length≤σ'.length) (hk:∀ k,F k∨G k→stGet σ' k=stGet σ k):Duo σ' st va ve F G :=
 ⟨h.a.keep fun k q=>hk k (.inl q),h.e.keep fun k q=>hk k (.inr q),h.dis,fun k q=>Nat.lt_of_lt_of_le (h.lt k q) hl⟩
theorem Duo.pushed {σ:Nv.ST} {st:St} {va ve:AV} {F G:Nat→Prop} (h:Duo σ st va ve F G) (τ:Nv.ST):Duo (σ++τ) st va ve F G :=
 h.keep (by simp) fun k hk=>stGet_old σ τ (h.lt k hk)
theorem Duo.box {σ:Nv.ST} {st:St} {va ve:AV} {F G:Nat→Prop} (h:Duo σ st va ve F G) {p:Nat} (hp:stGet σ p=.box 31 (nfaF va ve)) (hn:¬ (F p∨G p)):TwoN σ p st va ve F G (fun k=>(F k∨G k)∨k=p) :=
 ⟨hp,h.a,h.e,h.dis,⟨fun q=>hn (.inl q),fun q=>hn (.inr q)⟩,fun k q=>.inl (.inl q),fun k q=>.inl (.inr q),.inr rfl,fun k q=>q.elim (h.lt k) fun e=>by rw [e];exact lt_of_get hp (by simp)⟩
theorem duo_of {σ:Nv.ST} {p:Nat} {st:St} {va ve:AV} {F G H:Nat→Prop} (h:TwoN σ p st va ve F G H):Duo σ st va ve F G :=
 ⟨h.a,h.e,h.dis,fun k q=>q.elim (fun q=>h.lt k (h.fh k q)) fun q=>h.lt k (h.gh k q)⟩
theorem Keeps.shrink {σ τ σ':Nv.ST} {H H1 H':Nat→Prop} (h:Keeps τ H1 σ' H') (hl:σ.length≤τ.length) (ho:∀ k,k<σ.length→stGet τ k=stGet σ k) (h1:∀ k,H1 k→H k∨σ.length≤k) {H2:Nat→Prop} (h2:∀ k,H2 k→H' k):Keeps σ H σ' H2 :=
 ⟨Nat.le_trans hl h.len,fun k hk hH=>(h.old k (Nat.lt_of_lt_of_le hk hl) fun q=>(h1 k q).elim hH (by omega)).trans (ho k hk),fun k hk=>(h.new k (h2 k hk)).elim (h1 k) fun q=>.inr (Nat.le_trans hl q)⟩
theorem Rw.one {σ:Nv.ST} {e:ET} {t:Nat} {v:AV} {L:List (List DV)} {F:Nat→Prop} (h:Rw σ e t v L F):v.one=true:=by
 rcases h with ⟨rfl,_⟩ | ⟨b,g,n,xs,rfl,_⟩ <;> rfl
def hintsT53:Nat→Hint:=fun i=>if i=7 then .rows else if i=12 then .rows else .no
@[go_sem] theorem hintsT53_at (i:Nat):hintsT53 i=if i=7 then .rows else if i=12 then .rows else .no:=nrfl rfl
theorem state53 {σ:Nv.ST} {st:St} {va ve:AV} {F G:Nat→Prop} (hD:Duo σ st va ve F G) (hE:st.E.length=st.A.length) (hl:st.A.length≤1000000) :
  RCall Tryz.prog 53 [nfaV va ve] σ fun v σ'=>∃ va' ve' F' G',v=.tuple [nfaV va' ve',.d (.int .i64 st.len)]∧Duo σ' st.push va' ve' F' G'∧Keeps σ (fun k=>F k∨G k) σ' (fun k=>F' k∨G' k):=by
 refine fn53.rel hintsT53 (Nat.le_refl _) ?_
 obtain ⟨p,hpe⟩:∃ p,p=σ.length:=⟨_,rfl⟩
 have hF0:∀ k,F k∨G k→k<σ.length:=hD.lt
 refine wW_cut (fun fr τ=>fr 1=.ptr p 0∧fr 2=.ptr (p+1) 0∧∃ H1,TwoN τ p st va ve F G H1∧stGet τ (p+1)=.box 31 (nfaF (.d .nilslice) (.d .nilslice))∧Keeps σ (fun k=>F k∨G k) τ H1∧¬ H1 (p+1)) ?_ ?_
 ·have ha:=Rw.one hD.a
  have he:=Rw.one hD.e
  simp (disch:=omega) only [go_sem,nfaV,nfaF,ha,he,apR]
  refine ⟨by rw [hpe],by rw [hpe],fun k=>(F k∨G k)∨k=p,?_,?_,?_,fun q=>q.elim (fun q=>by have:=hF0 _ q;omega) (by omega)⟩
  ·refine (hD.pushed _).box (by rw [hpe];exact stGet_add 0 rfl) fun q=>?_
   have:=hF0 p q;omega
  ·rw [hpe];exact stGet_add 1 rfl
  ·exact ⟨by simp,fun k hk _=>stGet_old σ _ hk,fun k q=>q.imp_right fun e=>by omega⟩
 rintro fr σ1 ⟨f1,f2,H1,hT,hq,hK,hqH⟩
 have hp:=hT.box
 simp only [preN,List.cons_append,List.nil_append] at hp
 have hpl:=hT.lt p hT.hp
 refine wW_cut (fun fr σ'=>fr 1=.ptr p 0∧fr 2=.ptr (p+1) 0∧∃ va F H',TwoP preN σ' p 31 ⟨3,59⟩ ⟨1,3⟩ 55 51 (arcsL st.A++[[]]) (intsL st.E) va ve F G H'∧Keeps σ1 H1 σ' H') ?_ ?_
 ·rcases hT.a with ⟨rfl,hA⟩ | ⟨b,g,n,xs,rfl,hr⟩
  ·simp (disch:=omega) only [go_sem,f1,f2,hp,stGet_left,stSet_left,apR]
   unfold TwoN at hT
   rw [hA] at hT ⊢
   have hX:(stSet σ1 p (.box 31 [AV.d (DV.int .i64 0),AV.d (DV.int .i64 0),AV.rown (List.length σ1+1) 1 0 1,ve])).length=σ1.length:=stSet_len _ _ _
   have hk:∀ k,k<σ1.length→k≠p→stGet (stSet σ1 p (.box 31 [AV.d (DV.int .i64 0),AV.d (DV.int .i64 0),AV.rown (List.length σ1+1) 1 0 1,ve])++[.arr 0 ⟨1,55⟩ [DV.nilslice],.rows 1 55 [AV.d DV.nilslice]]) k=stGet σ1 k:=fun k h1 h2=>stGet_sl h1 h2
   refine ⟨_,_,_,hT.newA (b:=σ1.length+1) (g:=1) ?_ (by omega) ?_ ?_ (fun k hH hkp=>hk k (hT.lt k hH) hkp) ?_,?_,fun k h1 h2=>hk k h1 (fun e=>h2 (e ▸ hT.hp)),?_⟩
   ·exact stGet_add 1 hX
   ·rw [List.length_append,hX];simp
   ·rw [stGet_left _ _ _ (by rw [hX];exact hpl)];exact stGet_set_eq hpl
   ·rw [List.length_append,hX];omega
   ·rw [List.length_append,hX];omega
   ·rintro k (hk | rfl)
    ·exact .inl hk
    ·exact .inr (by omega)
  ·have hr1:=hr.row
   have hr2:=hr.num
   have hr3:=hr.len
   have hpb:p≠b:=fun e=>hT.np.1 (e ▸ hr.mem)
   have hbl:=hT.lt b (hT.fh b hr.mem)
   have hnl:n=xs.length:=by omega
   have hcap:(n+1) * 24≤140737488355328:=by rw [hr2,arcsL,List.length_map];omega
   simp (disch:=omega) only [go_sem,f1,f2,hp,hr1,stGet_left,stSet_left,stGet_sl,stSet_sl,hnl,apR]
   rw [hnl] at hcap
   refine ⟨hcap,?_⟩
   obtain ⟨S,hS⟩:∃ S,S=stSet (stSet σ1 b (.rows (g+1) 55 (xs++[AV.d DV.nilslice]))) p (.box 31 [.d (.int .i64 0),.d (.int .i64 0),AV.rown b (g+1) 0 (xs.length+1),ve]):=⟨_,rfl⟩
   have hX:S.length=σ1.length:=by rw [hS,stSet_len,stSet_len]
   rw [← hS]
   have hk:∀ k,k<σ1.length→k≠p→k≠b→stGet (S++[.arr 0 ⟨1,55⟩ [DV.nilslice]]) k=stGet σ1 k:=fun k h1 h2 h3=>by
    rw [stGet_left _ _ _ (by omega),hS,stGet_set_ne h2,stGet_set_ne h3]
   refine ⟨_,_,_,hT.moreA hr (g':=g+1) ?_ ?_ (fun k hH hkp hkb=>hk k (hT.lt k hH) hkp hkb) ?_,?_,fun k h1 h2=>hk k h1 (fun e=>h2 (e ▸ hT.hp)) (fun e=>h2 (e ▸ hT.fh b hr.mem)),fun k hk=>.inl hk⟩
   ·rw [stGet_left _ _ _ (by omega),hS,stGet_set_ne (Ne.symm hpb),stGet_set_eq hbl]
   ·rw [stGet_left _ _ _ (by omega),hS,stGet_set_eq (by rw [stSet_len];exact hpl),hnl];rfl
   ·rw [List.length_append,hX];omega
   ·rw [List.length_append,hX];omega
 clear hp hpl
 rintro fr σ2 ⟨f1,f2,va2,F2,H2,hT2,hK2⟩
 obtain ⟨hq2,hqH2⟩:=hK2.stay hq (by simp) hqH
 have hp:=hT2.box
 simp only [preN,List.cons_append,List.nil_append] at hp
 have hpl:=hT2.lt p hT2.hp
 refine wW_cut (fun fr σ'=>fr 1=.ptr p 0∧fr 2=.ptr (p+1) 0∧∃ ve G H',TwoP preN σ' p 31 ⟨3,59⟩ ⟨1,3⟩ 55 51 (arcsL st.A++[[]]) (intsL st.E++[[]]) va2 ve F2 G H'∧Keeps σ2 H2 σ' H') ?_ ?_
 ·rcases hT2.e with ⟨rfl,hA⟩ | ⟨b,g,n,xs,rfl,hr⟩
  ·simp (disch:=omega) only [go_sem,f1,f2,hp,stGet_left,stSet_left,apR]
   rw [hA] at hT2 ⊢
   have hX:(stSet σ2 p (.box 31 [AV.d (DV.int .i64 0),AV.d (DV.int .i64 0),va2,AV.rown (List.length σ2+1) 1 0 1])).length=σ2.length:=stSet_len _ _ _
   have hk:∀ k,k<σ2.length→k≠p→stGet (stSet σ2 p (.box 31 [AV.d (DV.int .i64 0),AV.d (DV.int .i64 0),va2,AV.rown (List.length σ2+1) 1 0 1])++[.arr 0 ⟨1,51⟩ [DV.nilslice],.rows 1 51 [AV.d DV.nilslice]]) k=stGet σ2 k:=fun k h1 h2=>stGet_sl h1 h2
   refine ⟨_,_,_,hT2.newE (b:=σ2.length+1) (g:=1) ?_ (by omega) ?_ ?_ (fun k hH hkp=>hk k (hT2.lt k hH) hkp) ?_,?_,fun k h1 h2=>hk k h1 (fun e=>h2 (e ▸ hT2.hp)),?_⟩
   ·exact stGet_add 1 hX
   ·rw [List.length_append,hX];simp
   ·rw [stGet_left _ _ _ (by rw [hX];exact hpl)];exact stGet_set_eq hpl
   ·rw [List.length_append,hX];omega
   ·rw [List.length_append,hX];omega
   ·rintro k (hk | rfl)
    ·exact .inl hk
    ·exact .inr (by omega)
  ·have hr1:=hr.row
   have hr2:=hr.num
   have hr3:=hr.len
   have hpb:p≠b:=fun e=>hT2.np.2 (e ▸ hr.mem)
   have hbl:=hT2.lt b (hT2.gh b hr.mem)
   have hnl:n=xs.length:=by omega
   have hcap:(n+1) * 24≤140737488355328:=by rw [hr2,intsL,List.length_map];omega
   simp (disch:=omega) only [go_sem,f1,f2,hp,hr1,stGet_left,stSet_left,stGet_sl,stSet_sl,hnl,apR]
   rw [hnl] at hcap
   refine ⟨hcap,?_⟩
   obtain ⟨S,hS⟩:∃ S,S=stSet (stSet σ2 b (.rows (g+1) 51 (xs++[AV.d DV.nilslice]))) p (.box 31 [.d (.int .i64 0),.d (.int .i64 0),va2,AV.rown b (g+1) 0 (xs.length+1)]):=⟨_,rfl⟩
   have hX:S.length=σ2.length:=by rw [hS,stSet_len,stSet_len]
   rw [← hS]
   have hk:∀ k,k<σ2.length→k≠p→k≠b→stGet (S++[.arr 0 ⟨1,51⟩ [DV.nilslice]]) k=stGet σ2 k:=fun k h1 h2 h3=>by
    rw [stGet_left _ _ _ (by omega),hS,stGet_set_ne h2,stGet_set_ne h3]
   refine ⟨_,_,_,hT2.moreE hr (g':=g+1) ?_ ?_ (fun k hH hkp hkb=>hk k (hT2.lt k hH) hkp hkb) ?_,?_,fun k h1 h2=>hk k h1 (fun e=>h2 (e ▸ hT2.hp)) (fun e=>h2 (e ▸ hT2.gh b hr.mem)),fun k hk=>.inl hk⟩
   ·rw [stGet_left _ _ _ (by omega),hS,stGet_set_ne (Ne.symm hpb),stGet_set_eq hbl]
   ·rw [stGet_left _ _ _ (by omega),hS,stGet_set_eq (by rw [stSet_len];exact hpl),hnl];rfl
   ·rw [List.length_append,hX];omega
   ·rw [List.length_append,hX];omega
 rintro fr σ3 ⟨f1,f2,ve3,G3,H3,hT3,hK3⟩
 obtain ⟨hq3,hqH3⟩:=hK3.stay hq2 (by simp) hqH2
 have hp3:=hT3.box
 simp only [preN,List.cons_append,List.nil_append] at hp3
 have hpush:TwoN σ3 p st.push va2 ve3 F2 G3 H3:=by
  have e1:arcsL st.push.A=arcsL st.A++[[]]:=by simp [St.push,arcsL]
  have e2:intsL st.push.E=intsL st.E++[[]]:=by simp [St.push,intsL]
  unfold TwoN;rw [e1,e2];exact hT3
 have hve:=Rw.one hT3.e
 have hlen:(arcsL st.A++[[]]).length=st.A.length+1:=by simp [arcsL]
 have hKall:Keeps σ (fun k=>F k∨G k) σ3 H3:=(hK.trans hK2).trans hK3
 rcases hT3.a with ⟨rfl,hA⟩ | ⟨b,g,n,xs,rfl,hr⟩
 ·simp at hA
 ·have hr1:=hr.row
  have hr2:=hr.num
  rw [hlen] at hr2
  subst hr2
  simp only [nfaF] at hq3
  have hql:=lt_of_get hq3 (by simp)
  have hpq:p≠p+1:=by omega
  have hbq:b≠p+1:=fun e=>hqH3 (e ▸ hT3.fh b hr.mem)
  simp (disch:=omega) only [go_sem,f1,f2,hp3,hq3,hve,hr1,hpq,hbq,stGet_set_eq,stGet_set_ne,hql]
  refine ⟨_,rfl,_,_,F2,G3,by rw [show (((st.A.length+1:Nat):Int) - 1)=(st.len:Int) by simp only [St.len];omega];rfl,?_,?_⟩
  ·refine (duo_of hpush).keep ?_ fun k q=>stGet_set_ne (by rintro rfl;exact hqH3 (q.elim (hT3.fh _) (hT3.gh _)))
   rw [stSet_len];exact Nat.le_refl _
  ·refine Keeps.shrink (τ:=σ) (H1:=fun k=>F k∨G k) (H':=H3) ⟨?_,fun k h1 h2=>(stGet_set_ne (by omega)).trans (hKall.old k h1 h2),hKall.new⟩ (Nat.le_refl _) (fun _ _=>rfl) (fun k q=>.inl q) fun k q=>q.elim (hT3.fh k) (hT3.gh k)
   rw [stSet_len];exact hKall.len
end Go.Proofs.YtngdkenddfdhaaaGreatDoor
set_option linter.unusedVariables false
set_option linter.unusedSimpArgs false
set_option maxRecDepth 100000
namespace Go.Proofs.YtngdkenddfdhaaaGreatDoor
open Go Nv Pat
theorem insR_succ (j:Nat) (row:List Int) (t:Nat):insR (j+1) row t=insR j row t++if j=t∨(j:Int)∈row then [(j:Int)] else []:=by
 unfold insR
 rw [List.range_succ,List.filter_append,List.map_append]
 congr 1
 by_cases h:j=t∨(j:Int)∈row
 ·simp [h]
 ·simp [h]
theorem ints_len (l:List Int):(l.map intD).length=l.length:=by simp
theorem ints_get (l:List Int) (j:Nat) (h:j<l.length):(l.map intD).getD j default=.int .i64 (l.getD j 0):=by simp [List.getD_eq_getElem?_getD,h,intD]
theorem mem_take_succ (l:List Int) (i:Nat) (h:i<l.length) (z:Int):z∈l.take (i+1)↔z∈l.take i∨l.getD i 0=z:=by
 rw [List.take_succ_eq_append_getElem h,List.mem_append,List.mem_singleton,List.getD_eq_getElem?_getD,List.getElem?_eq_getElem h]
 exact or_congr Iff.rfl eq_comm
theorem free54 {σ:Nv.ST} {st:St} {va ve:AV} {F G:Nat→Prop} (hD:Duo σ st va ve F G) (hO:OkR st) (hl:st.A.length≤1000000) (f t:Nat) (hf:f<st.A.length) :
  RCall Tryz.prog 54 [nfaV va ve,.d (.int .i64 f),.d (.int .i64 t)] σ fun v σ'=>∃ va' ve' F' G',v=nfaV va' ve'∧Duo σ' (st.rfree f t) va' ve' F' G'∧Keeps σ (fun k=>F k∨G k) σ' (fun k=>F' k∨G' k):=by
 refine fn54.rel noHint (Nat.le_refl _) ?_
 obtain ⟨p,hpe⟩:∃ p,p=σ.length:=⟨_,rfl⟩
 have hF0:∀ k,F k∨G k→k<σ.length:=hD.lt
 refine wW_cut (fun fr τ=>fr 1=.d (.int .i64 f)∧fr 2=.d (.int .i64 t)∧fr 3=.ptr p 0∧fr 6=.ptr (p+1) 0∧τ.length=p+2∧∃ H1,TwoN τ p st va ve F G H1∧stGet τ (p+1)=.box 31 (nfaF (.d .nilslice) (.d .nilslice))∧Keeps σ (fun k=>F k∨G k) τ H1∧¬ H1 (p+1)∧(∀ k,H1 k→(F k∨G k)∨k=p)) ?_ ?_
 ·have ha:=Rw.one hD.a
  have he:=Rw.one hD.e
  simp (disch:=omega) only [go_sem,nfaV,nfaF,ha,he,apR]
  refine ⟨by rw [hpe],by rw [hpe],by simp [hpe],fun k=>(F k∨G k)∨k=p,?_,?_,?_,fun q=>q.elim (fun q=>by have:=hF0 _ q;omega) (by omega),fun k q=>q⟩
  ·refine (hD.pushed _).box (by rw [hpe];exact stGet_add 0 rfl) fun q=>?_
   have:=hF0 p q;omega
  ·rw [hpe];exact stGet_add 1 rfl
  ·exact ⟨by simp,fun k hk _=>stGet_old σ _ hk,fun k q=>q.imp_right fun e=>by omega⟩
 rintro fr σ1 ⟨f1,f2,f3,f6,hσ1,H1,hT,hq,hK,hqH,hH1⟩
 simp only [nfaF] at hq
 have hp:=hT.box
 simp only [preN,List.cons_append,List.nil_append] at hp
 have hEl:(intsL st.E).length=st.A.length:=by rw [intsL,List.length_map,hO.len]
 have hAl:(arcsL st.A).length=st.A.length:=by rw [arcsL,List.length_map]
 obtain ⟨row,hrow⟩:∃ row,row=st.E.getD f []:=⟨_,rfl⟩
 rcases hT.a with ⟨rfl,hA⟩ | ⟨bA,gA,nA,xsA,rfl,hrA⟩
 ·rw [hA] at hAl;simp only [List.length_nil] at hAl;omega
 rcases hT.e with ⟨rfl,hA⟩ | ⟨b,g,n,xs,rfl,hr⟩
 ·rw [hA] at hEl;simp only [List.length_nil] at hEl;omega
 have hrA1:=hrA.row
 have hrA2:=hrA.num
 rw [hAl] at hrA2
 subst hrA2
 have hr1:=hr.row
 have hr2:=hr.num
 have hr3:=hr.len
 rw [hEl] at hr2 hr3
 have hfn:f<n:=by omega
 have hfx:f<xs.length:=by omega
 have hc:=hr.cell f (by rw [hEl];exact hf)
 rw [intsL_get,← hrow] at hc
 have hrl:row.length≤st.A.length:=by rw [hrow];exact hO.okb.row f
 have hbl:=hT.lt b (hT.gh b hr.mem)
 have hbAl:=hT.lt bA (hT.fh bA hrA.mem)
 have hpl:=hT.lt p hT.hp
 have hcl:∀ k,blkOf (xs.getD f .any)=some k→k<σ1.length:=fun k e=>hT.lt k (hT.gh k (hr.blk f k (by rw [hEl];exact hf) e))
 simp (disch:=omega) only [go_sem,f1,f2,f3,f6]
 refine wL_ind (fun (j:Nat) fr τ=>j≤st.A.length∧fr 1=.d (.int .i64 f)∧fr 2=.d (.int .i64 t)∧fr 3=.ptr p 0∧fr 6=.ptr (p+1) 0∧fr 8=.d (.int .i64 j)∧(∀ k,k<σ1.length→stGet τ k=stGet σ1 k)∧σ1.length≤τ.length ∧
  ∃ (g':Nat),fr 7=.own (p+2) g' 0 (insR j row t).length∧stGet τ (p+2)=.arr g' ⟨1,3⟩ ((insR j row t).map intD)) (fun j=>st.A.length - j) ?_ 0 ?_
 ·rintro j fr τ ⟨hj,f1,f2,f3,f6,f8,hτ,hτl,g',f7,hm⟩ ih
  have hml:=lt_of_get hm (by simp)
  have hp':=(hτ p hpl).trans hp
  have hr':=(hτ b hbl).trans hr1
  have hrA':=(hτ bA hbAl).trans hrA1
  have hlen:=insR_len j row t
  by_cases hlt:j<st.A.length
  ·simp (disch:=omega) only [go_sem,f2,f3,f8,hp',hrA',hlt]
   refine wL_ind (fun (i:Nat) fr τ'=>i≤row.length∧τ'=τ∧fr 1=.d (.int .i64 f)∧fr 2=.d (.int .i64 t)∧fr 3=.ptr p 0∧fr 6=.ptr (p+1) 0∧fr 7=.own (p+2) g' 0 (insR j row t).length∧fr 8=.d (.int .i64 j)∧fr 9=.d (.bool (decide (j=t∨(j:Int)∈row.take i)))∧fr 10=.d (.int .i64 i)) (fun i=>row.length - i) ?_ 0 ?_
   ·rintro i fr τ' ⟨hi,rfl,f1,f2,f3,f6,f7,f8,f9,f10⟩ ih2
    by_cases hil:i<row.length
    ·rcases hc with ⟨h1,h2⟩ | ⟨cb,cg,m,h1,h2,h3⟩
     ·rw [List.map_eq_nil_iff.1 h2] at hil;cases hil
     ·have hc':=(hτ cb (hcl cb (by rw [h2];rfl))).trans h3
      have hml':m=row.length:=by rw [h1,List.length_map]
      have hgt:=ints_get row i hil
      have hst:=mem_take_succ row i hil j
      have hil':i<m:=by omega
      cases hd:decide (j=t∨(j:Int)∈row.take i) with
      | true =>
       rw [hd] at f9
       simp (disch:=omega) only [go_sem,f1,f2,f3,f8,f9,f10,hp',hr',hfn,hfx,h2,hc',hil',hil,hml',Nat.zero_add]
       refine ih2 (i+1) _ _ (by omega) ⟨by omega,rfl,?_,?_,?_,?_,?_,?_,?_,?_⟩
       ·simp (disch:=omega) only [go_sem,f1]
       ·simp (disch:=omega) only [go_sem,f2]
       ·simp (disch:=omega) only [go_sem,f3]
       ·simp (disch:=omega) only [go_sem,f6]
       ·simp (disch:=omega) only [go_sem,f7]
       ·simp (disch:=omega) only [go_sem,f8]
       ·have:decide (j=t∨(j:Int)∈row.take (i+1))=true:=by
         have:=of_decide_eq_true hd
         rw [decide_eq_true_eq,hst]
         rcases this with h | h
         ·exact .inl h
         ·exact .inr (.inl h)
        rw [this];simp (disch:=omega) only [go_sem]
       ·simp (disch:=omega) only [go_sem]
      | false =>
       rw [hd] at f9
       simp (disch:=omega) only [go_sem,f1,f2,f3,f8,f9,f10,hp',hr',hfn,hfx,h2,hc',hil',hil,hml',hgt,ints_len,Nat.zero_add]
       refine ih2 (i+1) _ _ (by omega) ⟨by omega,rfl,?_,?_,?_,?_,?_,?_,?_,?_⟩
       ·simp (disch:=omega) only [go_sem,f1]
       ·simp (disch:=omega) only [go_sem,f2]
       ·simp (disch:=omega) only [go_sem,f3]
       ·simp (disch:=omega) only [go_sem,f6]
       ·simp (disch:=omega) only [go_sem,f7]
       ·simp (disch:=omega) only [go_sem,f8]
       ·have:decide (j=t∨(j:Int)∈row.take (i+1))=decide (row.getD i 0=(j:Int)):=by
         have:=of_decide_eq_false hd
         rw [decide_eq_decide,hst]
         constructor
         ·rintro (h | h | h)
          ·exact absurd (.inl h) this
          ·exact absurd (.inr h) this
          ·exact h
         ·exact fun h=>.inr (.inr h)
        rw [this];simp (disch:=omega) only [go_sem]
       ·simp (disch:=omega) only [go_sem]
    ·have hie:i=row.length:=by omega
     subst hie
     rw [List.take_length] at f9
     have hsucc:=insR_succ j row t
     have go:∀ (fr':FR) (τ2:Nv.ST) (g2:Nat),fr' 1=.d (.int .i64 f)→fr' 2=.d (.int .i64 t)→fr' 3=.ptr p 0→fr' 6=.ptr (p+1) 0→fr' 8=.d (.int .i64 (j+1:Nat))→(∀ k,k<σ1.length→stGet τ2 k=stGet σ1 k)→σ1.length≤τ2.length →
      fr' 7=.own (p+2) g2 0 (insR (j+1) row t).length→stGet τ2 (p+2)=.arr g2 ⟨1,3⟩ ((insR (j+1) row t).map intD)→_:=fun fr' τ2 g2 q1 q2 q3 q4 q5 q6 q7 q8 q9=>ih (j+1) fr' τ2 (by omega) ⟨by omega,q1,q2,q3,q4,q5,q6,q7,g2,q8,q9⟩
     have hcap:((insR j row t).length+1) * 8≤140737488355328:=by omega
     have hta:List.take (insR j row t).length ((insR j row t).map intD)=(insR j row t).map intD:=List.take_of_length_le (by simp)
     by_cases hd:j=t∨(j:Int)∈row
     ·rw [decide_eq_true hd] at f9
      rw [if_pos hd] at hsucc
      rcases hc with ⟨h1,h2⟩ | ⟨cb,cg,m,h1,h2,h3⟩
      ·have hr0:=List.map_eq_nil_iff.1 h2
       have hrl0:row.length=0:=by rw [hr0];rfl
       rw [hrl0] at f10
       simp (disch:=omega) only [go_sem,f1,f2,f3,f7,f8,f9,f10,hp',hr',hfn,hfx,h1,Nat.zero_add,hm,hta,hcap,ints_len,Nat.le_refl,stGet_left,stSet_left,apR]
       refine go _ _ (g'+1) ?_ ?_ ?_ ?_ ?_ ?_ ?_ ?_ ?_
       ·simp (disch:=omega) only [go_sem,f1]
       ·simp (disch:=omega) only [go_sem,f2]
       ·simp (disch:=omega) only [go_sem,f3]
       ·simp (disch:=omega) only [go_sem,f6]
       ·simp (disch:=omega) only [go_sem]
       ·exact fun k hk=>((own_turn _ _ hml).2.1 k (by omega) (by omega)).trans (hτ k hk)
       ·exact Nat.le_trans hτl (own_turn _ _ hml).2.2
       ·simp (disch:=omega) only [go_sem,hsucc,List.length_append,List.length_singleton]
       ·rw [(own_turn _ _ hml).1,hsucc];simp [intD]
      ·have hc':=(hτ cb (hcl cb (by rw [h2];rfl))).trans h3
       have hml':m=row.length:=by rw [h1,List.length_map]
       have hir:¬ row.length<m:=by omega
       simp (disch:=omega) only [go_sem,f1,f2,f3,f7,f8,f9,f10,hp',hr',hfn,hfx,h2,hc',hml',Nat.zero_add,hm,hta,hcap,ints_len,Nat.le_refl,Nat.lt_irrefl,stGet_left,stSet_left,apR]
       refine go _ _ (g'+1) ?_ ?_ ?_ ?_ ?_ ?_ ?_ ?_ ?_
       ·simp (disch:=omega) only [go_sem,f1]
       ·simp (disch:=omega) only [go_sem,f2]
       ·simp (disch:=omega) only [go_sem,f3]
       ·simp (disch:=omega) only [go_sem,f6]
       ·simp (disch:=omega) only [go_sem]
       ·exact fun k hk=>((own_turn _ _ hml).2.1 k (by omega) (by omega)).trans (hτ k hk)
       ·exact Nat.le_trans hτl (own_turn _ _ hml).2.2
       ·simp (disch:=omega) only [go_sem,hsucc,List.length_append,List.length_singleton]
       ·rw [(own_turn _ _ hml).1,hsucc];simp [intD]
     ·rw [decide_eq_false hd] at f9
      rw [if_neg hd,List.append_nil] at hsucc
      rcases hc with ⟨h1,h2⟩ | ⟨cb,cg,m,h1,h2,h3⟩
      ·have hr0:=List.map_eq_nil_iff.1 h2
       have hrl0:row.length=0:=by rw [hr0];rfl
       rw [hrl0] at f10
       simp (disch:=omega) only [go_sem,f1,f2,f3,f7,f8,f9,f10,hp',hr',hfn,hfx,h1,Nat.zero_add]
       refine go _ _ g' ?_ ?_ ?_ ?_ ?_ hτ hτl ?_ (by rw [hsucc];exact hm)
       ·simp (disch:=omega) only [go_sem,f1]
       ·simp (disch:=omega) only [go_sem,f2]
       ·simp (disch:=omega) only [go_sem,f3]
       ·simp (disch:=omega) only [go_sem,f6]
       ·simp (disch:=omega) only [go_sem]
       ·simp (disch:=omega) only [go_sem,f7,hsucc]
      ·have hc':=(hτ cb (hcl cb (by rw [h2];rfl))).trans h3
       have hml':m=row.length:=by rw [h1,List.length_map]
       simp (disch:=omega) only [go_sem,f1,f2,f3,f7,f8,f9,f10,hp',hr',hfn,hfx,h2,hc',hml',Nat.zero_add,Nat.lt_irrefl]
       refine go _ _ g' ?_ ?_ ?_ ?_ ?_ hτ hτl ?_ (by rw [hsucc];exact hm)
       ·simp (disch:=omega) only [go_sem,f1]
       ·simp (disch:=omega) only [go_sem,f2]
       ·simp (disch:=omega) only [go_sem,f3]
       ·simp (disch:=omega) only [go_sem,f6]
       ·simp (disch:=omega) only [go_sem]
       ·simp (disch:=omega) only [go_sem,f7,hsucc]
   ·refine ⟨by omega,rfl,?_,?_,?_,?_,?_,?_,?_,?_⟩
    ·simp (disch:=omega) only [go_sem,f1]
    ·simp (disch:=omega) only [go_sem,f2]
    ·simp (disch:=omega) only [go_sem,f3]
    ·simp (disch:=omega) only [go_sem,f6]
    ·simp (disch:=omega) only [go_sem,f7]
    ·simp (disch:=omega) only [go_sem,f8]
    ·simp (disch:=omega) only [go_sem,List.take_zero,List.not_mem_nil,or_false]
    ·simp (disch:=omega) only [go_sem]
  ·have hje:j=st.A.length:=by omega
   subst hje
   have hq':=(hτ (p+1) (by omega)).trans hq
   have hql:=lt_of_get hq' (by simp)
   have hpl':p<τ.length:=by omega
   have hbl':b<τ.length:=by omega
   have hpb:p≠b:=fun e=>hT.np.2 (e ▸ hr.mem)
   have hqb:p+1≠b:=fun e=>hqH (e ▸ hT.gh b hr.mem)
   have hpq:p≠p+1:=by omega
   have hss:∀ X Y,stGet (stSet (stSet τ b X) (p+1) Y) (p+1)=Y:=fun X Y=>stGet_set_eq (by rw [stSet_len];omega)
   simp (disch:=omega) only [go_sem,f1,f3,f6,f7,f8,hp',hr',hrA',hlt,Nat.lt_irrefl,hfn,hfx,Nat.zero_add,hm,hq',hql,hqb,hpb,stGet_set_ne,stGet_set_eq,hbl',hpq,hss]
   obtain ⟨X,hX⟩:∃ X,X=stSet (stSet τ b (.rows g 51 (xs.set f (AV.own (p+2) g' 0 (insR st.A.length row t).length)))) (p+1) (.box 31 [AV.d (DV.int IntKind.i64 0),AV.d (DV.int IntKind.i64 0),AV.rown bA gA 0 st.A.length,AV.rown b g 0 n]):=⟨_,rfl⟩
   rw [← hX]
   have hXl:X.length=τ.length:=by rw [hX,stSet_len,stSet_len]
   have hXk:∀ k,k≠b→k≠p+1→stGet X k=stGet τ k:=fun k h1 h2=>by rw [hX,stGet_set_ne h2,stGet_set_ne h1]
   have hXb:stGet X b=.rows g 51 (xs.set f (AV.own (p+2) g' 0 (insR st.A.length row t).length)):=by rw [hX,stGet_set_ne (Ne.symm hqb),stGet_set_eq hbl']
   have hlt1:∀ k,H1 k→k<σ1.length:=hT.lt
   have hset:intsL (st.rfree f t).E=(intsL st.E).set f ((insR st.A.length row t).map intD):=by rw [hrow];simp [intsL,List.map_set,St.rfree,St.len]
   have hW:=hT.writeE (σ':=X) hr (i:=f) (by rw [hEl];exact hf) (c:=.own (p+2) g' 0 (insR st.A.length row t).length) (ys:=(insR st.A.length row t).map intD) (q:=p+2) hXb
    (.inr ⟨p+2,g',_,by simp,rfl,(hXk _ (by omega) (by omega)).trans hm⟩) rfl (.inl ⟨by omega,by omega⟩) rfl (fun k hH hkb _=>(hXk k hkb (fun e=>hqH (e ▸ hH))).trans (hτ k (hlt1 k hH))) (by omega)
   refine ⟨_,rfl,_,_,F,fun k=>G k∨k=p+2,rfl,?_,?_⟩
   ·refine duo_of (p:=p) (H:=fun k=>H1 k∨k=p+2) ?_
    unfold TwoN;rw [hset];exact hW
   ·refine ⟨by have:=hK.len;omega,fun k h1 h2=>?_,fun k hk=>?_⟩
    ·rw [hXk k (fun e=>h2 (.inr (e ▸ hr.mem))) (by omega),hτ k (by omega)]
     exact hK.old k h1 h2
    ·rcases hk with hk | hk | rfl
     ·exact .inl (.inl hk)
     ·exact .inl (.inr hk)
     ·exact .inr (by omega)
 ·refine ⟨by omega,?_,?_,?_,?_,?_,?_,?_,0,?_,?_⟩
  ·simp (disch:=omega) only [go_sem,f1]
  ·simp (disch:=omega) only [go_sem,f2]
  ·simp (disch:=omega) only [go_sem,f3]
  ·simp (disch:=omega) only [go_sem,f6]
  ·simp (disch:=omega) only [go_sem]
  ·exact fun k hk=>stGet_old σ1 _ hk
  ·simp
  ·simp (disch:=omega) only [go_sem,hσ1,show insR 0 row t=[] from rfl,List.length_nil]
  ·rw [← hσ1];simp [stGet,insR]
end Go.Proofs.YtngdkenddfdhaaaGreatDoor
set_option linter.unusedVariables false
set_option linter.unusedSimpArgs false
set_option maxRecDepth 100000
namespace Go.Proofs.YtngdkenddfdhaaaGreatDoor
open Go Nv Pat
theorem copies41 (n:Tree) (ha:0≤n.min∧n.min≤1000000) (hb:n.max≤1000000):PCall Tryz.prog 41 [nodeA n] (.d (.int .i64 (copies n.min n.max))):=by
 refine fn41.pure noHint (Nat.le_refl _) (by simp only [go_sem,nodeA,nodeF,setD]) (by simp only [go_sem]) ?_
 simp (disch:=omega) only [go_sem,nodeA,nodeF,setD]
 by_cases h:n.max<0
 ·have e:((copies n.min n.max:Nat):Int)=n.min+1:=by unfold copies;rw [if_pos h];omega
  simp (disch:=omega) only [go_sem,h]
  rw [e]
 ·have e:((copies n.min n.max:Nat):Int)=n.max:=by unfold copies;rw [if_neg h];omega
  simp (disch:=omega) only [go_sem,h]
  rw [e]
end Go.Proofs.YtngdkenddfdhaaaGreatDoor
set_option linter.unusedVariables false
set_option linter.unusedSimpArgs false
set_option maxRecDepth 100000
namespace Go.Proofs.YtngdkenddfdhaaaGreatDoor
open Go Nv Pat
theorem copies47 (n:Tree) (ha:0≤n.min∧n.min≤1000000) (hb:n.max≤1000000):PCall Tryz.prog 47 [nodeA n] (.d (.int .i64 (copies n.min n.max))):=by
 refine fn47.pure noHint (Nat.le_refl _) (by simp only [go_sem,nodeA,nodeF,setD]) (by simp only [go_sem]) ?_
 simp (disch:=omega) only [go_sem,nodeA,nodeF,setD]
 by_cases h:n.max<0
 ·have e:((copies n.min n.max:Nat):Int)=n.min+1:=by unfold copies;rw [if_pos h];omega
  simp (disch:=omega) only [go_sem,h]
  rw [e]
 ·have e:((copies n.min n.max:Nat):Int)=n.max:=by unfold copies;rw [if_neg h];omega
  simp (disch:=omega) only [go_sem,h]
  rw [e]
theorem getD_last:∀ (qs:List Nat) (s:Nat),(s::qs).getD qs.length 0=lastD qs s
 | [],s=>rfl
 | q::qs,s=>by
  rw [lastD_cons,← getD_last qs q]
  simp [List.getD_eq_getElem?_getD]
theorem repeat_one {x:Tree} (hx:PartC x) (hwx:WF x) (set:List (Int × Int)) (A:Nat) (b:Int) (hab:0≤b→(A:Int)≤b) {σ:Nv.ST} {p:Nat} {st:St} {H:Nat→Prop} (hB:Bld σ p st H) (hO:Okb st) {s:Nat} (hs:s<st.A.length)
  (hl:st.A.length+copies A b * sz x+1≤1000000) :
  RCall Tryz.prog 50 [.ptr p 0,.d (.int .i64 s),nodeA (.mk 5 set [x] A b)] σ fun v σ'=>v=.d (.int .i64 (endR A b s (chainB (List.replicate (copies A b) fun st=>partB x st) st s s)).2) ∧
   ∃ H',Bld σ' p (endR A b s (chainB (List.replicate (copies A b) fun st=>partB x st) st s s)).1 H'∧Keeps σ H σ' H':=by
 have hx2:=sz_two hwx
 have hmul:copies A b * 2≤copies A b * sz x:=Nat.mul_le_mul_left _ hx2
 have hcA:A≤copies A b∧(A:Int)≤1000000∧b≤1000000:=by
  unfold copies at *
  by_cases h:b<0
  ·rw [if_pos h] at *;omega
  ·rw [if_neg h] at *;have:=hab (by omega);omega
 generalize hC:chainB (List.replicate (copies A b) fun st=>partB x st) st s s=C
 refine fn50.rel noHint (Nat.le_refl _) ?_
 have hcp:=copies47 (.mk 5 set [x] A b) ⟨by simp only [Tree.min];omega,by simp only [Tree.min];omega⟩ (by simp only [Tree.max];omega)
 simp only [Tree.min,Tree.max] at hcp
 generalize hc:copies A b=c at *
 simp (disch:=omega) only [go_sem,nodeA,nodeF,Tree.kind,Tree.set,Tree.sub,Tree.min,Tree.max,setD,List.map_cons,List.map_nil,apR]
 refine hcp.at ?_
 simp (disch:=omega) only [go_sem]
 obtain ⟨B5,hB5⟩:∃ B5,B5=Blk.box 25 [.d (.int .i64 5),.d (.list 2 (set.map rgD)),.d (.list 5 [nodeD x]),.d (.int .i64 (A:Int)),.d (.int .i64 b)]:=⟨_,rfl⟩
 have hb0:stGet (σ++[B5,.arr 0 ⟨1,3⟩ [.int .i64 s]]) σ.length=B5:=by simp [stGet]
 have ha0:stGet (σ++[B5,.arr 0 ⟨1,3⟩ [.int .i64 s]]) (σ.length+1)=.arr 0 ⟨1,3⟩ [.int .i64 s]:=by simp [stGet]
 have hB5d:B5≠.dead:=by rw [hB5];simp
 rw [← hB5]
 refine wL_ind (fun (j:Nat) fr σ'=>j≤c∧fr 0=.ptr p 0∧fr 5=.ptr σ.length 0∧fr 7=.own (σ.length+1) j 0 (j+1)∧fr 18=.d (.int .i64 c)∧fr 19=.d (.int .i64 j) ∧
  ∃ (stj:St) (fj:Nat) (qs:List Nat) (H':Nat→Prop),fr 8=.d (.int .i64 fj)∧stGet σ' σ.length=B5∧¬ H' σ.length∧stGet σ' (σ.length+1)=.arr j ⟨1,3⟩ (qsD (s::qs))∧¬ H' (σ.length+1)∧qs.length=j∧Bld σ' p stj H'∧Okb stj∧Keeps σ H σ' H' ∧
   (∀ q,q∈s::qs→q<stj.A.length)∧fj<stj.A.length∧stj.A.length+(c - j) * sz x+1≤1000000 ∧
   C.1=(chainB (List.replicate (c - j) fun st=>partB x st) stj (lastD qs s) fj).1∧C.2.1=qs++(chainB (List.replicate (c - j) fun st=>partB x st) stj (lastD qs s) fj).2.1∧C.2.2=(chainB (List.replicate (c - j) fun st=>partB x st) stj (lastD qs s) fj).2.2) (fun j=>c - j) ?_ 0 ?_
 ·rintro j fr σ' ⟨hj,f0,f5,f7,f18,f19,stj,fj,qs,H',f8,hbj,hbjH,hmj,hmjH,hql,hBj,hOj,hKj,hqj,hfj,hlj,hc1,hc2,hc3⟩ ih2
  have hqs:(qsD (s::qs)).length=j+1:=by rw [qs_len,List.length_cons,hql]
  have hlast:(qsD (s::qs)).getD j default=.int .i64 (lastD qs s):=by
   rw [qs_get _ _ (by simp;omega),← hql,getD_last]
  have hlm:lastD qs s∈s::qs:=by
   rw [← getD_last qs s,List.getD_eq_getElem?_getD,List.getElem?_eq_getElem (by simp)];exact List.getElem_mem _
  have hlq:=hqj _ hlm
  generalize hlz:lastD qs s=z at *
  by_cases hlt:j<c
  ·have hcj:c - j=(c - (j+1))+1:=by omega
   rw [hcj,List.replicate_succ] at hc1 hc2 hc3
   rw [hcj,Nat.add_mul] at hlj
   have hpx:=part_len hwx hOj
   have hox:Okb (partB x stj).1∧stj.A.length<(partB x stj).1.A.length∧(partB x stj).2<(partB x stj).1.A.length:=part_ok hwx stj hOj
   simp (disch:=omega) only [go_sem,f0,f5,f7,f18,f19,hlt,hbj,hB5,nodeD_eq,nodeC,apR]
   refine ⟨by simp,?_⟩
   refine (hx hBj hOj (by omega)).at ?_
   rintro v σa ⟨rfl,Ha,hBa,hKa⟩
   obtain ⟨hba,hbaH⟩:=hKa.stay hbj hB5d hbjH
   obtain ⟨hma,hmaH⟩:=hKa.stay hmj (by simp) hmjH
   have e1:((j+1:Nat):Int) - 1=j:=by omega
   have e2:(j:Int)+1 - 1=j:=by omega
   simp (disch:=omega) only [go_sem,f0,f7,hma,hqs,hlast,e1,e2,Nat.zero_add,Nat.le_refl,Nat.lt_add_one]
   refine (free49 hBa z stj.len ?_ ?_).at ?_
   ·rw [hox.1.len];omega
   ·have:=hox.1.row z;omega
   rintro v σb ⟨rfl,Hb,hBb,hKb⟩
   obtain ⟨hbb,hbbH⟩:=hKb.stay hba hB5d hbaH
   obtain ⟨hmb,hmbH⟩:=hKb.stay hma (by simp) hmaH
   have hmlb:=lt_of_get hmb (by simp)
   have hta:List.take (j+1) (qsD (s::qs))=qsD (s::qs):=List.take_of_length_le (by omega)
   have hcap:(j+1+1) * 8≤140737488355328:=by omega
   simp (disch:=omega) only [go_sem,f7,f19,hmb,hqs,hta,hcap,Nat.zero_add,Nat.le_refl,stGet_left,stSet_left,apR]
   refine ih2 (j+1) _ _ (by omega) ⟨by omega,?_,?_,?_,?_,?_,(partB x stj).1.free z stj.len,stj.len,qs++[(partB x stj).2],Hb,?_,?_,hbbH,?_,hmbH,by simp [hql],?_,hox.1.free _ hox.2.1,?_,?_,?_,?_,?_,?_,?_⟩
   ·simp (disch:=omega) only [go_sem,f0]
   ·simp (disch:=omega) only [go_sem,f5]
   ·simp (disch:=omega) only [go_sem]
   ·simp (disch:=omega) only [go_sem,f18]
   ·simp (disch:=omega) only [go_sem]
   ·simp (disch:=omega) only [go_sem]
   ·rw [(own_turn _ _ hmlb).2.1 _ (lt_of_get hbb hB5d) (by omega)];exact hbb
   ·rw [(own_turn _ _ hmlb).1];simp [qsD]
   ·exact hBb.keep (own_turn _ _ hmlb).2.2 fun k hk=>(own_turn _ _ hmlb).2.1 k (hBb.lt k hk) fun e=>hmbH (e ▸ hk)
   ·have hKk:=(hKj.trans hKa).trans hKb
    exact hKk.turn (own_turn _ _ hmlb).2.2 fun k hk=>(own_turn _ _ hmlb).2.1 k (Nat.lt_of_lt_of_le hk hKk.len) (by omega)
   ·intro q hq
    rw [free_lenA]
    rw [← List.cons_append] at hq
    rcases List.mem_append.1 hq with hq | hq
    ·have:=hqj q hq;omega
    ·rw [List.mem_singleton.1 hq];exact hox.2.2
   ·rw [free_lenA];exact hox.2.1
   ·rw [free_lenA,hpx.1];omega
   all_goals have hll:lastD (qs++[(partB x stj).2]) s=(partB x stj).2:=by simp [lastD]
   ·rw [hc1,hll];rfl
   ·rw [hc2,hll];simp only [chainB,List.append_assoc,List.singleton_append]
   ·rw [hc3,hll];rfl
  ·have hjc:j=c:=by omega
   subst hjc
   rw [Nat.sub_self,List.replicate_zero] at hc1 hc2 hc3
   simp only [chainB,List.append_nil] at hc1 hc2 hc3
   have hpl:=push_len stj
   simp (disch:=omega) only [go_sem,f0,f7,f18,f19,hlt]
   refine (state48 hBj hOj.len (by omega)).at ?_
   rintro v σa ⟨rfl,Ha,hBa,hKa⟩
   obtain ⟨hba,hbaH⟩:=hKa.stay hbj hB5d hbjH
   obtain ⟨hma,hmaH⟩:=hKa.stay hmj (by simp) hmjH
   have hAj:(A:Int)≤((j+1:Nat):Int):=by omega
   simp (disch:=omega) only [go_sem,f5,f7,hba,hB5,hma,hqs,hAj,Nat.zero_add,Nat.le_refl,Int.toNat_natCast]
   have hE:endR A b s C=((if b<0 then (frees stj.push ((s::qs).drop A) stj.len).free z fj else frees stj.push ((s::qs).drop A) stj.len),stj.len):=by
    unfold endR
    rw [hc1,hc2,hc3,hlz,Int.toNat_natCast]
   have hdl:((s::qs).drop A).length=j+1 - A:=by rw [List.length_drop,List.length_cons,hql]
   refine wL_ind (fun (i:Nat) fr τ=>i≤j+1 - A∧fr 0=.ptr p 0∧fr 5=.ptr σ.length 0∧fr 7=.own (σ.length+1) j 0 (j+1)∧fr 8=.d (.int .i64 fj)∧fr 11=.d (.int .i64 stj.len)∧fr 50=.own (σ.length+1) j A (j+1 - A)∧fr 51=.d (.int .i64 (j+1 - A:Nat))∧fr 52=.d (.int .i64 i) ∧
    ∃ (sti:St) (H2:Nat→Prop),stGet τ σ.length=B5∧¬ H2 σ.length∧stGet τ (σ.length+1)=.arr j ⟨1,3⟩ (qsD (s::qs))∧¬ H2 (σ.length+1)∧Bld τ p sti H2∧Okb sti∧Keeps σ H τ H2∧sti.A.length=stj.A.length+1∧frees stj.push ((s::qs).drop A) stj.len=frees sti (((s::qs).drop A).drop i) stj.len) (fun i=>j+1 - A - i) ?_ 0 ?_
   ·rintro i fr τ ⟨hi,f0,f5,f7,f8,f11,f50,f51,f52,sti,H2,hbt,hbtH,hmt,hmtH,hBi,hOi,hKi,hil,hfi⟩ ih3
    by_cases hlti:i<j+1 - A
    ·have hq:((s::qs).drop A).drop i=(s::qs).getD (A+i) 0::((s::qs).drop A).drop (i+1):=by
      rw [drop_cons _ i (by rw [hdl];exact hlti)]
      congr 1
      simp [List.getD_eq_getElem?_getD,List.getElem?_drop]
     have hgt:=qs_get (s::qs) (A+i) (by rw [List.length_cons];omega)
     have hqm:(s::qs).getD (A+i) 0∈s::qs:=by rw [List.getD_eq_getElem?_getD,List.getElem?_eq_getElem (by rw [List.length_cons];omega)];exact List.getElem_mem _
     have hqi:=hqj _ hqm
     rw [hq] at hfi
     generalize (s::qs).getD (A+i) 0=q at *
     have hai:A+i<j+1:=by omega
     simp (disch:=omega) only [go_sem,f0,f8,f11,f50,f51,f52,hlti,hmt,hgt,hqs,hai]
     refine (free49 hBi q stj.len ?_ ?_).at ?_
     ·rw [hOi.len,hil];omega
     ·have:=hOi.row q;omega
     rintro v σb ⟨rfl,Hb,hBb,hKb⟩
     obtain ⟨hbb,hbbH⟩:=hKb.stay hbt hB5d hbtH
     obtain ⟨hmb,hmbH⟩:=hKb.stay hmt (by simp) hmtH
     simp (disch:=omega) only [go_sem,f52]
     refine ih3 (i+1) _ _ (by omega) ⟨by omega,?_,?_,?_,?_,?_,?_,?_,?_,sti.free q stj.len,Hb,hbb,hbbH,hmb,hmbH,hBb,hOi.free _ (by simp only [St.len];omega),hKi.trans hKb,by rw [free_lenA,hil],hfi⟩
     ·simp (disch:=omega) only [go_sem,f0]
     ·simp (disch:=omega) only [go_sem,f5]
     ·simp (disch:=omega) only [go_sem,f7]
     ·simp (disch:=omega) only [go_sem,f8]
     ·simp (disch:=omega) only [go_sem,f11]
     ·simp (disch:=omega) only [go_sem,f50]
     ·simp (disch:=omega) only [go_sem,f51]
     ·simp (disch:=omega) only [go_sem]
    ·have hie:i=j+1 - A:=by omega
     subst hie
     rw [show ((s::qs).drop A).drop (j+1 - A)=[] from List.drop_of_length_le (by rw [hdl];exact Nat.le_refl _)] at hfi
     have hfi:frees stj.push ((s::qs).drop A) stj.len=sti:=hfi
     by_cases hb:b<0
     ·rw [if_pos hb] at hE
      have e1:((j+1:Nat):Int) - 1=j:=by omega
      have e2:(j:Int)+1 - 1=j:=by omega
      simp (disch:=omega) only [go_sem,f0,f5,f7,f8,f11,f50,f51,f52,hlti,hbt,hB5,hb,hmt,hqs,hlast,e1,e2,Nat.zero_add,Nat.le_refl,Nat.lt_add_one]
      refine (free49 hBi z fj ?_ ?_).at ?_
      ·rw [hOi.len,hil];omega
      ·have:=hOi.row z;omega
      rintro v σb ⟨rfl,Hb,hBb,hKb⟩
      simp (disch:=omega) only [go_sem,f11]
      rw [hE]
      refine ⟨_,rfl,rfl,Hb,?_,hKi.trans hKb⟩
      show Bld σb p ((frees stj.push ((s::qs).drop A) stj.len).free z fj) Hb
      rw [hfi];exact hBb
     ·rw [if_neg hb] at hE
      simp (disch:=omega) only [go_sem,f0,f5,f7,f8,f11,f50,f51,f52,hlti,hbt,hB5,hb]
      rw [hE]
      refine ⟨_,rfl,rfl,H2,?_,hKi⟩
      show Bld τ p (frees stj.push ((s::qs).drop A) stj.len) H2
      rw [hfi];exact hBi
   ·refine ⟨by omega,?_,?_,?_,?_,?_,?_,?_,?_,stj.push,Ha,hba,hbaH,hma,hmaH,hBa,hOj.push,hKj.trans hKa,hpl,by rw [List.drop_zero]⟩
    ·simp (disch:=omega) only [go_sem,f0]
    ·simp (disch:=omega) only [go_sem,f5]
    ·simp (disch:=omega) only [go_sem,f7]
    ·simp (disch:=omega) only [go_sem,f8]
    ·simp (disch:=omega) only [go_sem]
    ·simp (disch:=omega) only [go_sem]
    ·simp (disch:=omega) only [go_sem]
    ·simp (disch:=omega) only [go_sem]
 ·refine ⟨by omega,?_,?_,?_,?_,?_,st,s,[],H,?_,hb0,?_,?_,?_,rfl,hB.pushed _,hO,Keeps.push σ H _,?_,hs,?_,?_,?_,?_⟩
  ·simp (disch:=omega) only [go_sem]
  ·simp (disch:=omega) only [go_sem]
  ·simp (disch:=omega) only [go_sem]
  ·simp (disch:=omega) only [go_sem]
  ·simp (disch:=omega) only [go_sem]
  ·simp (disch:=omega) only [go_sem]
  ·intro h;have:=hB.lt _ h;omega
  ·rw [ha0];rfl
  ·intro h;have:=hB.lt _ h;omega
  ·intro q hq;rw [List.mem_singleton.1 hq];exact hs
  ·rw [Nat.sub_zero];exact hl
  ·rw [Nat.sub_zero,← hC];rfl
  ·rw [Nat.sub_zero,← hC];rfl
  ·rw [Nat.sub_zero,← hC];rfl
end Go.Proofs.YtngdkenddfdhaaaGreatDoor
