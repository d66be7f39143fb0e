/- Part of a proof about the functions of this seat. -/
import Derived.Test.YtngdkenddfdhaaaGreatDoorG14NvV
import Derived.Shelf.Sort.Plain
import Derived.Shelf.Slices.CompactI
import Derived.Test.YtngdkenddfdhaaaGreatDoorG08NvO
import Derived.Test.YtngdkenddfdhaaaGreatDoorG13Fe32
/- Own slices of numbers,sorted or compacted in place by the library. -/



set_option linter.unusedVariables false
set_option linter.unusedSimpArgs false
namespace Nv
open Go Go.RowKit Go.Proofs Go.Sort
section
variable {P:Program} {ρ ρ':RHO} {σ σ':ST} {I I':Nat→Prop} {w w':World}
def numsD (l:List Int):List DV:=l.map (DV.int .i64)
theorem numsD_length (l:List Int):(numsD l).length=l.length:=by simp [numsD]
theorem flat_nums (l:List Int):flat (numsD l)=numsD l:=by
 induction l with
 | nil=>rfl
 | cons x l ih=>show [_]++flat (numsD l)=_;rw [ih];rfl
theorem nums_get {l:List Int} {j:Nat} (h:j<l.length):(numsD l)[j]? = some (.int .i64 (l.getD j 0)):=by
 simp [numsD,List.getD_eq_getElem?_getD,h]
theorem arr_get {d:Array Int} {l:List Int} (hd:d.toList=l) {j:Nat} (h:j<l.length):d[j]! = l.getD j 0:=by
 subst hd
 have hlt:j<d.size:=by simpa using h
 rw [getElem!_pos d _ hlt,List.getD_eq_getElem?_getD,Array.getElem?_toList,Array.getElem?_eq_getElem hlt];rfl
theorem nums_holds (hr:RS P ρ I w σ) {b g B t:Nat} {l:List Int} (hsb:σ[b]? = some (.arr g ⟨1,t⟩ (numsD l))) (hB:(ρ b).blk=some B) :
  Holds (Value.int .i64) w B (ρ b).base l.toArray∧B<w.heap.size:=by
 obtain ⟨us,q1,q2,q3,q4,q5⟩:=hr.arr hsb hB
 have hBlt:B<w.heap.size:=by
  rcases Nat.lt_or_ge B w.heap.size with h' | h'
  ·exact h'
  ·rw [Array.getElem?_eq_none h'] at q1;cases q1
 refine ⟨fun j hj=>?_,hBlt⟩
 have hj':j<l.length:=by simpa using hj
 have hc:=(q5 j _ (by rw [flat_nums];exact nums_get hj')).int_inv
 have hlt:(ρ b).base+j<us.size:=by
  rw [numsD_length] at q3;simp only [Nat.mul_one] at q2;omega
 refine ⟨?_,by simp [World.frozen?,q1]⟩
 rw [arr_get (l:=l) (by simp) hj']
 rw [Array.getD_eq_getD_getElem?,Array.getElem?_eq_getElem hlt,Option.getD_some] at hc
 simp [World.cell?,q1,Array.getElem?_eq_getElem hlt,hc]
theorem nums_anew (hr:RS P ρ I w σ) {b g B t:Nat} {l m:List Int} (hsb:σ[b]? = some (.arr g ⟨1,t⟩ (numsD l))) (hB:(ρ b).blk=some B) (hl:m.length=l.length) (d:Array Int) (hd:d.toList=m) (n:Nat) (os:Array Obj) :
  ∃ ρ',Step ρ I w σ ρ' I (grow (putRow (Value.int .i64) (Sort.ahead w n) B (ρ b).base d) os) (stSet σ b (.arr g ⟨1,t⟩ (numsD m))) ∧
   RS P ρ' I (grow (putRow (Value.int .i64) (Sort.ahead w n) B (ρ b).base d) os) (stSet σ b (.arr g ⟨1,t⟩ (numsD m))):=by
 obtain ⟨us,q1,q2,q3,q4,q5⟩:=hr.arr hsb hB
 have hBlt:=(nums_holds hr hsb hB).2
 have hdz:d.size=m.length:=by rw [← hd];simp
 rw [numsD_length] at q3
 simp only [Nat.mul_one] at q2
 obtain ⟨us',hus'⟩:∃ us',us'=putCells (Value.int .i64) (ρ b).base d us:=⟨_,rfl⟩
 have husz:us'.size=us.size:=by rw [hus'];simp [putCells]
 have hBl:B<(putRow (Value.int .i64) (Sort.ahead w n) B (ρ b).base d).heap.size:=by simpa [Sort.ahead,putRow,mapBlock] using hBlt
 have hheapB:(grow (putRow (Value.int .i64) (Sort.ahead w n) B (ρ b).base d) os).heap[B]? = some (.cells us' t (0,0)):=by
  simp only [grow]
  rw [Array.getElem?_append,if_pos hBl]
  simp [putRow,mapBlock,Sort.ahead,Array.getElem?_modify,q1,onCells,hus']
 refine own_anew (ys:=numsD m) hr hsb hB (by rw [numsD_length,numsD_length,hl]) (fun y hy=>?_) (Ext.of (by simp [grow,putRow,mapBlock,Sort.ahead]) ⟨rfl,rfl,rfl⟩) (fun c hc hcB=>?_) hheapB (by rw [husz];simpa using q2) (fun j c hj=>?_)
 ·obtain ⟨r,_,rfl⟩:=List.mem_map.1 hy
  exact ⟨rfl,fun c hc=>by simp only [DV.cells,List.mem_cons,List.not_mem_nil,or_false] at hc;subst hc;rfl⟩
 ·have hcl:c<(putRow (Value.int .i64) (Sort.ahead w n) B (ρ b).base d).heap.size:=by simpa [Sort.ahead,putRow,mapBlock] using hc
  simp only [grow]
  rw [Array.getElem?_append,if_pos hcl]
  simp [putRow,mapBlock,Sort.ahead,Array.getElem?_modify,show ¬ B=c from fun h=>hcB h.symm]
 ·have hjl:j<m.length:=by
   rcases Nat.lt_or_ge j m.length with h | h
   ·exact h
   ·rw [flat_nums,List.getElem?_eq_none (by rw [numsD_length];exact h)] at hj;cases hj
  rw [flat_nums,nums_get hjl] at hj
  cases hj
  have hlt:(ρ b).base+j<us.size:=by omega
  have hval:us'.getD ((ρ b).base+j) undef=.int .i64 (m.getD j 0):=by
   rw [hus',putCells,Array.getD_eq_getD_getElem?,Array.getElem?_mapIdx,Array.getElem?_eq_getElem hlt]
   simp only [Option.map_some,Option.getD_some,hdz]
   rw [if_pos ⟨by omega,by omega⟩,show (ρ b).base+j - (ρ b).base=j by omega,arr_get hd hjl]
  rw [hval]
  exact .int _ _
theorem one_arg {a:AV} {vs:Array Value} (hv:VL ρ σ I w [a] vs):∃ v,vs=#[v]∧V ρ σ I w a v:=by
 have hsz:vs.size=1:=by have:=hv.1;simpa using this.symm
 obtain ⟨l⟩:=vs
 match l,hsz with
 | [a],_=>exact ⟨a,rfl,hv.2 0 _ rfl⟩
theorem sort_nums {r:Shelf.Ren} (L:Proofs.Lays.n189 P r) (s:List Int) (b g t:Nat) (σ:ST) (hst:stGet σ b=.arr g ⟨1,t⟩ (numsD s)) (h0:0<s.length) (hsz:s.length<4611686018427387904) :
  RCall P (r.f 189) [.own b g 0 s.length] σ fun v σ'=>v=.tuple []∧σ'=stSet σ b (.arr g ⟨1,t⟩ (numsD (s.mergeSort fun x y=>decide (x≤y)))):=by
 intro ρ I w vs hr hvs
 have hsb:=stGet_some hst (by simp)
 obtain ⟨v,rfl,hv⟩:=one_arg hvs
 clear hvs
 generalize hn:s.length=n0 at hv
 cases hv with
 | ownNil k1 k2=>omega
 | ownOld k1 k2=>rw [hsb] at k1;cases k1;exact absurd (k2 _ _ _ rfl) (by omega)
 | own k1 k2 k3 k4 =>
  rw [hsb] at k1;cases k1
  subst hn
  rename_i B cap
  simp only [Nat.zero_mul,Nat.add_zero]
  obtain ⟨hH,hBlt⟩:=nums_holds hr hsb k2
  refine (Any.slices_Sort_int L B (ρ b).base cap s w hH hBlt hsz).mono ?_
  rintro e w' ⟨rfl,n,os,rfl⟩
  obtain ⟨ρ',h1,h2⟩:=nums_anew (m:=s.mergeSort fun x y=>decide (x≤y)) hr hsb k2 (by simp) _ rfl n os
  exact ⟨ρ',I,_,.ret (.tuple []),h1,h2,.tuple rfl (fun j c hj=>by simp at hj),⟨_,rfl,rfl,rfl⟩⟩
end
end Nv
/- Results that lie in blocks of the call's own,and become data at its end. -/

set_option linter.unusedVariables false
set_option linter.unusedSimpArgs false
namespace Nv
open Go
section
variable {P:Program}
def Thaws (P:Program) (a b:AV) (σ τ:ST):Prop:=∀ ρ I w v,RS P ρ I w σ→V ρ σ I w a v→∃ ρ' I',Step ρ I w σ ρ' I' w τ∧RS P ρ' I' w τ∧V ρ' τ I' w b v
theorem Thaws.refl (a:AV) (σ:ST):Thaws P a a σ σ:=fun ρ I w v hr hv=>⟨ρ,I,Step.refl _ _ _ _,hr,hv⟩
theorem Thaws.deep {q:Nat} {a b:AV} {σ τ:ST} (h:(rDeep q a σ).holds fun v τ'=>v=b∧τ'=τ):Thaws P a b σ τ:=by
 intro ρ I w v hr hv
 obtain ⟨u,av,w',ρ',I',σ',h1,h2,h3,h4,h5,h6⟩:=rDeep_sound (P:=P) hr q a v hv (s:=pure v) rfl _ h
 simp only [Sem.run_pure,Result.ok.injEq] at h1
 obtain ⟨rfl,rfl⟩:=h1
 subst h5 h6
 exact ⟨ρ',I',h2,h3,h4⟩
inductive ThawsL (P:Program):List AV→List AV→ST→ST→Prop
 | nil (σ:ST):ThawsL P [] [] σ σ
 | cons {a b:AV} {l m:List AV} {σ σ1 τ:ST}:Thaws P a b σ σ1→ThawsL P l m σ1 τ→ThawsL P (a::l) (b::m) σ τ
theorem ThawsL.length {l m:List AV} {σ τ:ST} (h:ThawsL P l m σ τ):m.length=l.length:=by
 induction h with
 | nil=>rfl
 | cons _ _ ih=>simp [ih]
theorem ThawsL.sound {l m:List AV} {σ τ:ST} (h:ThawsL P l m σ τ):∀ (ρ:RHO) (I:Nat→Prop) (w:World) (u:Nat→Value),RS P ρ I w σ→(∀ j c,l[j]? = some c→V ρ σ I w c (u j)) →
  ∃ ρ' I',Step ρ I w σ ρ' I' w τ∧RS P ρ' I' w τ∧∀ j c,m[j]? = some c→V ρ' τ I' w c (u j):=by
 induction h with
 | nil σ=>intro ρ I w u hr _;exact ⟨ρ,I,Step.refl _ _ _ _,hr,fun j c hj=>by simp at hj⟩
 | cons h1 h2 ih =>
  intro ρ I w u hr hv
  obtain ⟨ρ1,I1,s1,r1,v1⟩:=h1 ρ I w (u 0) hr (hv 0 _ rfl)
  obtain ⟨ρ2,I2,s2,r2,v2⟩:=ih ρ1 I1 w (fun j=>u (j+1)) r1 (fun j c hj=>s1.v hr (hv (j+1) c (by simpa using hj)))
  refine ⟨ρ2,I2,s1.trans s2,r2,fun j c hj=>?_⟩
  cases j with
  | zero=>simp at hj;subst hj;exact s2.v r1 v1
  | succ j=>exact v2 j c (by simpa using hj)
theorem Thaws.agg {l m:List AV} {σ τ:ST} (h:ThawsL P l m σ τ):Thaws P (.agg l) (.agg m) σ τ:=by
 intro ρ I w v hr hv
 cases hv with | agg h1 h2 =>
 obtain ⟨ρ',I',s,r,k⟩:=h.sound ρ I w _ hr h2
 exact ⟨ρ',I',s,r,.agg (by rw [h.length,h1]) k⟩
theorem Thaws.tuple {l m:List AV} {σ τ:ST} (h:ThawsL P l m σ τ):Thaws P (.tuple l) (.tuple m) σ τ:=by
 intro ρ I w v hr hv
 cases hv with | tuple h1 h2 =>
 obtain ⟨ρ',I',s,r,k⟩:=h.sound ρ I w _ hr h2
 exact ⟨ρ',I',s,r,.tuple (by rw [h.length,h1]) k⟩
theorem PCall.of_thaw {f:FuncId} {args:List AV} {r:AV} (ha:AV.pure.pures args=true) (hp:r.pure=true) (h:ACall P f args [] fun oc σ'=>∃ a τ,oc=.ret a∧Thaws P a r σ' τ):PCall P f args r:=by
 refine PCall.of_nil ha hp fun ρ I w vs hr hv=>?_
 refine (h ρ I w vs hr hv).mono ?_
 rintro e w' ⟨ρ',I',σ',oc,h1,h2,h3,a,τ,rfl,ht⟩
 cases e <;> simp only at h3
 obtain ⟨ρ2,I2,s2,r2,v2⟩:=ht ρ' I' w' _ h2 h3
 exact ⟨ρ2,I2,τ,.ret r,h1.trans s2,r2,v2,rfl⟩
theorem FnIs.thaw {f np:Nat} {rs:List ResultVar} {pc:PC} (hf:FnIs P f np rs pc) (hint:Nat→Hint) {args:List AV} {r:AV} (hn:args.length≤np) (ha:AV.pure.pures args=true) (hp:r.pure=true)
  (hh:wW P hint pc (endA P rs fun oc σ'=>∃ a τ,oc=.ret a∧Thaws P a r σ' τ) ⟨⟩ ⟨⟩ (initFr args) []):PCall P f args r:=PCall.of_thaw ha hp (hf.go hint hn hh)
end
end Nv
set_option linter.unusedVariables false
set_option linter.unusedSimpArgs false
set_option maxRecDepth 100000
namespace Go.Proofs.YtngdkenddfdhaaaGreatDoor
open Go Nv Pat
theorem len77z:PCall Tryz.prog 77 [.d (.int .u64 0)] (.d (.int .i64 0)):=by
 refine fn77.pure noHint (Nat.le_refl _) (by simp only [go_sem]) (by simp only [go_sem]) ?_
 have e1:ofVal (Value.string Lib.len8tab)=.d (.str Lib.len8tab.data.toList):=rfl
 have e2:(0:Int)<(Lib.len8tab.data.toList.length:Int):=by
  have:Lib.len8tab.data.toList.length=256:=by rfl
  omega
 have e3:((Lib.len8tab.data.toList.getD 0 0).toNat:Int)=0:=by rfl
 simp (disch:=omega) only [go_sem,e1,e2,e3]
theorem len52z:PCall Tryz.prog 52 [.d (.int .u64 0)] (.d (.int .i64 0)):=by
 refine fn52.pure noHint (Nat.le_refl _) (by simp only [go_sem]) (by simp only [go_sem]) ?_
 simp (disch:=omega) only [go_sem]
 refine len77z.at ?_
 simp (disch:=omega) only [go_sem]
theorem ins67z:PCall Tryz.prog 67 [.d (.list 1 []),.d (.int .i64 0),.d (.int .i64 0)] (.tuple []):=by
 refine fn67.pure noHint (Nat.le_refl _) (by simp only [go_sem]) (by simp only [go_sem]) ?_
 simp (disch:=omega) only [go_sem]
 refine wL_step ?_
 simp (disch:=omega) only [go_sem]
theorem pdq51z (n:Int):PCall Tryz.prog 51 [.d (.list 1 []),.d (.int .i64 0),.d (.int .i64 0),.d (.int .i64 n)] (.tuple []):=by
 refine fn51.pure noHint (Nat.le_refl _) (by simp only [go_sem]) (by simp only [go_sem]) ?_
 simp (disch:=omega) only [go_sem]
 refine wL_step ?_
 simp (disch:=omega) only [go_sem]
 refine ins67z.at ?_
 simp (disch:=omega) only [go_sem]
theorem sort26z:PCall Tryz.prog 26 [.d (.list 1 [])] (.tuple []):=by
 refine fn26.pure noHint (Nat.le_refl _) (by simp only [go_sem]) (by simp only [go_sem]) ?_
 simp (disch:=omega) only [go_sem]
 refine len52z.at ?_
 simp (disch:=omega) only [go_sem]
 refine (pdq51z 0).at ?_
 simp (disch:=omega) only [go_sem]
theorem sort26n:PCall Tryz.prog 26 [.d .nilslice] (.tuple []):=by
 refine PCall.wk (args':=[.d (.list 1 [])]) sort26z rfl fun i hi=>?_
 match i,hi with
 | 0,_=>exact .nil 1
def sortI (l:List Int):List Int:=l.mergeSort fun x y=>decide (x≤y)
theorem sortI_nil:sortI []=[]:=by simp [sortI]
theorem sortI_len (l:List Int):(sortI l).length=l.length:=by simp [sortI]
theorem sort26c {σ:Nv.ST} {c:AV} {l:List Int} (hc:Cell σ ⟨1,3⟩ c (l.map intD)) (hl:l.length≤1000000) :
  RCall Tryz.prog 26 [c] σ fun v σ'=>v=.tuple []∧σ'.length=σ.length∧Cell σ' ⟨1,3⟩ c ((sortI l).map intD)∧∀ k,blkOf c≠some k→stGet σ' k=stGet σ k:=by
 rcases hc with ⟨rfl,h2⟩ | ⟨b,g,n,hn,rfl,hb⟩
 ·have he:l=[]:=by simpa using h2
  subst he
  exact ACall.mono (sort26n σ) fun oc s h=>by
   obtain ⟨rfl,rfl⟩:=h
   exact ⟨_,rfl,rfl,rfl,.inl ⟨rfl,by rw [sortI_nil];rfl⟩,fun _ _=>rfl⟩
 ·rw [List.length_map] at hn
  have hbl:=lt_of_get hb (by simp)
  by_cases h0:0<l.length
  ·have hs:=sort_nums Tryz.lays189 l b g 3 σ hb h0 (by omega)
   subst hn
   refine ACall.mono hs fun oc s h=>?_
   obtain ⟨r,rfl,h1,rfl⟩:=h
   refine ⟨r,rfl,h1,stSet_len _ _ _,.inr ⟨b,g,_,by simp [sortI_len],rfl,by rw [stGet_set_eq hbl];rfl⟩,fun k hk=>?_⟩
   rw [stGet_set_ne (fun e=>hk (by rw [e];rfl))]
  ·have he:l=[]:=List.length_eq_zero_iff.1 (by omega)
   subst he
   rw [sortI_nil]
   obtain rfl:n=0:=hn
   have hlent:([AV.own b g 0 0].map (lent σ))=[.d (.list 1 [])]:=by
    simp (disch:=omega) only [go_sem,hb]
   have hc:PCall Tryz.prog 26 ([AV.own b g 0 0].map (lent σ)) (.tuple []):=by rw [hlent];exact sort26z
   refine ACall.mono (PCall.lend (K:=fun oc s=>oc=.ret (.tuple [])∧s=σ) hc (by rw [hlent];rfl) rfl ⟨rfl,rfl⟩) fun oc s h=>?_
   obtain ⟨rfl,rfl⟩:=h
   exact ⟨_,rfl,rfl,rfl,.inr ⟨b,g,0,rfl,rfl,hb⟩,fun _ _=>rfl⟩
end Go.Proofs.YtngdkenddfdhaaaGreatDoor
/- The language of the automaton of a tree. Plain: no program. -/

set_option linter.unusedVariables false
set_option linter.unusedSimpArgs false
namespace Pat
inductive Walk (Ep:Nat→Nat→Prop) (Ar:Nat→Int→Nat→Prop):Nat→List Int→Nat→Nat→Prop
 | nil (x:Nat):Walk Ep Ar 0 [] x x
 | eps {k:Nat} {w:List Int} {x y z:Nat}:Ep x y→Walk Ep Ar k w y z→Walk Ep Ar (k+1) w x z
 | arc {k:Nat} {c:Int} {w:List Int} {x y z:Nat}:Ar x c y→Walk Ep Ar k w y z→Walk Ep Ar (k+1) (c::w) x z
variable {Ep:Nat→Nat→Prop} {Ar:Nat→Int→Nat→Prop}
theorem Walk.trans {k l:Nat} {u v:List Int} {x y z:Nat} (h:Walk Ep Ar k u x y) (h':Walk Ep Ar l v y z):Walk Ep Ar (k+l) (u++v) x z:=by
 induction h with
 | nil x=>simpa using h'
 | eps h1 h2 ih=>rw [Nat.add_right_comm];exact .eps h1 (ih h')
 | arc h1 h2 ih=>rw [Nat.add_right_comm];exact .arc h1 (ih h')
def ArcIn (rows:List (List Arc)) (r:Nat) (c:Int) (t:Nat):Prop:=∃ lo hi,(lo,hi,(t:Int))∈rows.getD r []∧lo≤c∧c≤hi
theorem fst_pos (xs:List Tree) (o i:Nat):o≤fst xs o i:=by unfold fst;omega
theorem ed_region {n:Tree} (hn:WF n):∀ o r t,Ed n o r t→(o≤r∧r+1<o+sz n)∧o≤t∧t<o+sz n:=by
 induction hn with
 | @mk k set sub a b h1 h2 h3 h4 ih =>
  have hw:WF (.mk k set sub a b):=.mk h1 h2 h3 h4
  intro o r t hE
  have hs:=sz_eq hw
  have hiw:=items_wf hw
  have hi2:∀ x,x∈items (.mk k set sub a b)→2≤sz x:=fun x hx=>sz_two (hiw x hx)
  have hih:∀ x,x∈items (.mk k set sub a b)→∀ o r t,Ed x o r t→(o≤r∧r+1<o+sz x)∧o≤t∧t<o+sz x:=by
   intro x hx
   by_cases h5:k=5
   ·obtain ⟨y,rfl,_⟩:=h3 h5
    simp only [items,h5,if_true,List.headD_cons] at hx
    rw [(List.mem_replicate.1 hx).2]
    exact ih y (by simp)
   ·simp only [items,h5,if_false] at hx
    exact ih x hx
  have hm5:k=5→b<0→0<(items (.mk k set sub a b)).length:=by
   intro h5 hb
   obtain ⟨y,rfl,ha,_⟩:=h3 h5
   simp only [items,h5,if_true,List.length_replicate,copies,if_pos hb]
   omega
  revert hE hs hiw hi2 hih hm5
  generalize hxs:items (.mk k set sub a b)=xs
  intro hE hs hiw hi2 hih hm5
  have hT:fst xs (o+1) xs.length+1=o+sz (.mk k set sub a b):=by rw [fst_all];omega
  have hF:∀ i,fst xs (o+1) i≤fst xs (o+1) xs.length:=fun i=>by
   rcases Nat.le_total i xs.length with h | h
   ·exact fst_mono xs _ h
   ·have e:fst xs (o+1) i=fst xs (o+1) xs.length:=by unfold fst;rw [List.take_of_length_le h,List.take_of_length_le (Nat.le_refl _)]
    omega
  have hO:=fst_pos xs (o+1)
  have hP:∀ i,i≤xs.length→o≤pt xs (o+1) o i∧pt xs (o+1) o i<fst xs (o+1) xs.length:=by
   intro i hi
   refine ⟨?_,pt_lt hi2 (o+1) o (by omega) i hi⟩
   unfold pt
   split
   ·exact Nat.le_refl _
   ·unfold lst;have:=hO (i - 1+1);omega
  have hL:∀ i,i<xs.length→o≤lst xs (o+1) i∧lst xs (o+1) i<fst xs (o+1) xs.length:=by
   intro i hi
   refine ⟨?_,lst_lt hi2 (o+1) hi⟩
   unfold lst;have:=hO (i+1);omega
  rcases (ed_iff _ _ _ _).1 hE with hE | ⟨i,x,hx,hE⟩
  ·have hOT:=hO xs.length
   have fin:∀ r t,(o≤r∧r<fst xs (o+1) xs.length)→(o≤t∧t≤fst xs (o+1) xs.length)→(o≤r∧r+1<o+sz (.mk k set sub a b))∧o≤t∧t<o+sz (.mk k set sub a b):=fun r t h h'=>by omega
   have tF:∀ i,o≤fst xs (o+1) i∧fst xs (o+1) i≤fst xs (o+1) xs.length:=fun i=>⟨by have:=hO i;omega,hF i⟩
   rw [Own,hxs] at hE
   by_cases k2:k=2
   ·rw [if_pos k2] at hE;exact hE.elim
   rw [if_neg k2] at hE
   by_cases k3:k=3
   ·rw [if_pos k3] at hE
    rcases hE with ⟨i,hi,rfl,rfl⟩ | ⟨rfl,rfl⟩
    ·exact fin _ _ (hP i (by omega)) (tF i)
    ·exact fin _ _ (hP _ (Nat.le_refl _)) (tF _)
   rw [if_neg k3] at hE
   by_cases k4:k=4
   ·rw [if_pos k4] at hE
    obtain ⟨i,hi,⟨rfl,rfl⟩ | ⟨rfl,rfl⟩⟩:=hE
    ·exact fin _ _ ⟨Nat.le_refl _,by omega⟩ (tF i)
    ·exact fin _ _ (hL i hi) (tF _)
   rw [if_neg k4] at hE
   by_cases k5:k=5
   ·rw [if_pos k5] at hE
    rcases hE with ⟨i,hi,rfl,rfl⟩ | ⟨i,_,hi,rfl,rfl⟩ | ⟨hb,rfl,rfl⟩
    ·exact fin _ _ (hP i (by omega)) (tF i)
    ·exact fin _ _ (hP i hi) (tF _)
    ·exact fin _ _ (hP _ (Nat.le_refl _)) (tF _)
   rw [if_neg k5] at hE
   obtain ⟨rfl,rfl⟩:=hE
   exact fin _ _ ⟨Nat.le_refl _,by omega⟩ (tF _)
  ·rw [hxs] at hx hE
   have hlt:=(List.getElem?_eq_some_iff.1 hx).1
   have hxm:=List.mem_of_getElem? hx
   have:=hih x hxm _ _ _ hE
   have h1:=fst_succ xs (o+1) i hx
   have h2:=hF (i+1)
   have h3:=hO i
   omega
theorem rowsA_last {n:Tree} (hn:WF n) (o:Nat):(rowsA n o).getD (sz n - 1) []=[]:=by
 have hl:=rowsA_len hn o
 have h2:=sz_two hn
 cases hn with
 | @mk k set sub a b h1 h2' h3 h4 =>
  have hw:WF (.mk k set sub a b):=.mk h1 h2' h3 h4
  by_cases k2:k=2
  ·subst k2
   obtain rfl:=h2' (.inr rfl)
   simp [rowsA,sz,szs]
  ·rw [rowsA_items k set sub a b o k2 (fun h5=>by obtain ⟨x,rfl,_⟩:=h3 h5;simp)] at hl ⊢
   simp only [List.length_cons,List.length_append,List.length_nil] at hl
   rw [← hl,List.getD_eq_getElem?_getD,Nat.add_sub_cancel,List.getElem?_cons,if_neg (by omega),Nat.add_sub_cancel,List.getElem?_append_right (by omega)]
   simp
theorem catA_get:∀ (xs:List Tree),(∀ x,x∈xs→WF x)→∀ (o i:Nat) (x:Tree) (j:Nat),xs[i]? = some x→j<sz x→(catA (xs.map fun x o=>rowsA x o) o)[fst xs o i - o+j]? = (rowsA x (fst xs o i))[j]?
 | [],_,o,i,x,j,h,_=>by simp at h
 | y::xs,hw,o,i,x,j,h,hj=>by
  have hy:=rowsA_len (hw y (by simp)) o
  simp only [List.map_cons,catA]
  cases i with
  | zero =>
   simp only [List.getElem?_cons_zero,Option.some.injEq] at h;subst h
   rw [fst_zero,Nat.sub_self,Nat.zero_add,List.getElem?_append_left (by omega)]
  | succ i =>
   have hf:=fst_pos xs (o+sz y) i
   rw [fst_cons,List.getElem?_append_right (by omega)]
   have:=catA_get xs (fun z hz=>hw z (by simp [hz])) (o+sz y) i x j (by simpa using h) hj
   rw [hy,← this]
   congr 1;omega
def Emb (Ep:Nat→Nat→Prop) (Ar:Nat→Int→Nat→Prop) (n:Tree) (o:Nat):Prop :=
 ∀ r,o≤r→r+1<o+sz n→(∀ t,Ep r t↔Ed n o r t)∧∀ c t,Ar r c t↔ArcIn (rowsA n o) (r - o) c t
theorem lst_fst {xs:List Tree} {o i:Nat} {x:Tree} (h:xs[i]? = some x) (h2:2≤sz x):lst xs o i+1=fst xs o i+sz x:=by
 unfold lst;rw [fst_succ xs o i h];omega
theorem own_src {n:Tree} {o r t:Nat} (h:Own n o r t):r=o∨∃ i,i<(items n).length∧r=lst (items n) (o+1) i:=by
 have hp:∀ i,i≤(items n).length→pt (items n) (o+1) o i=o∨∃ j,j<(items n).length∧pt (items n) (o+1) o i=lst (items n) (o+1) j:=by
  intro i hi
  unfold pt
  split
  ·exact .inl rfl
  ·exact .inr ⟨i - 1,by omega,rfl⟩
 cases n with
 | mk k set sub a b =>
  rw [Own] at h
  by_cases k2:k=2
  ·rw [if_pos k2] at h;exact h.elim
  rw [if_neg k2] at h
  by_cases k3:k=3
  ·rw [if_pos k3] at h
   rcases h with ⟨i,hi,rfl,_⟩ | ⟨rfl,_⟩
   ·exact hp i (by omega)
   ·exact hp _ (Nat.le_refl _)
  rw [if_neg k3] at h
  by_cases k4:k=4
  ·rw [if_pos k4] at h
   obtain ⟨i,hi,⟨rfl,_⟩ | ⟨rfl,_⟩⟩:=h
   ·exact .inl rfl
   ·exact .inr ⟨i,hi,rfl⟩
  rw [if_neg k4] at h
  by_cases k5:k=5
  ·rw [if_pos k5] at h
   rcases h with ⟨i,hi,rfl,_⟩ | ⟨i,_,hi,rfl,_⟩ | ⟨_,rfl,_⟩
   ·exact hp i (by omega)
   ·exact hp i hi
   ·exact hp _ (Nat.le_refl _)
  rw [if_neg k5] at h
  exact .inl h.1
theorem fst_lt {xs:List Tree} (h2:∀ x,x∈xs→2≤sz x) (o:Nat) {i j:Nat} (hij:i<j) (hi:i<xs.length):lst xs o i<fst xs o j:=by
 have h1:=lst_fst (o:=o) (List.getElem?_eq_getElem hi) (h2 _ (List.getElem_mem hi))
 have h3:=fst_succ xs o i (List.getElem?_eq_getElem hi)
 have h4:=fst_mono xs o (show i+1≤j by omega)
 have:=h2 _ (List.getElem_mem hi)
 omega
theorem Emb.item {n:Tree} (hn:WF n) {o:Nat} (he:Emb Ep Ar n o) {i:Nat} {x:Tree} (hx:(items n)[i]? = some x):Emb Ep Ar x (fst (items n) (o+1) i):=by
 intro r hr1 hr2
 have hiw:=items_wf hn
 have hi2:∀ x,x∈items n→2≤sz x:=fun x hx=>sz_two (hiw x hx)
 have hlt:=(List.getElem?_eq_some_iff.1 hx).1
 have hs:=sz_eq hn
 have hxw:=hiw x (List.mem_of_getElem? hx)
 have hx2:=sz_two hxw
 have hall:=fst_all (items n) (o+1)
 have hsucc:=fst_succ (items n) (o+1) i hx
 have hle:=fst_mono (items n) (o+1) (show i+1≤(items n).length by omega)
 have hpos:=fst_pos (items n) (o+1) i
 obtain ⟨e1,e2⟩:=he r (by omega) (by omega)
 refine ⟨fun t=>(e1 t).trans ?_,fun c t=>(e2 c t).trans ?_⟩
 ·rw [ed_iff]
  constructor
  ·rintro (h | ⟨j,y,hy,h⟩)
   ·exfalso
    rcases own_src h with rfl | ⟨j,hj,rfl⟩
    ·omega
    ·rcases Nat.lt_trichotomy j i with h | h | h
     ·have:=fst_lt hi2 (o+1) h hj;omega
     ·subst h;have:=lst_fst (o:=o+1) hx hx2;omega
     ·have h5:=lst_fst (o:=o+1) (List.getElem?_eq_getElem hj) (hi2 _ (List.getElem_mem hj))
      have h6:=fst_mono (items n) (o+1) (show i+1≤j by omega)
      have:=hi2 _ (List.getElem_mem hj)
      omega
   ·have hjl:=(List.getElem?_eq_some_iff.1 hy).1
    have hyw:=hiw y (List.mem_of_getElem? hy)
    have hreg:=(ed_region hyw _ _ _ h).1
    rcases Nat.lt_trichotomy j i with h6 | h6 | h6
    ·have h5:=fst_succ (items n) (o+1) j hy
     have h7:=fst_mono (items n) (o+1) (show j+1≤i by omega)
     omega
    ·subst h6;rw [hx] at hy;cases hy;exact h
    ·have h7:=fst_mono (items n) (o+1) (show i+1≤j by omega)
     omega
  ·intro h;exact .inr ⟨i,x,hx,h⟩
 ·have hk2:∃ k set sub a b,n=.mk k set sub a b∧k≠2∧(k=5→sub≠[]):=by
   cases hn with
   | @mk k set sub a b h1 h2 h3 h4 =>
    refine ⟨k,set,sub,a,b,rfl,fun k2=>?_,fun h5=>by obtain ⟨x,rfl,_⟩:=h3 h5;simp⟩
    subst k2
    obtain rfl:=h2 (.inr rfl)
    simp [items] at hx
  obtain ⟨k,set,sub,a,b,rfl,k2,k5⟩:=hk2
  have hrow:(rowsA (.mk k set sub a b) o).getD (r - o) []=(rowsA x (fst (items (.mk k set sub a b)) (o+1) i)).getD (r - fst (items (.mk k set sub a b)) (o+1) i) []:=by
   have hcl:=catA_len (items (.mk k set sub a b)) (o+1) fun y hy o=>rowsA_len (hiw y hy) o
   rw [rowsA_items k set sub a b o k2 k5,List.getD_eq_getElem?_getD,List.getD_eq_getElem?_getD,show r - o=(r - (o+1))+1 by omega,List.getElem?_cons_succ,List.getElem?_append_left (by omega)]
   have:=catA_get _ hiw (o+1) i x (r - fst (items (.mk k set sub a b)) (o+1) i) hx (by omega)
   rw [show fst (items (.mk k set sub a b)) (o+1) i - (o+1)+(r - fst (items (.mk k set sub a b)) (o+1) i)=r - (o+1) by omega] at this
   rw [this]
  unfold ArcIn
  rw [hrow]
end Pat
/- The language of the automaton of a tree: it is the tree's. Plain: no program. -/

set_option linter.unusedVariables false
set_option linter.unusedSimpArgs false
namespace Pat
variable {Ep:Nat→Nat→Prop} {Ar:Nat→Int→Nat→Prop}
theorem pt_zero (xs:List Tree) (o s:Nat):pt xs o s 0=s:=by simp [pt]
theorem pt_succ (xs:List Tree) (o s i:Nat):pt xs o s (i+1)=lst xs o i:=by simp [pt]
theorem pt_inj {xs:List Tree} (h2:∀ x,x∈xs→2≤sz x) {o s:Nat} (hs:s<o) {i j:Nat} (hi:i≤xs.length) (hj:j≤xs.length) (h:pt xs o s i=pt xs o s j):i=j:=by
 have lt:∀ {i j:Nat},i<j→j≤xs.length→pt xs o s i<pt xs o s j:=by
  intro i j hij hj
  obtain ⟨j,rfl⟩:∃ k,j=k+1:=⟨j - 1,by omega⟩
  rw [pt_succ]
  have h1:=lst_fst (o:=o) (List.getElem?_eq_getElem (show j<xs.length by omega)) (h2 _ (List.getElem_mem (show j<xs.length by omega)))
  have h3:=h2 _ (List.getElem_mem (show j<xs.length by omega))
  cases i with
  | zero=>rw [pt_zero];have:=fst_pos xs o j;omega
  | succ i =>
   rw [pt_succ]
   have:=fst_lt h2 o (show i<j by omega) (by omega)
   omega
 rcases Nat.lt_trichotomy i j with h' | h' | h'
 ·have:=lt h' hj;omega
 ·exact h'
 ·have:=lt h' hi;omega
structure Frame (Ep:Nat→Nat→Prop) (Ar:Nat→Int→Nat→Prop) (xs:List Tree) (o T:Nat):Prop where
 two:∀ x,x∈xs→2≤sz x
 T:T=fst xs (o+1) xs.length
 noAr:∀ i,i≤xs.length→∀ c t,¬ Ar (pt xs (o+1) o i) c t
 sub:∀ i x,xs[i]? = some x→Emb Ep Ar x (fst xs (o+1) i)
theorem row_none {n:Tree} (hn:WF n) {o:Nat} (he:Emb Ep Ar n o) (hk:∀ k s l a b,n=.mk k s l a b→k≠2∧(k=5→l≠[])):∀ i,i≤(items n).length→∀ c t,¬ Ar (pt (items n) (o+1) o i) c t:=by
 intro i hi c t h
 have hiw:=items_wf hn
 have hi2:∀ x,x∈items n→2≤sz x:=fun x hx=>sz_two (hiw x hx)
 have hs:=sz_eq hn
 have hall:=fst_all (items n) (o+1)
 have hlt:=pt_lt hi2 (o+1) o (by omega) i hi
 have hge:o≤pt (items n) (o+1) o i:=by
  cases i with
  | zero=>rw [pt_zero];exact Nat.le_refl _
  | succ i=>rw [pt_succ];have:=lst_fst (o:=o+1) (List.getElem?_eq_getElem (show i<(items n).length by omega)) (hi2 _ (List.getElem_mem (show i<(items n).length by omega)));have:=fst_pos (items n) (o+1) i;have:=hi2 _ (List.getElem_mem (show i<(items n).length by omega));omega
 obtain ⟨_,e2⟩:=he _ hge (by omega)
 have h:=(e2 c t).1 h
 obtain ⟨k,set,sub,a,b,rfl⟩:∃ k set sub a b,n=.mk k set sub a b:=by cases n;exact ⟨_,_,_,_,_,rfl⟩
 obtain ⟨k2,k5⟩:=hk _ _ _ _ _ rfl
 obtain ⟨lo,hi',hm,_⟩:=h
 rw [rowsA_items k set sub a b o k2 k5] at hm
 cases i with
 | zero=>rw [pt_zero,Nat.sub_self] at hm;simp at hm
 | succ i =>
  have hil:i<(items (.mk k set sub a b)).length:=by omega
  rw [pt_succ] at hm hlt hge
  have h1:=lst_fst (o:=o+1) (List.getElem?_eq_getElem hil) (hi2 _ (List.getElem_mem hil))
  have h3:=hi2 _ (List.getElem_mem hil)
  have hp:=fst_pos (items (.mk k set sub a b)) (o+1) i
  have hcl:=catA_len (items (.mk k set sub a b)) (o+1) fun y hy o=>rowsA_len (hiw y hy) o
  have hg:=catA_get _ hiw (o+1) i _ (sz (items (.mk k set sub a b))[i] - 1) (List.getElem?_eq_getElem hil) (by omega)
  have hl:=rowsA_last (hiw _ (List.getElem_mem hil)) (fst (items (.mk k set sub a b)) (o+1) i)
  rw [List.getD_eq_getElem?_getD,show lst (items (.mk k set sub a b)) (o+1) i - o=(lst (items (.mk k set sub a b)) (o+1) i - (o+1))+1 by omega,List.getElem?_cons_succ,List.getElem?_append_left (by omega),
   show lst (items (.mk k set sub a b)) (o+1) i - (o+1)=fst (items (.mk k set sub a b)) (o+1) i - (o+1)+(sz (items (.mk k set sub a b))[i] - 1) by omega,hg,← List.getD_eq_getElem?_getD,hl] at hm
  cases hm
def Reads (Ep:Nat→Nat→Prop) (Ar:Nat→Int→Nat→Prop) (n:Tree):Prop:=∀ o,Emb Ep Ar n o →
 (∀ k w y,Walk Ep Ar k w o y→(y<o∨o+sz n≤y+1)→∃ k' u v,k'≤k∧w=u++v∧Lang n u∧Walk Ep Ar k' v (o+sz n - 1) y) ∧
 (∀ u,Lang n u→∃ k,Walk Ep Ar k u o (o+sz n - 1))
theorem walk_first {k:Nat} {w:List Int} {x y:Nat} (h:Walk Ep Ar k w x y) (hne:x≠y) (ha:∀ c t,¬ Ar x c t):∃ k' t,k=k'+1∧Ep x t∧Walk Ep Ar k' w t y:=by
 cases h with
 | nil=>exact absurd rfl hne
 | eps h1 h2=>exact ⟨_,_,rfl,h1,h2⟩
 | arc h1 h2=>exact absurd h1 (ha _ _)
theorem Frame.pass {xs:List Tree} {o T:Nat} (F:Frame Ep Ar xs o T) {i:Nat} {x:Tree} (hx:xs[i]? = some x) (hr:Reads Ep Ar x) {k:Nat} {w:List Int} {y:Nat}
  (h:Walk Ep Ar k w (fst xs (o+1) i) y) (hy:y<o∨T≤y):∃ k' u v,k'≤k∧w=u++v∧Lang x u∧Walk Ep Ar k' v (pt xs (o+1) o (i+1)) y:=by
 have h2:=F.two x (List.mem_of_getElem? hx)
 have hlt:=(List.getElem?_eq_some_iff.1 hx).1
 have h1:=lst_fst (o:=o+1) hx h2
 have h3:=fst_mono xs (o+1) (show i+1≤xs.length by omega)
 have h4:=fst_succ xs (o+1) i hx
 have h5:=fst_pos xs (o+1) i
 obtain ⟨k',u,v,e1,e2,e3,e4⟩:=(hr _ (F.sub i x hx)).1 k w y h (by rw [F.T] at hy;omega)
 refine ⟨k',u,v,e1,e2,e3,?_⟩
 rw [pt_succ,show lst xs (o+1) i=fst xs (o+1) i+sz x - 1 by omega]
 exact e4
theorem Frame.run {xs:List Tree} {o T:Nat} (F:Frame Ep Ar xs o T) {i:Nat} {x:Tree} (hx:xs[i]? = some x) (hr:Reads Ep Ar x) {u:List Int} (hu:Lang x u):∃ k,Walk Ep Ar k u (fst xs (o+1) i) (pt xs (o+1) o (i+1)):=by
 have h2:=F.two x (List.mem_of_getElem? hx)
 have h1:=lst_fst (o:=o+1) hx h2
 obtain ⟨k,h⟩:=(hr _ (F.sub i x hx)).2 u hu
 refine ⟨k,?_⟩
 rw [pt_succ,show lst xs (o+1) i=fst xs (o+1) i+sz x - 1 by omega]
 exact h
end Pat
/- The automaton of a tree reads what the tree matches. Plain: no program. -/

set_option linter.unusedVariables false
set_option linter.unusedSimpArgs false
namespace Pat
variable {Ep:Nat→Nat→Prop} {Ar:Nat→Int→Nat→Prop}
theorem ed_pt {n:Tree} (hn:WF n) (o:Nat) {i:Nat} (hi:i≤(items n).length) (t:Nat):Ed n o (pt (items n) (o+1) o i) t↔Own n o (pt (items n) (o+1) o i) t:=by
 rw [ed_iff]
 refine ⟨fun h=>h.elim id fun ⟨j,x,hx,h⟩=>?_,.inl⟩
 exfalso
 have hiw:=items_wf hn
 have hi2:∀ x,x∈items n→2≤sz x:=fun x hx=>sz_two (hiw x hx)
 have hjl:=(List.getElem?_eq_some_iff.1 hx).1
 have hreg:=(ed_region (hiw x (List.mem_of_getElem? hx)) _ _ _ h).1
 have hj1:=lst_fst (o:=o+1) hx (hi2 x (List.mem_of_getElem? hx))
 have hpos:=fst_pos (items n) (o+1) j
 cases i with
 | zero=>rw [pt_zero] at hreg;omega
 | succ i =>
  rw [pt_succ] at hreg
  rcases Nat.lt_trichotomy j i with h1 | h1 | h1
  ·have h2:=fst_lt hi2 (o+1) h1 hjl
   have h3:=lst_fst (o:=o+1) (List.getElem?_eq_getElem (show i<(items n).length by omega)) (hi2 _ (List.getElem_mem (show i<(items n).length by omega)))
   have h4:=hi2 _ (List.getElem_mem (show i<(items n).length by omega))
   omega
  ·subst h1;omega
  ·have h2:=fst_lt hi2 (o+1) h1 (by omega)
   omega
theorem frame_of {n:Tree} (hn:WF n) {o:Nat} (he:Emb Ep Ar n o) (hk:∀ k s l a b,n=.mk k s l a b→k≠2∧(k=5→l≠[])):Frame Ep Ar (items n) o (o+sz n - 1) where
 two:=fun x hx=>sz_two (items_wf hn x hx)
 T:=by rw [fst_all,sz_eq hn];omega
 noAr:=row_none hn he hk
 sub:=fun i x hx=>he.item hn hx
theorem ep_pt {n:Tree} (hn:WF n) {o:Nat} (he:Emb Ep Ar n o) {i:Nat} (hi:i≤(items n).length) (t:Nat):Ep (pt (items n) (o+1) o i) t↔Own n o (pt (items n) (o+1) o i) t:=by
 have hiw:=items_wf hn
 have hi2:∀ x,x∈items n→2≤sz x:=fun x hx=>sz_two (hiw x hx)
 have hs:=sz_eq hn
 have hall:=fst_all (items n) (o+1)
 have hlt:=pt_lt hi2 (o+1) o (by omega) i hi
 have hge:o≤pt (items n) (o+1) o i:=by
  cases i with
  | zero=>rw [pt_zero];exact Nat.le_refl _
  | succ i =>
   rw [pt_succ]
   have h1:=lst_fst (o:=o+1) (List.getElem?_eq_getElem (show i<(items n).length by omega)) (hi2 _ (List.getElem_mem (show i<(items n).length by omega)))
   have h2:=fst_pos (items n) (o+1) i
   have h3:=hi2 _ (List.getElem_mem (show i<(items n).length by omega))
   omega
 exact ((he _ hge (by omega)).1 t).trans (ed_pt hn o hi t)
theorem reads_set (s:List (Int × Int)) (a b:Int):Reads Ep Ar (.mk 2 s [] a b):=by
 intro o he
 have hs:sz (.mk 2 s [] a b)=2:=by simp [sz,szs]
 rw [hs]
 obtain ⟨e1,e2⟩:=he o (Nat.le_refl _) (by rw [hs];omega)
 have hEp:∀ t,¬ Ep o t:=by
  intro t h
  rcases (ed_iff _ _ _ _).1 ((e1 t).1 h) with h | ⟨i,x,hx,_⟩
  ·simp only [Own,if_true] at h
  ·simp [items] at hx
 have hAr:∀ c t,Ar o c t↔t=o+1∧InSet s c:=by
  intro c t
  rw [e2 c t,Nat.sub_self]
  unfold ArcIn InSet
  simp only [rowsA,if_true,List.getD_cons_zero,List.mem_map,Prod.mk.injEq]
  constructor
  ·rintro ⟨lo,hi,⟨r,hr,rfl,rfl,ht⟩,h1,h2⟩;exact ⟨by omega,r,hr,h1,h2⟩
  ·rintro ⟨rfl,r,hr,h1,h2⟩;exact ⟨r.1,r.2,⟨r,hr,rfl,rfl,rfl⟩,h1,h2⟩
 constructor
 ·intro k w y h hy
  cases h with
  | nil=>omega
  | eps h1 h2=>exact absurd h1 (hEp _)
  | @arc k c w x t z h1 h2 =>
   obtain ⟨rfl,hin⟩:=(hAr _ _).1 h1
   refine ⟨k,[c],w,by omega,rfl,?_,h2⟩
   rw [Lang,if_neg (by decide),if_pos rfl]
   exact ⟨c,rfl,hin⟩
 ·intro u hu
  rw [Lang,if_neg (by decide),if_pos rfl] at hu
  obtain ⟨c,rfl,hin⟩:=hu
  exact ⟨1,.arc ((hAr _ _).2 ⟨rfl,hin⟩) (.nil _)⟩
theorem reads_empty (s:List (Int × Int)) (a b:Int):Reads Ep Ar (.mk 1 s [] a b):=by
 intro o he
 have hn:WF (.mk 1 s [] a b):=.mk (.inl rfl) (fun _=>rfl) (fun h=>absurd h (by decide)) (by simp)
 have hs:sz (.mk 1 s [] a b)=2:=by simp [sz,szs]
 have hit:items (.mk 1 s [] a b)=[]:=by simp [items]
 have hF:=frame_of hn he (fun k s l a b e=>by cases e;exact ⟨by decide,fun h=>absurd h (by decide)⟩)
 rw [hs] at hF ⊢
 have hep:∀ t,Ep o t↔t=o+1:=by
  intro t
  have:=ep_pt hn he (Nat.zero_le _) t
  rw [pt_zero] at this
  rw [this,Own,if_neg (by decide),if_neg (by decide),if_neg (by decide),if_neg (by decide),hit]
  simp [fst]
 have hna:∀ c t,¬ Ar o c t:=by have:=hF.noAr 0 (Nat.zero_le _);rwa [pt_zero] at this
 constructor
 ·intro k w y h hy
  obtain ⟨k',t,rfl,h1,h2⟩:=walk_first h (by omega) hna
  obtain rfl:=(hep t).1 h1
  exact ⟨k',[],w,by omega,rfl,by rw [Lang,if_pos rfl],h2⟩
 ·intro u hu
  rw [Lang,if_pos rfl] at hu
  subst hu
  exact ⟨1,.eps ((hep _).2 rfl) (.nil _)⟩
theorem drop_get {xs:List Tree} {i:Nat} (h:i<xs.length):xs.drop i=xs[i]::xs.drop (i+1):=List.drop_eq_getElem_cons h
theorem reads_join {s:List (Int × Int)} {xs:List Tree} {a b:Int} (hn:WF (.mk 3 s xs a b)) (ih:∀ x,x∈xs→Reads Ep Ar x):Reads Ep Ar (.mk 3 s xs a b):=by
 intro o he
 have hit:items (.mk 3 s xs a b)=xs:=by simp [items]
 have hF:=frame_of hn he (fun k s l a b e=>by cases e;exact ⟨by decide,fun h=>absurd h (by decide)⟩)
 have hT:=hF.T
 have hpi:=fun {i j:Nat}=>pt_inj hF.two (o:=o+1) (s:=o) (by omega) (i:=i) (j:=j)
 have hep:∀ i,i≤xs.length→∀ t,Ep (pt xs (o+1) o i) t↔(i<xs.length∧t=fst xs (o+1) i)∨(i=xs.length∧t=o+sz (.mk 3 s xs a b) - 1):=by
  intro i hi t
  have h1:=ep_pt hn he (by rw [hit];exact hi) t
  rw [hit] at h1 hT hpi
  rw [h1,Own,if_neg (by decide),if_pos rfl,hit,hT]
  constructor
  ·rintro (⟨j,hj,e,rfl⟩ | ⟨e,rfl⟩)
   ·obtain rfl:=hpi hi (by omega) e;exact .inl ⟨hj,rfl⟩
   ·exact .inr ⟨hpi hi (Nat.le_refl _) e,rfl⟩
  ·rintro (⟨hj,rfl⟩ | ⟨rfl,rfl⟩)
   ·exact .inl ⟨i,hj,rfl,rfl⟩
   ·exact .inr ⟨rfl,rfl⟩
 have hna:=hF.noAr
 have hlt:=fun i hi=>pt_lt hF.two (o+1) o (by omega) i hi
 rw [hit] at hF hT hna hlt
 rw [← hT] at hlt
 have hge:∀ i,i≤xs.length→o≤pt xs (o+1) o i:=by
  intro i hi
  cases i with
  | zero=>rw [pt_zero];exact Nat.le_refl _
  | succ i=>rw [pt_succ];have h1:=lst_fst (o:=o+1) (List.getElem?_eq_getElem (show i<xs.length by omega)) (hF.two _ (List.getElem_mem (show i<xs.length by omega)));have:=fst_pos xs (o+1) i;have:=hF.two _ (List.getElem_mem (show i<xs.length by omega));omega
 have hs2:=sz_two hn
 constructor
 ·have key:∀ d i,i≤xs.length→xs.length - i=d→∀ k w y,Walk Ep Ar k w (pt xs (o+1) o i) y→(y<o∨o+sz (.mk 3 s xs a b)≤y+1) →
    ∃ k' u v,k'≤k∧w=u++v∧LangJ (xs.drop i) u∧Walk Ep Ar k' v (o+sz (.mk 3 s xs a b) - 1) y:=by
   intro d
   induction d with
   | zero =>
    intro i hi hd k w y h hy
    obtain rfl:i=xs.length:=by omega
    have:=hlt _ hi;have:=hge _ hi
    obtain ⟨k',t,rfl,h1,h2⟩:=walk_first h (by omega) (hna _ hi)
    rcases (hep _ hi t).1 h1 with ⟨h,_⟩ | ⟨_,rfl⟩
    ·omega
    ·exact ⟨k',[],w,by omega,rfl,by rw [List.drop_length,LangJ],h2⟩
   | succ d ihd =>
    intro i hi hd k w y h hy
    have:=hlt _ hi;have:=hge _ hi
    obtain ⟨k',t,rfl,h1,h2⟩:=walk_first h (by omega) (hna _ hi)
    rcases (hep _ hi t).1 h1 with ⟨hil,rfl⟩ | ⟨h,_⟩
    ·obtain ⟨k2,u,v,e1,rfl,hL,h3⟩:=hF.pass (List.getElem?_eq_getElem hil) (ih _ (List.getElem_mem hil)) h2 (by omega)
     obtain ⟨k3,u',v',e2,rfl,hL',h4⟩:=ihd (i+1) hil (by omega) _ _ _ h3 hy
     exact ⟨k3,u++u',v',by omega,by simp,by rw [drop_get hil,LangJ];exact ⟨u,u',rfl,hL,hL'⟩,h4⟩
    ·omega
  intro k w y h hy
  obtain ⟨k',u,v,e1,e2,e3,e4⟩:=key _ 0 (Nat.zero_le _) rfl k w y (by rw [pt_zero];exact h) hy
  exact ⟨k',u,v,e1,e2,by rw [Lang,if_neg (by decide),if_neg (by decide),if_pos rfl];exact e3,e4⟩
 ·have key:∀ d i,i≤xs.length→xs.length - i=d→∀ u,LangJ (xs.drop i) u→∃ k,Walk Ep Ar k u (pt xs (o+1) o i) (o+sz (.mk 3 s xs a b) - 1):=by
   intro d
   induction d with
   | zero =>
    intro i hi hd u hu
    obtain rfl:i=xs.length:=by omega
    rw [List.drop_length,LangJ] at hu
    subst hu
    exact ⟨1,.eps ((hep _ hi _).2 (.inr ⟨rfl,rfl⟩)) (.nil _)⟩
   | succ d ihd =>
    intro i hi hd u hu
    have hil:i<xs.length:=by omega
    rw [drop_get hil,LangJ] at hu
    obtain ⟨p,q,rfl,hp,hq⟩:=hu
    obtain ⟨k1,w1⟩:=hF.run (List.getElem?_eq_getElem hil) (ih _ (List.getElem_mem hil)) hp
    obtain ⟨k2,w2⟩:=ihd (i+1) hil (by omega) q hq
    exact ⟨_,.eps ((hep _ hi _).2 (.inl ⟨hil,rfl⟩)) (w1.trans w2)⟩
  intro u hu
  rw [Lang,if_neg (by decide),if_neg (by decide),if_pos rfl] at hu
  have:=key _ 0 (Nat.zero_le _) rfl u hu
  rwa [pt_zero] at this
end Pat
/- The automaton of a tree reads what the tree matches: choices and repetitions. Plain: no program. -/

set_option linter.unusedVariables false
set_option linter.unusedSimpArgs false
namespace Pat
variable {Ep:Nat→Nat→Prop} {Ar:Nat→Int→Nat→Prop}
theorem pt_ge {xs:List Tree} (h2:∀ x,x∈xs→2≤sz x) (o:Nat):∀ i,i≤xs.length→o≤pt xs (o+1) o i:=by
 intro i hi
 cases i with
 | zero=>rw [pt_zero];exact Nat.le_refl _
 | succ i =>
  rw [pt_succ]
  have h1:=lst_fst (o:=o+1) (List.getElem?_eq_getElem (show i<xs.length by omega)) (h2 _ (List.getElem_mem (show i<xs.length by omega)))
  have h3:=fst_pos xs (o+1) i
  have h4:=h2 _ (List.getElem_mem (show i<xs.length by omega))
  omega
theorem reads_choice {s:List (Int × Int)} {xs:List Tree} {a b:Int} (hn:WF (.mk 4 s xs a b)) (ih:∀ x,x∈xs→Reads Ep Ar x):Reads Ep Ar (.mk 4 s xs a b):=by
 intro o he
 have hit:items (.mk 4 s xs a b)=xs:=by simp [items]
 have hF:=frame_of hn he (fun k s l a b e=>by cases e;exact ⟨by decide,fun h=>absurd h (by decide)⟩)
 have hT:=hF.T
 have hpi:=fun {i j:Nat}=>pt_inj hF.two (o:=o+1) (s:=o) (by omega) (i:=i) (j:=j)
 have hep0:∀ t,Ep o t↔∃ i,i<xs.length∧t=fst xs (o+1) i:=by
  intro t
  have h1:=ep_pt hn he (Nat.zero_le _) t
  rw [hit] at h1 hT hpi
  rw [pt_zero] at h1
  rw [h1,Own,if_neg (by decide),if_neg (by decide),if_pos rfl,hit]
  constructor
  ·rintro ⟨j,hj,⟨_,rfl⟩ | ⟨e,rfl⟩⟩
   ·exact ⟨j,hj,rfl⟩
   ·have:=hpi (i:=0) (j:=j+1) (Nat.zero_le _) hj (by rw [pt_zero,pt_succ];exact e)
    omega
  ·rintro ⟨j,hj,rfl⟩;exact ⟨j,hj,.inl ⟨rfl,rfl⟩⟩
 have hep1:∀ i,i<xs.length→∀ t,Ep (pt xs (o+1) o (i+1)) t↔t=o+sz (.mk 4 s xs a b) - 1:=by
  intro i hi t
  have h1:=ep_pt hn he (i:=i+1) (by rw [hit];exact hi) t
  rw [hit] at h1 hT hpi
  rw [h1,Own,if_neg (by decide),if_neg (by decide),if_pos rfl,hit,hT]
  constructor
  ·rintro ⟨j,hj,⟨e,rfl⟩ | ⟨e,rfl⟩⟩
   ·have:=hpi (i:=i+1) (j:=0) hi (Nat.zero_le _) (by rw [pt_zero];exact e)
    omega
   ·rfl
  ·rintro rfl;exact ⟨i,hi,.inr ⟨pt_succ _ _ _ _,rfl⟩⟩
 have hna:=hF.noAr
 have hlt:=fun i hi=>pt_lt hF.two (o+1) o (by omega) i hi
 have hge:=pt_ge hF.two o
 rw [hit] at hF hT hna hlt hge
 rw [← hT] at hlt
 have hs2:=sz_two hn
 have hna0:∀ c t,¬ Ar o c t:=by have:=hna 0 (Nat.zero_le _);rwa [pt_zero] at this
 constructor
 ·intro k w y h hy
  obtain ⟨k1,t,rfl,h1,h2⟩:=walk_first h (by omega) hna0
  obtain ⟨i,hi,rfl⟩:=(hep0 t).1 h1
  obtain ⟨k2,u,v,e1,rfl,hL,h3⟩:=hF.pass (List.getElem?_eq_getElem hi) (ih _ (List.getElem_mem hi)) h2 (by omega)
  have:=hlt (i+1) hi;have:=hge (i+1) hi
  obtain ⟨k3,t,rfl,h4,h5⟩:=walk_first h3 (by omega) (hna (i+1) hi)
  obtain rfl:=(hep1 i hi t).1 h4
  exact ⟨k3,u,v,by omega,rfl,by rw [Lang,if_neg (by decide),if_neg (by decide),if_neg (by decide),if_pos rfl,langC_iff];exact ⟨_,List.getElem_mem hi,hL⟩,h5⟩
 ·intro u hu
  rw [Lang,if_neg (by decide),if_neg (by decide),if_neg (by decide),if_pos rfl,langC_iff] at hu
  obtain ⟨x,hx,hL⟩:=hu
  obtain ⟨i,hi,rfl⟩:=List.getElem_of_mem hx
  obtain ⟨k1,w1⟩:=hF.run (List.getElem?_eq_getElem hi) (ih _ (List.getElem_mem hi)) hL
  have w2:=w1.trans (.eps ((hep1 i hi _).2 rfl) (.nil _))
  rw [List.append_nil] at w2
  exact ⟨_,.eps ((hep0 _).2 ⟨i,hi,rfl⟩) w2⟩
theorem reads_repeat {s:List (Int × Int)} {x:Tree} {a b:Int} (hn:WF (.mk 5 s [x] a b)) (ih:Reads Ep Ar x):Reads Ep Ar (.mk 5 s [x] a b):=by
 intro o he
 obtain ⟨ha,hab⟩:0≤a∧(0≤b→a≤b):=by
  cases hn with
  | mk h1 h2 h3 h4=>obtain ⟨_,_,h⟩:=h3 rfl;exact h
 obtain ⟨xs,hxs⟩:∃ xs,xs=items (.mk 5 s [x] a b):=⟨_,rfl⟩
 have hit:items (.mk 5 s [x] a b)=List.replicate (copies a b) x:=by simp [items]
 have hxm:∀ y,y∈xs→y=x:=fun y hy=>by rw [hxs,hit] at hy;exact (List.mem_replicate.1 hy).2
 have hlen:xs.length=copies a b:=by rw [hxs,hit,List.length_replicate]
 have hget:∀ i,i<xs.length→xs[i]? = some x:=fun i hi=>by rw [List.getElem?_eq_getElem hi,hxm _ (List.getElem_mem hi)]
 have hF:=frame_of hn he (fun k s l a b e=>by cases e;exact ⟨by decide,fun _=>by simp⟩)
 rw [← hxs] at hF
 have hT:=hF.T
 have hpi:=fun {i j:Nat}=>pt_inj hF.two (o:=o+1) (s:=o) (by omega) (i:=i) (j:=j)
 have hm0:b<0→xs.length=a.toNat+1:=fun hb=>by rw [hlen,copies,if_pos hb];omega
 have hmb:¬ b<0→(xs.length:Int)=b:=fun hb=>by rw [hlen,copies,if_neg hb];omega
 have hep:∀ i,i≤xs.length→∀ t,Ep (pt xs (o+1) o i) t↔(i<xs.length∧t=fst xs (o+1) i)∨(a.toNat≤i∧t=o+sz (.mk 5 s [x] a b) - 1)∨(b<0∧i=xs.length∧t=fst xs (o+1) (xs.length - 1)):=by
  intro i hi t
  have h1:=ep_pt hn he (by rw [← hxs];exact hi) t
  rw [← hxs] at h1
  rw [h1,Own,if_neg (by decide),if_neg (by decide),if_neg (by decide),if_pos rfl,← hxs,hT]
  constructor
  ·rintro (⟨j,hj,e,rfl⟩ | ⟨j,hj1,hj2,e,rfl⟩ | ⟨hb,e,rfl⟩)
   ·obtain rfl:=hpi hi (by omega) e;exact .inl ⟨hj,rfl⟩
   ·obtain rfl:=hpi hi hj2 e;exact .inr (.inl ⟨hj1,rfl⟩)
   ·exact .inr (.inr ⟨hb,hpi hi (Nat.le_refl _) e,rfl⟩)
  ·rintro (⟨hj,rfl⟩ | ⟨hj1,rfl⟩ | ⟨hb,rfl,rfl⟩)
   ·exact .inl ⟨i,hj,rfl,rfl⟩
   ·exact .inr (.inl ⟨i,hj1,hi,rfl,rfl⟩)
   ·exact .inr (.inr ⟨hb,rfl,rfl⟩)
 have hna:=hF.noAr
 have hlt:=fun i hi=>pt_lt hF.two (o+1) o (by omega) i hi
 have hge:=pt_ge hF.two o
 rw [← hT] at hlt
 have hs2:=sz_two hn
 have hLang:∀ u,Lang (.mk 5 s [x] a b) u↔∃ j:Nat,a≤(j:Int)∧(b<0∨(j:Int)≤b)∧Pow (fun w=>Lang x w) j u:=by
  intro u
  rw [Lang,if_neg (by decide),if_neg (by decide),if_neg (by decide),if_neg (by decide),if_pos rfl]
  simp only [LangP]
 constructor
 ·have key:∀ k i,i≤xs.length→∀ w y,Walk Ep Ar k w (pt xs (o+1) o i) y→(y<o∨o+sz (.mk 5 s [x] a b)≤y+1) →
    ∃ k' j u v,k'≤k∧w=u++v∧Pow (fun w=>Lang x w) j u∧a.toNat≤i+j∧(b<0∨i+j≤xs.length)∧Walk Ep Ar k' v (o+sz (.mk 5 s [x] a b) - 1) y:=by
   intro k
   induction k using Nat.strongRecOn with
   | ind k ihk =>
    intro i hi w y h hy
    have:=hlt _ hi;have:=hge _ hi
    obtain ⟨k1,t,rfl,h1,h2⟩:=walk_first h (by omega) (hna _ hi)
    rcases (hep _ hi t).1 h1 with ⟨hil,rfl⟩ | ⟨hai,rfl⟩ | ⟨hb,rfl,rfl⟩
    ·obtain ⟨k2,u,v,e1,rfl,hL,h3⟩:=hF.pass (hget i hil) ih h2 (by omega)
     obtain ⟨k3,j,u',v',e2,rfl,hP,e3,e4,h4⟩:=ihk k2 (by omega) (i+1) hil _ _ h3 hy
     exact ⟨k3,j+1,u++u',v',by omega,by simp,⟨u,u',rfl,hL,hP⟩,by omega,by omega,h4⟩
    ·exact ⟨k1,0,[],w,by omega,rfl,rfl,by omega,.inr (by omega),h2⟩
    ·have hm:=hm0 hb
     obtain ⟨k2,u,v,e1,rfl,hL,h3⟩:=hF.pass (hget (xs.length - 1) (by omega)) ih h2 (by omega)
     rw [show xs.length - 1+1=xs.length by omega] at h3
     obtain ⟨k3,j,u',v',e2,rfl,hP,e3,e4,h4⟩:=ihk k2 (by omega) xs.length (Nat.le_refl _) _ _ h3 hy
     exact ⟨k3,j+1,u++u',v',by omega,by simp,⟨u,u',rfl,hL,hP⟩,by omega,.inl hb,h4⟩
  intro k w y h hy
  obtain ⟨k',j,u,v,e1,e2,hP,e3,e4,h4⟩:=key k 0 (Nat.zero_le _) w y (by rw [pt_zero];exact h) hy
  refine ⟨k',u,v,e1,e2,(hLang u).2 ⟨j,by omega,?_,hP⟩,h4⟩
  by_cases hb:b<0
  ·exact .inl hb
  ·right;have:=hmb hb;omega
 · -- a number of copies,from a point on
  have run1:∀ j i,i+j≤xs.length→∀ u,Pow (fun w=>Lang x w) j u→∃ k,Walk Ep Ar k u (pt xs (o+1) o i) (pt xs (o+1) o (i+j)):=by
   intro j
   induction j with
   | zero=>intro i hi u hu;obtain rfl:u=[]:=hu;exact ⟨0,.nil _⟩
   | succ j ihj =>
    intro i hi u hu
    obtain ⟨p,q,rfl,hp,hq⟩:=hu
    obtain ⟨k1,w1⟩:=hF.run (hget i (by omega)) ih hp
    obtain ⟨k2,w2⟩:=ihj (i+1) (by omega) q hq
    rw [show i+1+j=i+(j+1) by omega] at w2
    exact ⟨_,.eps ((hep i (by omega) _).2 (.inl ⟨by omega,rfl⟩)) (w1.trans w2)⟩
  have run2:b<0→∀ j u,Pow (fun w=>Lang x w) j u→∃ k,Walk Ep Ar k u (pt xs (o+1) o xs.length) (pt xs (o+1) o xs.length):=by
   intro hb j
   have hm:=hm0 hb
   induction j with
   | zero=>intro u hu;obtain rfl:u=[]:=hu;exact ⟨0,.nil _⟩
   | succ j ihj =>
    intro u hu
    obtain ⟨p,q,rfl,hp,hq⟩:=hu
    obtain ⟨k1,w1⟩:=hF.run (hget (xs.length - 1) (by omega)) ih hp
    rw [show xs.length - 1+1=xs.length by omega] at w1
    obtain ⟨k2,w2⟩:=ihj q hq
    exact ⟨_,.eps ((hep _ (Nat.le_refl _) _).2 (.inr (.inr ⟨hb,rfl,rfl⟩))) (w1.trans w2)⟩
  intro u hu
  obtain ⟨j,h1,h2,hP⟩:=(hLang u).1 hu
  rcases Nat.lt_or_ge xs.length j with hj | hj
  ·have hb:b<0:=by
    rcases h2 with h2 | h2
    ·exact h2
    ·by_cases hb:b<0
     ·exact hb
     ·have:=hmb hb;omega
   have hm:=hm0 hb
   rw [show j=xs.length+(j - xs.length) by omega] at hP
   obtain ⟨p,q,rfl,hp,hq⟩:=(pow_add _ _ _ _).1 hP
   obtain ⟨k1,w1⟩:=run1 xs.length 0 (by omega) p hp
   obtain ⟨k2,w2⟩:=run2 hb _ q hq
   rw [Nat.zero_add,pt_zero] at w1
   have w3:=(w1.trans w2).trans (.eps ((hep _ (Nat.le_refl _) _).2 (.inr (.inl ⟨by omega,rfl⟩))) (.nil _))
   rw [List.append_nil] at w3
   exact ⟨_,w3⟩
  ·obtain ⟨k1,w1⟩:=run1 j 0 (by omega) u hP
   rw [Nat.zero_add,pt_zero] at w1
   have w3:=w1.trans (.eps ((hep _ hj _).2 (.inr (.inl ⟨by omega,rfl⟩))) (.nil _))
   rw [List.append_nil] at w3
   exact ⟨_,w3⟩
theorem reads {n:Tree} (hn:WF n):Reads Ep Ar n:=by
 induction hn with
 | @mk k set sub a b h1 h2 h3 h4 ih =>
  have hw:WF (.mk k set sub a b):=.mk h1 h2 h3 h4
  rcases h1 with rfl | rfl | rfl | rfl | rfl
  ·obtain rfl:=h2 (.inl rfl);exact reads_empty _ _ _
  ·obtain rfl:=h2 (.inr rfl);exact reads_set _ _ _
  ·exact reads_join hw ih
  ·exact reads_choice hw ih
  ·obtain ⟨x,rfl,_⟩:=h3 rfl
   exact reads_repeat hw (ih x (by simp))
theorem reads_all {n:Tree} (hn:WF n) (he:Emb Ep Ar n 0) (hE:∀ t,¬ Ep (sz n - 1) t) (hA:∀ c t,¬ Ar (sz n - 1) c t) (w:List Int):(∃ k,Walk Ep Ar k w 0 (sz n - 1))↔Lang n w:=by
 have h2:=sz_two hn
 have hr:=reads hn 0 he
 rw [Nat.zero_add] at hr
 constructor
 ·rintro ⟨k,h⟩
  obtain ⟨k',u,v,_,rfl,hL,h3⟩:=hr.1 k w _ h (.inr (by omega))
  cases h3 with
  | nil=>rwa [List.append_nil]
  | eps h _=>exact absurd h (hE _)
  | arc h _=>exact absurd h (hA _ _)
 ·exact fun h=>hr.2 w h
end Pat
/- Automata: closures,steps,and what they accept. Plain: no program. -/

set_option linter.unusedVariables false
set_option linter.unusedSimpArgs false
namespace Pat
structure Au where
 start:Int
 accept:Int
 arcs:List (List Arc)
 emp:List (List Int)
 deriving Inhabited
def inR (n:Nat) (z:Int):Prop:=0≤z∧z<n
def scalar (r:Int):Prop:=0≤r∧r≤1114111∧(r<55296∨57343<r)
structure Au.Proper (A:Au):Prop where
 pos:1≤A.arcs.length
 most:A.arcs.length≤3000
 same:A.emp.length=A.arcs.length
 start:inR A.arcs.length A.start
 accept:inR A.arcs.length A.accept
 arcs:∀ l,l∈A.arcs→∀ x,x∈l→scalar x.1∧scalar x.2.1∧x.1≤x.2.1∧inR A.arcs.length x.2.2
 emp:∀ l,l∈A.emp→∀ z,z∈l→inR A.arcs.length z
inductive Reach (A:Au):Int→Int→Prop
 | refl (x:Int):Reach A x x
 | step {x y z:Int}:y∈A.emp.getD x.toNat []→Reach A y z→Reach A x z
theorem Reach.trans {A:Au} {x y z:Int} (h:Reach A x y) (h':Reach A y z):Reach A x z:=by
 induction h with
 | refl=>exact h'
 | step h1 h2 ih=>exact .step h1 (ih h')
theorem getD_mem_of {α:Type} {l:List (List α)} {i:Nat} {x:α} (h:x∈l.getD i []):∃ r,r∈l∧x∈r:=by
 rw [List.getD_eq_getElem?_getD] at h
 cases hi:l[i]? with
 | none=>rw [hi] at h;cases h
 | some r=>rw [hi] at h;exact ⟨r,List.mem_of_getElem? hi,h⟩
theorem Reach.inR {A:Au} (hp:A.Proper) {x y:Int} (h:Reach A x y) (hx:inR A.arcs.length x):inR A.arcs.length y:=by
 induction h with
 | refl=>exact hx
 | step h1 h2 ih =>
  obtain ⟨r,hr,hz⟩:=getD_mem_of h1
  exact ih (hp.emp r hr _ hz)
def Got (A:Au) (l:List Int) (z:Int):Prop:=∃ x,x∈l∧inR A.arcs.length x∧Reach A x z
open Classical in
noncomputable def closM (A:Au) (l:List Int):List Int:=((List.range A.arcs.length).filter fun (s:Nat)=>decide (Got A l (s:Int))).map fun (s:Nat)=>(s:Int)
theorem mem_clos {A:Au} (hp:A.Proper) (l:List Int) (z:Int):z∈closM A l↔Got A l z:=by
 unfold closM
 simp only [List.mem_map,List.mem_filter,List.mem_range,decide_eq_true_eq]
 constructor
 ·rintro ⟨s,⟨_,h⟩,rfl⟩;exact h
 ·rintro ⟨x,h1,h2,h3⟩
  have h4:=h3.inR hp h2
  refine ⟨z.toNat,⟨by have:=h4.1;have:=h4.2;omega,x,h1,h2,?_⟩,by have:=h4.1;omega⟩
  rw [show ((z.toNat:Nat):Int)=z by have:=h4.1;omega];exact h3
theorem clos_congr {A:Au} {l l':List Int} (h:∀ z,Got A l z↔Got A l' z):closM A l=closM A l':=by
 unfold closM
 congr 1
 refine List.filter_congr fun s _=>?_
 exact decide_eq_decide.2 (h s)
theorem from_self {A:Au} {l:List Int} {z:Int} (h:z∈l) (hr:inR A.arcs.length z):Got A l z:=⟨z,h,hr,.refl _⟩
theorem from_inR {A:Au} (hp:A.Proper) {l:List Int} {z:Int} (h:Got A l z):inR A.arcs.length z:=by
 obtain ⟨x,_,h2,h3⟩:=h
 exact h3.inR hp h2
theorem clos_clos {A:Au} (hp:A.Proper) (l:List Int):closM A (closM A l)=closM A l:=by
 refine clos_congr fun z=>⟨?_,fun h=>from_self ((mem_clos hp l z).2 h) (from_inR hp h)⟩
 rintro ⟨x,h1,h2,h3⟩
 obtain ⟨y,k1,k2,k3⟩:=(mem_clos hp l x).1 h1
 exact ⟨y,k1,k2,k3.trans h3⟩
def hitsC (c:Int) (l:List Arc):List Int:=l.filterMap fun x=>if x.1≤c∧c≤x.2.1 then some x.2.2 else none
def targets (A:Au) (l:List Int) (c:Int):List Int:=l.flatMap fun s=>hitsC c (A.arcs.getD s.toNat [])
theorem mem_hits {c z:Int} {l:List Arc}:z∈hitsC c l↔∃ lo hi,(lo,hi,z)∈l∧lo≤c∧c≤hi:=by
 unfold hitsC
 simp only [List.mem_filterMap]
 constructor
 ·rintro ⟨⟨lo,hi,t⟩,h1,h2⟩
  split at h2
  ·rename_i h;cases h2;exact ⟨lo,hi,h1,h.1,h.2⟩
  ·cases h2
 ·rintro ⟨lo,hi,h1,h2,h3⟩;exact ⟨(lo,hi,z),h1,by rw [if_pos ⟨h2,h3⟩]⟩
theorem mem_targets {A:Au} {l:List Int} {c z:Int}:z∈targets A l c↔∃ s,s∈l∧z∈hitsC c (A.arcs.getD s.toNat []):=by simp [targets]
theorem targets_append (A:Au) (l m:List Int) (c:Int):targets A (l++m) c=targets A l c++targets A m c:=by simp [targets]
theorem targets_inR {A:Au} (hp:A.Proper) {l:List Int} {c z:Int} (h:z∈targets A l c):inR A.arcs.length z:=by
 obtain ⟨s,_,h⟩:=mem_targets.1 h
 obtain ⟨lo,hi,h,_⟩:=mem_hits.1 h
 obtain ⟨r,hr,hz⟩:=getD_mem_of h
 exact (hp.arcs r hr _ hz).2.2.2
noncomputable def stepM (A:Au) (l:List Int) (c:Int):List Int:=closM A (targets A l c)
noncomputable def runM (A:Au) (w:List Int):List Int:=w.foldl (stepM A) (closM A [A.start])
noncomputable def acceptM (A:Au) (w:List Int):Prop:=A.accept∈runM A w
theorem run_closed {A:Au} (hp:A.Proper):∀ w:List Int,closM A (runM A w)=runM A w:=by
 intro w
 have:∀ (w:List Int) (l:List Int),closM A l=l→closM A (w.foldl (stepM A) l)=w.foldl (stepM A) l:=by
  intro w
  induction w with
  | nil=>intro l h;exact h
  | cons c w ih=>intro l h;exact ih _ (clos_clos hp _)
 exact this w _ (clos_clos hp _)
/- The automaton as a graph on numbers. -/
def EpA (A:Au) (x t:Nat):Prop:=(t:Int)∈A.emp.getD x []
def ArA (A:Au) (x:Nat) (c:Int) (t:Nat):Prop:=ArcIn A.arcs x c t
theorem reach_walk {A:Au} (hp:A.Proper) {x:Nat} {z:Int} (h:Reach A (x:Int) z):∃ t k:Nat,z=t∧Walk (EpA A) (ArA A) k [] x t:=by
 generalize hx:(x:Int)=x' at h
 induction h generalizing x with
 | refl=>exact ⟨x,0,hx.symm,.nil _⟩
 | @step x' y z h1 h2 ih =>
  subst hx
  rw [Int.toNat_natCast] at h1
  obtain ⟨r,hr,hz⟩:=getD_mem_of h1
  have h0:=(hp.emp r hr _ hz).1
  obtain ⟨t,k,rfl,hw⟩:=ih (x:=y.toNat) (by omega)
  exact ⟨t,k+1,rfl,.eps (show ((y.toNat:Nat):Int)∈_ by rw [show ((y.toNat:Nat):Int)=y by omega];exact h1) hw⟩
theorem walk_reach {A:Au} {k:Nat} {w:List Int} {x t:Nat} (h:Walk (EpA A) (ArA A) k w x t) (hw:w=[]):Reach A (x:Int) (t:Int):=by
 induction h with
 | nil=>exact .refl _
 | eps h1 h2 ih=>exact .step (by rw [Int.toNat_natCast];exact h1) (ih hw)
 | arc=>cases hw
theorem walk_snoc {Ep:Nat→Nat→Prop} {Ar:Nat→Int→Nat→Prop} {k:Nat} {w:List Int} {x z:Nat} (h:Walk Ep Ar k w x z):∀ (w':List Int) (c:Int),w=w'++[c] →
  ∃ k1 k2 y y',Walk Ep Ar k1 w' x y∧Ar y c y'∧Walk Ep Ar k2 [] y' z:=by
 induction h with
 | nil=>intro w' c h;simp at h
 | eps h1 h2 ih =>
  intro w' c h
  obtain ⟨k1,k2,y,y',a1,a2,a3⟩:=ih w' c h
  exact ⟨k1+1,k2,y,y',.eps h1 a1,a2,a3⟩
 | @arc k d w x y z h1 h2 ih =>
  intro w' c h
  cases w' with
  | nil =>
   simp only [List.nil_append,List.cons.injEq] at h
   obtain ⟨rfl,rfl⟩:=h
   exact ⟨0,k,x,y,.nil _,h1,h2⟩
  | cons e w' =>
   simp only [List.cons_append,List.cons.injEq] at h
   obtain ⟨rfl,h⟩:=h
   obtain ⟨k1,k2,y1,y',a1,a2,a3⟩:=ih w' c h
   exact ⟨k1+1,k2,y1,y',.arc h1 a1,a2,a3⟩
theorem run_snoc (A:Au) (w:List Int) (c:Int):runM A (w++[c])=stepM A (runM A w) c:=by simp [runM]
theorem mem_run {A:Au} (hp:A.Proper):∀ (n:Nat) (w:List Int),w.length=n→∀ z,z∈runM A w↔∃ k t:Nat,z=t∧Walk (EpA A) (ArA A) k w A.start.toNat t:=by
 have hs:=hp.start
 have hst:((A.start.toNat:Nat):Int)=A.start:=by have:=hs.1;omega
 intro n
 induction n with
 | zero =>
  intro w hw z
  obtain rfl:=List.length_eq_zero_iff.1 hw
  show z∈closM A [A.start]↔_
  rw [mem_clos hp]
  constructor
  ·rintro ⟨x,h1,h2,h3⟩
   rw [List.mem_singleton] at h1;subst h1
   rw [← hst] at h3
   obtain ⟨t,k,h4,h5⟩:=reach_walk hp h3
   exact ⟨k,t,h4,h5⟩
  ·rintro ⟨k,t,rfl,h⟩
   have:=walk_reach h rfl
   rw [hst] at this
   exact ⟨_,by simp,hs,this⟩
 | succ n ih =>
  intro w hw z
  obtain ⟨w',c,rfl⟩:∃ w' c,w=w'++[c]:=⟨w.dropLast,w.getLast (by intro h;rw [h] at hw;cases hw),(List.dropLast_concat_getLast _).symm⟩
  have hl:w'.length=n:=by simpa using hw
  rw [run_snoc]
  unfold stepM
  rw [mem_clos hp]
  constructor
  ·rintro ⟨x,h1,h2,h3⟩
   obtain ⟨s,hs1,hx⟩:=mem_targets.1 h1
   obtain ⟨k1,t1,rfl,w1⟩:=(ih w' hl s).1 hs1
   obtain ⟨lo,hi,hm,hc⟩:=mem_hits.1 hx
   rw [Int.toNat_natCast] at hm
   have hx0:((x.toNat:Nat):Int)=x:=by have:=h2.1;omega
   rw [← hx0] at h3 hm
   obtain ⟨t,k2,rfl,w2⟩:=reach_walk hp h3
   have w3:Walk (EpA A) (ArA A) (k2+1) ([c]++[]) t1 t:=.arc ⟨lo,hi,hm,hc⟩ w2
   exact ⟨_,t,rfl,by have:=w1.trans w3;simpa using this⟩
  ·rintro ⟨k,t,rfl,h⟩
   obtain ⟨k1,k2,y,y',a1,⟨lo,hi,hm,hc⟩,a3⟩:=walk_snoc h w' c rfl
   have h1:(y':Int)∈targets A (runM A w') c:=mem_targets.2 ⟨y,(ih w' hl y).2 ⟨k1,y,rfl,a1⟩,mem_hits.2 ⟨lo,hi,by rw [Int.toNat_natCast];exact hm,hc⟩⟩
   exact ⟨y',h1,targets_inR hp h1,walk_reach a3 rfl⟩
theorem accept_iff {A:Au} (hp:A.Proper) (w:List Int):acceptM A w↔∃ k,Walk (EpA A) (ArA A) k w A.start.toNat A.accept.toNat:=by
 have ha:((A.accept.toNat:Nat):Int)=A.accept:=by have:=hp.accept.1;omega
 unfold acceptM
 rw [mem_run hp _ w rfl]
 constructor
 ·rintro ⟨k,t,h,hw⟩
  obtain rfl:t=A.accept.toNat:=by omega
  exact ⟨k,hw⟩
 ·rintro ⟨k,h⟩;exact ⟨k,_,ha.symm,h⟩
end Pat
