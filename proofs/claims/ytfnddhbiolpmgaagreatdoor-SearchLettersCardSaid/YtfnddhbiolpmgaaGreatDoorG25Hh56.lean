/- Part of a proof about the functions of this seat. -/
import Derived.Test.YtfnddhbiolpmgaaGreatDoorG24NvY
import Derived.Test.YtfnddhbiolpmgaaGreatDoorG00Rb56
import Derived.KernelRfl
import Derived.Test.YtfnddhbiolpmgaaGreatDoorG12Q56
import Derived.Test.YtfnddhbiolpmgaaGreatDoorG19NvR
set_option linter.unusedVariables false
set_option linter.unusedSimpArgs false
set_option maxRecDepth 100000
namespace Go.Proofs.YtfnddhbiolpmgaaGreatDoor
open Go Go.RowKit Nv Pat
/- The list that the library collects from the iterator,as a contract of the layer. -/
theorem callsI {P:Program} {f:FuncId} {args:List AV} {k:IntKind} {z:Int} {W:World} {vs:Array Value} (h:PCall P f args (.d (.int k z)))
  (hv:VL (fun _=>⟨none,0,0⟩) [] (fun b=>b<W.heap.size) W args vs) (hT:Tabs P (fun b=>b<W.heap.size) W):Calls P f vs W fun e w'=>e=.returned (.int k z)∧Below W.heap.size W w':=by
 have hr:RS P (fun _=>⟨none,0,0⟩) (fun b=>b<W.heap.size) W []:=⟨fun i blk hi=>by simp at hi,fun i j bi bj B hi=>by simp at hi,fun B hl=>absurd hl (no_lives B),fun B hB=>hB,hT⟩
 refine (h [] _ _ W vs hr hv).mono ?_
 rintro e w' ⟨ρ',I',σ',oc,h1,h2,h3,rfl,rfl⟩
 cases e <;> simp only at h3
 rename_i v
 rw [h3.d_inv.int_inv]
 exact ⟨rfl,h1.env.os,h1.env.tape,h1.env.output,h1.hsz,fun k hk=>h1.keep k hk (no_lives k)⟩
theorem rcall_fresh {P:Program} {f:FuncId} {args:List AV} {σ:Nv.ST} {e:Nat} {xs:List DV} (hxs:∀ x,x∈xs→Uni e x)
  (h:∀ (ρ:RHO) (I:Nat→Prop) (w:World) (vs:Array Value),RS P ρ I w σ→VL ρ σ I w args vs→Calls P f vs w fun en w'=>∃ v,en=.returned v∧Below w.heap.size w w' ∧
   ((v=.slice none 0 0∧xs=[])∨∃ (A cap:Nat) (us:Nat→Value),v=.slice (some ⟨A,0,none⟩) xs.length cap∧xs.length≤cap∧w.heap.size≤A∧A<w'.heap.size ∧
    ∀ (j:Nat) c,(flat xs)[j]? = some c→w'.cell? ⟨A,j,none⟩=some (us j)∧∀ (I:Nat→Prop) (w:World),VD I w c (us j))) :
  RCall P f args σ fun r σ'=>r=.d (.list e xs)∧σ'=σ:=by
 intro ρ I w vs hr hv
 refine (h ρ I w vs hr hv).mono ?_
 rintro en w' ⟨v,rfl,hb,hd⟩
 have hx:Ext w w':=⟨hb.size,⟨hb.os,hb.tape,hb.output⟩⟩
 rcases hd with ⟨rfl,rfl⟩ | ⟨A,cap,us,rfl,hc,hA,hA',hcell⟩
 ·exact ⟨ρ,I,σ,.ret _,Step.more hx hb.block,hr.more hx hb.block,.d (.listNil e none),_,rfl,rfl,rfl⟩
 let I':Nat→Prop:=fun B=>I B∨B=A
 have hstep:Step ρ I w σ ρ I' w' σ:=by
  refine ⟨fun b hb' _=>hb.block b hb',fun B h=>.inl h,fun B h=>?_,fun B h=>.inl h,hb.size,fun b blk h=>⟨blk,h,Compat.refl _ _⟩,⟨hb.os,hb.tape,hb.output⟩⟩
  rcases h with h | rfl
  ·exact .inl h
  ·exact .inr (.inr hA)
 have hrs:RS P ρ I' w' σ:=by
  refine ⟨fun i blk hi=>?_,hr.inj,fun B hl hI=>?_,fun B hI=>?_,hstep.tabs hr⟩
  ·by_cases hl:blk.live
   ·exact RB.step hr hstep (fun B hB=>hb.block B (lives_heap hr ⟨i,blk,hi,hl,hB⟩)) (hr.blk i blk hi)
   ·cases blk <;> first | exact .dead | exact absurd trivial hl
  ·rcases hI with h | rfl
   ·exact hr.sep B hl h
   ·have:=lives_heap hr hl;omega
  ·rcases hI with h | rfl
   ·exact Nat.lt_of_lt_of_le (hr.bound B h) hb.size
   ·exact hA'
 refine ⟨ρ,I',σ,.ret _,hstep,hrs,.d ?_,_,rfl,rfl,rfl⟩
 refine .list us rfl hc hxs (fun j c hj=>?_) (fun j c hj=>(hcell j c hj).2 _ _)
 refine ⟨.inr rfl,?_⟩
 rw [Nat.zero_add];exact (hcell j c hj).1
noncomputable def spansM (A:Au) (s:List UInt8):List (Nat × Nat):=spG s.length (fun k=>longM A (s.drop k)) (s.length+1) 0
theorem longT_le (A:Au) (s:List UInt8):∀ i,longT A s i≤i
 | 0=>Nat.le_refl _
 | i+1=>by
  have:=longT_le A s i
  unfold longT;split <;> omega
theorem longM_le (A:Au) (s:List UInt8):longM A s≤s.length:=longT_le A s s.length
theorem spG_len (len:Nat) (m:Nat→Nat):∀ f i,(spG len m f i).length≤len - i
 | 0,i=>Nat.zero_le _
 | f+1,i=>by
  unfold spG
  split
  ·simp
  ·split
   ·have:=spG_len len m f (i+1);omega
   ·have:=spG_len len m f (i+m i);simp only [List.length_cons];omega
theorem vd_drop {I:Nat→Prop} {W:World} {s:List UInt8} {p:Option Addr} {len cap:Nat} (h:VD I W (glyD s) (.slice p len cap)) {k:Nat} (hk:k<s.length) :
  ∃ b off,p=some ⟨b,off,none⟩∧VD I W (glyD (s.drop k)) (.slice (some ⟨b,off+k * 3,none⟩) (len - k) (cap - k)):=by
 unfold glyD at h
 cases hs:s.map gly with
 | nil =>
    have:(s.map gly).length=0:=by rw [hs];rfl
    rw [List.length_map] at this;omega
 | cons x xs =>
 rw [hs] at h
 cases h with
 | list us h1 h2 h0 h3 h4 =>
  rename_i b off
  rw [← hs] at h1 h0 h3 h4
  have hf:flat (s.map gly)=flat ((s.take k).map gly)++flat ((s.drop k).map gly):=by
   unfold flat
   rw [← List.flatMap_append,← List.map_append,List.take_append_drop]
  have hfl:(flat ((s.take k).map gly)).length=k * 3:=by
   have:∀ l:List UInt8,(flat (l.map gly)).length=l.length * 3:=by
    intro l
    induction l with
    | nil=>rfl
    | cons y l ih=>simp only [List.map_cons,flat,List.flatMap_cons,List.length_append,List.length_cons];rw [show (List.flatMap DV.cells (l.map gly)).length=l.length * 3 from ih];simp [gly];omega
   rw [this,List.length_take,Nat.min_eq_left (by omega)]
  have hg:∀ j,(flat ((s.drop k).map gly))[j]? = (flat (s.map gly))[k * 3+j]? := fun j=>by
   rw [hf,List.getElem?_append_right (by omega),hfl];congr 1;omega
  refine ⟨b,off,rfl,?_⟩
  unfold glyD
  refine .list (fun j=>us (k * 3+j)) (by rw [h1,List.length_map,List.length_map,List.length_drop]) (by omega) (fun x hx=>h0 x ?_) (fun j c hj=>?_) (fun j c hj=>?_)
  ·obtain ⟨y,hy,rfl⟩:=List.mem_map.1 hx
   exact List.mem_map.2 ⟨y,List.mem_of_mem_drop hy,rfl⟩
  ·rw [hg] at hj
   obtain ⟨q1,q2⟩:=h3 _ c hj
   exact ⟨q1,by rw [Nat.add_assoc];exact q2⟩
  ·rw [hg] at hj
   exact h4 _ c hj
theorem vd_shape {I:Nat→Prop} {W:World} {s:List UInt8} {v:Value} (h:VD I W (glyD s) v):∃ p cap,v=.slice p s.length cap∧s.length≤cap∧(0<s.length→∃ b off,p=some ⟨b,off,none⟩):=by
 unfold glyD at h
 have hl:(s.map gly).length=s.length:=List.length_map _
 generalize s.map gly=xs at h hl
 cases h with
 | listNil e p=>rw [List.length_nil] at hl;exact ⟨p,0,by rw [← hl],by omega,fun h=>by omega⟩
 | list us h1 h2 h0 h3 h4=>subst h1;exact ⟨_,_,by rw [← hl],by omega,fun _=>⟨_,_,rfl⟩⟩
def matD (n:Tree) (A:Au):List DV:=[.int .i64 n.kind,setD n.set,.list 5 (n.sub.map nodeD),.int .i64 n.min,.int .i64 n.max,.int .i64 A.start,.int .i64 A.accept,rowsD 3 (arcsL A.arcs),rowsD 1 (intsL A.emp),.bool true]
theorem mat_eq (n:Tree) (A:Au):auC n A=(matD n A).map .d:=rfl
theorem cellsE_len (l:List (Nat × Nat)):(cellsE l).length=l.length * 2:=by
 induction l with
 | nil=>rfl
 | cons x l ih=>rw [show cellsE (x::l)=[.int .i64 (x.1:Nat),.int .i64 (x.2:Nat)]++cellsE l from rfl,List.length_append,ih];simp;omega
theorem cells_flat (l:List (Nat × Nat)):∀ (j:Nat) c,(flat (l.map spanV))[j]? = some c→∃ u,(cellsE l)[j]? = some u∧∀ (I:Nat→Prop) (w:World),VD I w c u:=by
 induction l with
 | nil=>intro j c h;simp [flat] at h
 | cons x l ih =>
  intro j c h
  have e1:flat ((x::l).map spanV)=[.int .i64 (x.1:Nat),.int .i64 (x.2:Nat)]++flat (l.map spanV):=rfl
  have e2:cellsE (x::l)=[.int .i64 (x.1:Nat),.int .i64 (x.2:Nat)]++cellsE l:=rfl
  rw [e1] at h
  rw [e2]
  match j,h with
  | 0,h=>simp at h;subst h;exact ⟨_,rfl,fun _ _=>.int _ _⟩
  | 1,h=>simp at h;subst h;exact ⟨_,rfl,fun _ _=>.int _ _⟩
  | j+2,h=>exact ih j c (by simpa using h)
theorem collect12 {n:Tree} {A:Au} (hf:Fit A) (ho:okA A=true) {s:List UInt8} (hs:s.length≤1000) (ha:∀ b,b∈s→b.toNat<128) {σ:Nv.ST} {b1 b2:Nat}
  (h1:stGet σ b1=.box 32 [.d (glyD s)]) (h2:stGet σ b2=.box 45 (auC n A)) :
  RCall Tryz.prog 12 [.func (.func 21) [] [.ptr b1 0,.ptr b2 0]] σ fun r σ'=>r=.d (spanD (spansM A s))∧σ'=σ:=by
 refine rcall_fresh (fun x hx=>?_) fun ρ I w vs hr hv=>?_
 ·obtain ⟨y,_,rfl⟩:=List.mem_map.1 hx
  exact ⟨rfl,fun c hc=>by simp only [spanV,DV.cells,List.mem_cons,List.not_mem_nil,or_false] at hc;rcases hc with rfl | rfl <;> rfl⟩
 have hs1:=stGet_some h1 (by simp)
 have hs2:=stGet_some h2 (by simp)
 obtain ⟨hvs,hv0⟩:=hv
 have hf0:=hv0 0 _ rfl
 obtain ⟨v0,rfl⟩:∃ v0,vs=#[v0]:=by
  have:vs.size=1:=hvs.symm
  exact ⟨vs[0],by
   apply Array.ext
   ·simp [this]
   ·intro i hi hj
    match i,hi with
    | 0,_=>rfl
    | i+1,hi=>omega⟩
 simp only [Array.getD_eq_getD_getElem?,List.getElem?_toArray,List.getElem?_cons_zero,Option.getD_some] at hf0
 cases hf0 with | func q1 q2 q3 q4 =>
 rename_i us0 vs0
 obtain rfl:us0=#[]:=Array.size_eq_zero_iff.1 q1.symm
 have p1:=q4 0 _ rfl
 have p2:=q4 1 _ rfl
 obtain ⟨x1,x2,rfl⟩:∃ x1 x2,vs0=#[x1,x2]:=by
  have:vs0.size=2:=q3.symm
  exact ⟨vs0[0],vs0[1],by
   apply Array.ext
   ·simp [this]
   ·intro i hi hj
    match i,hi with
    | 0,_=>rfl
    | 1,_=>rfl
    | i+2,hi=>omega⟩
 simp only [Array.getD_eq_getD_getElem?,List.getElem?_toArray,List.getElem?_cons_zero,List.getElem?_cons_succ,Option.getD_some] at p1 p2
 cases p1 with | ptr a1 a2 =>
 rename_i B1 t1 cs1
 cases p2 with | ptr c1 c2 =>
 rename_i B2 t2 cs2
 obtain ⟨u1,k1,k2,k3⟩:=hr.box hs1 a2
 obtain ⟨u2,l1,l2,l3⟩:=hr.box hs2 c2
 have hB1:B1<w.heap.size:=(Array.getElem?_eq_some_iff.1 k1).1
 have hB2:B2<w.heap.size:=(Array.getElem?_eq_some_iff.1 l1).1
 have hvl:=(k3 0 _ rfl).d_inv
 obtain ⟨p,cap,hp,hlc,hpp⟩:=vd_shape hvl
 have hu1:w.cell? ⟨B1,0,none⟩=some (.slice p s.length cap):=by rw [← hp];exact cell_of_heap k1 (by rw [← k2];simp)
 have hu2:∀ j,j<10→w.cell? ⟨B2,j,none⟩=some (u2.getD j undef):=fun j hj=>cell_of_heap l1 (by rw [← l2];exact hj)
 rw [hp] at hvl
 refine (callsIn_wide (n:=4)).1 ?_
 refine (collect12_in 4 (Nat.le_refl _) _ (spansM A s) w fun W hW l J Jx W1 hW1 hJ hJx hY h0=>?_).mono ?_
 ·refine spans21_in _ (by omega) l B1 B2 w.heap.size s.length cap p (fun j=>u2.getD j undef) (fun k=>longM A (s.drop k)) (fun k=>by have:=longM_le A (s.drop k);rw [List.length_drop] at this;exact this)
   (fun X=>Below w.heap.size w X) (fun X Y h1 h2=>h1.trans h2) (fun X h=>h.size) hs hlc (fun X h=>(h.cell (p:=⟨B1,0,none⟩) hB1).trans hu1) (fun X h j hj=>(h.cell (p:=⟨B2,j,none⟩) hB2).trans (hu2 j hj)) hpp ?_ J Jx
   (fun pre x W2 hJ2 hl2=>hY pre x W2 hJ2 (by omega)) W1 hJ (hW.trans (hW1.mono hW.size)) h0
  intro X k b off hX hk hpe
  obtain ⟨b',off',hp',hvd⟩:=vd_drop hvl hk
  rw [hpe] at hp'
  cases hp'
  have hI:∀ q,I q→q<X.heap.size:=fun q hq=>Nat.lt_of_lt_of_le (hr.bound q hq) hX.size
  have hw:∀ q,I q→X.heap[q]? = w.heap[q]? := fun q hq=>hX.block q (hr.bound q hq)
  refine callsI (longest22 n A hf ho (s.drop k) (by rw [List.length_drop];omega) (fun b hb=>ha b (List.mem_of_mem_drop hb))) ⟨rfl,fun j c hj=>?_⟩ (hr.tabs.keep hI hw)
  match j,hj with
  | 0,hj =>
   cases hj
   refine .agg rfl fun j c hj=>?_
   rw [mat_eq,List.getElem?_map,Option.map_eq_some_iff] at hj
   obtain ⟨x,hx,rfl⟩:=hj
   have hj10:j<10:=(List.getElem?_eq_some_iff.1 hx).1
   have hv2:=(l3 j (.d x) (by rw [mat_eq,List.getElem?_map,hx];rfl)).d_inv.mono hI hw
   have he:(#[u2.getD 0 undef,u2.getD 1 undef,u2.getD 2 undef,u2.getD 3 undef,u2.getD 4 undef,u2.getD 5 undef,u2.getD 6 undef,u2.getD 7 undef,u2.getD 8 undef,u2.getD 9 undef]:Array Value).getD j undef=u2.getD j undef:=by
    match j,hj10 with
    | 0,_=>rfl
    | 1,_=>rfl
    | 2,_=>rfl
    | 3,_=>rfl
    | 4,_=>rfl
    | 5,_=>rfl
    | 6,_=>rfl
    | 7,_=>rfl
    | 8,_=>rfl
    | 9,_=>rfl
    | j+10,h=>omega
   rw [he]
   exact .d hv2
  | 1,hj =>
   cases hj
   exact .d (hvd.mono hI hw)
 ·rintro e w' ⟨v,rfl,hown,hnil,hb⟩
  refine ⟨v,rfl,hb,?_⟩
  obtain ⟨o1,o2⟩:=hown
  rcases o2 with ⟨rfl,hz⟩ | ⟨g,cap',cur,rfl,hg,hgb,hgc,hgm,hgs,hgt⟩
  ·left
   exact ⟨rfl,by rw [List.length_eq_zero_iff.1 hz];rfl⟩
  ·right
   refine ⟨g,cap',fun j=>(cellsE (spansM A s)).getD j undef,by rw [List.length_map],by rw [List.length_map];exact hgc,hg,(Array.getElem?_eq_some_iff.1 hgb).1,fun j c hj=>?_⟩
   obtain ⟨u,hu,hvd⟩:=cells_flat _ j c hj
   have hjl:j<(cellsE (spansM A s)).length:=(List.getElem?_eq_some_iff.1 hu).1
   dsimp only
   rw [List.getD_eq_getElem?_getD,hu]
   refine ⟨?_,hvd⟩
   have hcu:cur.toList[j]? = some u:=by
    rw [← hgt,List.getElem?_take] at hu
    split at hu
    ·exact hu
    ·cases hu
   rw [cell_of_heap hgb (by rw [hgs];rw [cellsE_len] at hjl;have:=Nat.mul_le_mul_right 2 hgc;omega)]
   rw [Array.getD_eq_getD_getElem?,← Array.getElem?_toList,hcu]
end Go.Proofs.YtfnddhbiolpmgaaGreatDoor
set_option linter.unusedVariables false
set_option linter.unusedSimpArgs false
set_option maxRecDepth 100000
namespace Go.Proofs.YtfnddhbiolpmgaaGreatDoor
open Go Nv Pat
/- The matches of a pattern in a row of plain glyphs. -/
theorem spans13 (n:Tree) (A:Au) (s:List UInt8) (σ:Nv.ST):RCall Tryz.prog 13 [mat n A,.d (glyD s)] σ fun v σ' =>
  v=.func (.func 21) [] [.ptr (σ.length+1) 0,.ptr σ.length 0]∧σ'=σ++[.box 45 (auC n A),.box 32 [.d (glyD s)]]:=by
 refine fn13.rel noHint (Nat.le_refl _) ?_
 simp (disch:=omega) only [go_sem,mat,auC,nodeF,auF,rowsD,glyD,List.cons_append,List.nil_append,apR]
 exact ⟨_,rfl,rfl⟩
theorem matches7 (w:List UInt8) (n:Tree) (hw:w.length≤60) (hp:parseM w=(n,0)) (ht:Thin n) (hn:n.nodes≤1000000) (hb:buildE n=0) (hf:Fit (buildM n)) (ho:okA (buildM n)=true) (s:List UInt8) (hs:s.length≤1000) (ha:∀ b,b∈s→b.toNat<128) :
  PCall Tryz.prog 7 [.d (glyD s),.d (.str w)] (.tuple [.d (spanD (spansM (buildM n) s)),.d (.int .i64 0)]):=by
 have hm:=matcher11 w n hw hp ht hn hb
 refine fn7.pure noHint (Nat.le_refl _) (by simp only [go_sem,glyD]) (by simp only [go_sem,spanD]) ?_
 simp (disch:=omega) only [go_sem,glyD]
 refine hm.at ?_
 simp (disch:=omega) only [go_sem,mat,auC,nodeF,auF,rowsD,List.cons_append,List.nil_append]
 refine (spans13 n (buildM n) s _).at ?_
 rintro v σ' ⟨rfl,rfl⟩
 simp (disch:=omega) only [go_sem]
 refine (collect12 (n:=n) hf ho hs ha ?_ ?_).at ?_
 ·rfl
 ·rfl
 rintro v σ' ⟨rfl,rfl⟩
 simp (disch:=omega) only [go_sem,spanD]
end Go.Proofs.YtfnddhbiolpmgaaGreatDoor
set_option linter.unusedVariables false
set_option linter.unusedSimpArgs false
set_option maxRecDepth 100000
namespace Go.Proofs.YtfnddhbiolpmgaaGreatDoor
open Go Nv Pat
/- PLAIN: the trees of words,and the automata's languages. -/
def setT (c:Int):Tree:=.mk 2 [(c,c)] [] 0 0
def wordT:List Int→Tree
 | [c]=>setT c
 | l=>.mk 3 [] (l.map setT) 0 0
def isSet (c:Int):Tree→Bool
 | .mk k [(x,y)] [] a b=>decide (k=2) && decide (x=c) && decide (y=c) && decide (a=0) && decide (b=0)
 | _=>false
theorem isSet_eq {c:Int}:∀ {t:Tree},isSet c t=true→t=setT c
 | .mk k [(x,y)] [] a b,h=>by
  simp only [isSet,Bool.and_eq_true,decide_eq_true_eq] at h
  obtain ⟨⟨⟨⟨rfl,rfl⟩,rfl⟩,rfl⟩,rfl⟩:=h
  rfl
def allSet:List Int→List Tree→Bool
 | [],[]=>true
 | c::l,t::ts=>isSet c t && allSet l ts
 | _,_=>false
theorem allSet_eq:∀ {l:List Int} {ts:List Tree},allSet l ts=true→ts=l.map setT
 | [],[],_=>rfl
 | c::l,t::ts,h=>by
  simp only [allSet,Bool.and_eq_true] at h
  rw [isSet_eq h.1,allSet_eq h.2];rfl
def isW:List Int→Tree→Bool
 | [c],t=>isSet c t
 | l,.mk k [] ts a b=>decide (k=3) && allSet l ts && decide (a=0) && decide (b=0)
 | _,_=>false
theorem isW_eq:∀ {l:List Int} {t:Tree},isW l t=true→t=wordT l
 | [c],t,h=>isSet_eq h
 | [],.mk k [] ts a b,h=>by
  simp only [isW,Bool.and_eq_true,decide_eq_true_eq] at h
  obtain ⟨⟨⟨rfl,h⟩,rfl⟩,rfl⟩:=h
  rw [allSet_eq h];rfl
 | c::d::l,.mk k [] ts a b,h=>by
  simp only [isW,Bool.and_eq_true,decide_eq_true_eq] at h
  obtain ⟨⟨⟨rfl,h⟩,rfl⟩,rfl⟩:=h
  rw [allSet_eq h];rfl
def letters3:List UInt8:=[97,98,99]
def words:Nat→List (List UInt8)
 | 0=>[[]]
 | n+1=>letters3.flatMap fun b=>(words n).map (b::·)
theorem mem_words:∀ w:List UInt8,(∀ b,b∈w→b∈letters3)→w∈words w.length
 | [],_=>by simp [words]
 | b::w,h=>by
  simp only [List.length_cons,words,List.mem_flatMap,List.mem_map]
  exact ⟨b,h b (by simp),w,mem_words w fun c hc=>h c (by simp [hc]),rfl⟩
def okW (w:List UInt8):Bool:=isW (w.map bt) (parseM w).1 && decide ((parseM w).2=0) && decide (chkE (parseM w).1=0) && decide (sz (parseM w).1≤3000) && decide ((parseM w).1.nodes≤1000000)
theorem ok1:(words 1).all okW=true:=by kernel_rfl
theorem ok2:(words 2).all okW=true:=by kernel_rfl
theorem ok3:(words 3).all okW=true:=by kernel_rfl
theorem ok4:(words 4).all okW=true:=by kernel_rfl
theorem ok5:(words 5).all okW=true:=by kernel_rfl
theorem word_ok {w:List UInt8} (hw:∀ b,b∈w→b∈letters3) (h1:1≤w.length) (h5:w.length≤5) :
  parseM w=(wordT (w.map bt),0)∧chkE (wordT (w.map bt))=0∧sz (wordT (w.map bt))≤3000∧(wordT (w.map bt)).nodes≤1000000:=by
 have hm:=mem_words w hw
 have hk:okW w=true:=by
  have hl:w.length=1∨w.length=2∨w.length=3∨w.length=4∨w.length=5:=by omega
  rcases hl with h | h | h | h | h <;> rw [h] at hm
  ·exact List.all_eq_true.1 ok1 w hm
  ·exact List.all_eq_true.1 ok2 w hm
  ·exact List.all_eq_true.1 ok3 w hm
  ·exact List.all_eq_true.1 ok4 w hm
  ·exact List.all_eq_true.1 ok5 w hm
 simp only [okW,Bool.and_eq_true,decide_eq_true_eq] at hk
 obtain ⟨⟨⟨⟨k1,k2⟩,k3⟩,k4⟩,k5⟩:=hk
 have e:=isW_eq k1
 rw [e] at k3 k4 k5
 exact ⟨Prod.ext e k2,k3,k4,k5⟩
theorem thin_setsL:∀ l:List Int,ThinL (l.map setT)
 | []=>trivial
 | c::l=>⟨⟨by simp,trivial⟩,thin_setsL l⟩
theorem thin_word (l:List Int):Thin (wordT l):=by
 unfold wordT
 split
 ·exact ⟨by simp,trivial⟩
 ·exact ⟨by simp,thin_setsL _⟩
theorem lang_set (c:Int) (w:List Int):Lang (setT c) w↔w=[c]:=by
 unfold setT Lang
 rw [if_neg (by decide),if_pos rfl]
 constructor
 ·rintro ⟨d,rfl,r,hr,h1,h2⟩
  simp only [List.mem_cons,List.not_mem_nil,or_false] at hr
  subst hr
  rw [show d=c by dsimp only at h1 h2;omega]
 ·rintro rfl
  exact ⟨c,rfl,(c,c),by simp,Int.le_refl _,Int.le_refl _⟩
theorem langJ_sets:∀ (l w:List Int),LangJ (l.map setT) w↔w=l
 | [],w=>by rw [List.map_nil,langJ_nil];rfl
 | c::l,w=>by
  rw [List.map_cons,langJ_cons]
  constructor
  ·rintro ⟨u,v,rfl,h1,h2⟩
   rw [(lang_set c u).1 h1,(langJ_sets l v).1 h2];rfl
  ·rintro rfl
   exact ⟨[c],l,rfl,(lang_set c _).2 rfl,(langJ_sets l l).2 rfl⟩
theorem lang_word (l w:List Int):Lang (wordT l) w↔w=l:=by
 unfold wordT
 split
 ·exact lang_set _ w
 ·unfold Lang
  rw [if_neg (by decide),if_neg (by decide),if_pos rfl]
  exact langJ_sets _ w
def longD (f:List Int→Bool) (s:List UInt8):Nat→Nat
 | 0=>0
 | i+1=>if f (wdB (s.take (i+1))) then i+1 else longD f s i
theorem long_eq {n:Tree} (hc:chkE n=0) (hs:sz n≤3000) {f:List Int→Bool} (hf:∀ w,Lang n w↔f w=true) (s:List UInt8):∀ i,longT (buildM n) s i=longD f s i
 | 0=>rfl
 | i+1=>by
  have h:(buildM n).accept∈runM (buildM n) (wdB (s.take (i+1)))↔f (wdB (s.take (i+1)))=true:=by
   rw [← hf];exact built_accept (build_is (chk_wf n (chkE_ok hc).2)) (chkE_ok hc).2 hs _
  rw [longT,longD,long_eq hc hs hf s i]
  by_cases q:f (wdB (s.take (i+1)))=true
  ·rw [if_pos (h.2 q),if_pos q]
  ·rw [if_neg (fun r=>q (h.1 r)),if_neg q]
def spansD (f:List Int→Bool) (s:List UInt8):List (Nat × Nat):=spG s.length (fun k=>longD f (s.drop k) (s.drop k).length) (s.length+1) 0
theorem spans_eq {n:Tree} (hc:chkE n=0) (hs:sz n≤3000) {f:List Int→Bool} (hf:∀ w,Lang n w↔f w=true) (s:List UInt8):spansM (buildM n) s=spansD f s:=by
 unfold spansM spansD
 congr 1
 funext k
 exact long_eq hc hs hf _ _
theorem tree_fits {n:Tree} (hc:chkE n=0) (hs:sz n≤3000) (ht:Thin n):buildE n=0∧Fit (buildM n)∧okA (buildM n)=true:=by
 refine ⟨?_,build_fit (chkE_ok hc).2 ht hs,okA_proper.2 (built_proper (build_is (chk_wf n (chkE_ok hc).2)) (chkE_ok hc).2 hs)⟩
 unfold buildE
 rw [if_pos hc,if_neg (by unfold szP;omega)]
def wantF (s w:List UInt8):Nat→Nat→List (Nat × Nat)
 | 0,_=>[]
 | g+1,i=>if Lib.index (s.drop i) w<0 then [] else (i+(Lib.index (s.drop i) w).toNat,i+(Lib.index (s.drop i) w).toNat+w.length)::wantF s w g (i+(Lib.index (s.drop i) w).toNat+w.length)
theorem bt_inj:∀ {u v:List UInt8},u.map bt=v.map bt→u=v
 | [],[],_=>rfl
 | a::u,b::v,h=>by
  simp only [List.map_cons,List.cons.injEq] at h
  obtain ⟨h1,h2⟩:=h
  rw [bt_inj h2]
  unfold bt at h1
  have:a=b:=UInt8.toNat_inj.1 (by omega)
  rw [this]
theorem long_word {w:List UInt8} (hw:w≠[]) (s:List UInt8):∀ i,i≤s.length→longD (fun v=>decide (v=w.map bt)) s i=if w.length≤i∧w.isPrefixOf s=true then w.length else 0
 | 0,_=>by
  have:0<w.length:=List.length_pos_iff.2 hw
  rw [longD,if_neg (by omega)]
 | i+1,hi=>by
  rw [longD,long_word hw s i (by omega)]
  have hp:wdB (s.take (i+1))=w.map bt↔s.take (i+1)=w:=⟨fun h=>bt_inj h,fun h=>by rw [h];rfl⟩
  by_cases q:s.take (i+1)=w
  ·have hl:w.length=i+1:=by rw [← q,List.length_take];omega
   have hpre:w.isPrefixOf s=true:=by rw [List.isPrefixOf_iff_prefix,← q];exact List.take_prefix _ _
   rw [if_pos (by simpa using hp.2 q),if_pos ⟨by omega,hpre⟩,hl]
  ·rw [if_neg (by simpa using fun h=>q (hp.1 h))]
   by_cases r:w.isPrefixOf s=true
   ·have hne:w.length≠i+1:=fun e=>q (by
     rw [List.isPrefixOf_iff_prefix] at r
     rw [← e];exact (List.prefix_iff_eq_take.1 r).symm)
    by_cases t:w.length≤i
    ·rw [if_pos ⟨t,r⟩,if_pos ⟨by omega,r⟩]
    ·rw [if_neg (fun h=>t h.1),if_neg (fun h=>by omega)]
   ·rw [if_neg (fun h=>r h.2),if_neg (fun h=>r h.2)]
theorem index_nil {w:List UInt8} (hw:w≠[]):Lib.index [] w=-1:=by
 cases w with
 | nil=>exact absurd rfl hw
 | cons a w=>rfl
theorem drop_step {s:List UInt8} {i:Nat} (h:i<s.length):∃ b,s.drop i=b::s.drop (i+1):=⟨_,List.drop_eq_getElem_cons h⟩
theorem want_eq {w:List UInt8} (hw:w≠[]) (s:List UInt8):∀ (f i g:Nat),s.length - i<f→s.length - i<g→i≤s.length →
  spG s.length (fun k=>longD (fun v=>decide (v=w.map bt)) (s.drop k) (s.drop k).length) f i=wantF s w g i
 | 0,i,g,h,_,_=>by omega
 | f+1,i,0,_,h,_=>by omega
 | f+1,i,g+1,hf,hg,hi=>by
  have hwl:0<w.length:=List.length_pos_iff.2 hw
  rw [spG]
  by_cases hlt:s.length≤i
  ·rw [if_pos hlt,wantF,List.drop_of_length_le hlt,index_nil hw,if_pos (by decide)]
  ·rw [if_neg hlt]
   obtain ⟨b,hb⟩:=drop_step (show i<s.length by omega)
   have hlw:=long_word hw (s.drop i) _ (Nat.le_refl _)
   by_cases hp:w.isPrefixOf (s.drop i)=true
   ·have hle:w.length≤(s.drop i).length:=(List.isPrefixOf_iff_prefix.1 hp).length_le
    have hix:Lib.index (s.drop i) w=0:=by
     rw [hb] at hp ⊢
     unfold Lib.index
     rw [if_pos hp]
    rw [if_pos ⟨hle,hp⟩] at hlw
    rw [hlw,if_neg (by omega),wantF,hix,if_neg (by decide)]
    rw [List.length_drop] at hle
    simp only [Int.toNat_zero,Nat.add_zero]
    rw [want_eq hw s f (i+w.length) g (by omega) (by omega) (by omega)]
   ·rw [if_neg (fun h=>hp h.2)] at hlw
    rw [hlw,if_pos rfl,want_eq hw s f (i+1) (g+1) (by omega) (by omega) (by omega)]
    rw [wantF,wantF]
    have hix:Lib.index (s.drop i) w=if Lib.index (s.drop (i+1)) w == -1 then -1 else Lib.index (s.drop (i+1)) w+1:=by
     rw [hb] at hp ⊢
     conv=>lhs;unfold Lib.index
     rw [if_neg hp]
    have hge:=Lib.index_ge (s.drop (i+1)) w
    by_cases hm:Lib.index (s.drop (i+1)) w=-1
    ·rw [hix,hm,if_pos (by decide),if_pos (by decide)]
    ·have e:Lib.index (s.drop i) w=Lib.index (s.drop (i+1)) w+1:=by rw [hix,if_neg (by simpa using hm)]
     rw [e,if_neg (by omega),if_neg (by omega)]
     have e2:i+(Lib.index (s.drop (i+1)) w+1).toNat=i+1+(Lib.index (s.drop (i+1)) w).toNat:=by omega
     rw [e2]
theorem index_le {w:List UInt8}:∀ s:List UInt8,0≤Lib.index s w→(Lib.index s w).toNat+w.length≤s.length
 | [],h=>by
  unfold Lib.index at h ⊢
  cases w with
  | nil=>exact Nat.le_refl _
  | cons a w=>exact absurd h (fun q=>absurd q (show ¬ (0:Int)≤-1 by decide))
 | b::s,h=>by
  unfold Lib.index at h ⊢
  by_cases hp:w.isPrefixOf (b::s)=true
  ·rw [if_pos hp]
   have:=(List.isPrefixOf_iff_prefix.1 hp).length_le
   simpa using this
  ·rw [if_neg hp] at h ⊢
   by_cases hm:Lib.index s w=-1
   ·rw [if_pos (by simpa using hm)] at h;exact absurd h (by decide)
   ·rw [if_neg (by simpa using hm)] at h ⊢
    have hge:=Lib.index_ge s w
    have:=index_le s (show 0≤Lib.index s w by omega)
    simp only [List.length_cons];omega
theorem let_mem (l:List UInt8):∀ b,b∈lets l→b∈letters3:=by
 intro b hb
 obtain ⟨x,_,rfl⟩:=List.mem_map.1 hb
 have h:=let1_nat x
 have hm:x.toNat % 3=0∨x.toNat % 3=1∨x.toNat % 3=2:=by omega
 rcases hm with h0 | h0 | h0 <;> rw [h0] at h
 ·rw [show let1 x=97 from UInt8.toNat_inj.1 h];simp [letters3]
 ·rw [show let1 x=98 from UInt8.toNat_inj.1 h];simp [letters3]
 ·rw [show let1 x=99 from UInt8.toNat_inj.1 h];simp [letters3]
theorem let_asc (l:List UInt8):∀ b,b∈lets l→b.toNat<128:=by
 intro b hb
 obtain ⟨x,_,rfl⟩:=List.mem_map.1 hb
 have h:=let1_nat x
 omega
theorem word_spans {w:List UInt8} (hw:∀ b,b∈w→b∈letters3) (h1:1≤w.length) (h5:w.length≤5) (s:List UInt8) (g:Nat) (hg:s.length<g):spansM (buildM (wordT (w.map bt))) s=wantF s w g 0:=by
 obtain ⟨k1,k2,k3,k4⟩:=word_ok hw h1 h5
 rw [spans_eq k2 k3 (f:=fun v=>decide (v=w.map bt)) (fun v=>by rw [lang_word];simp) s]
 exact want_eq (fun e=>by rw [e] at h1;simp at h1) s _ 0 g (by omega) (by omega) (by omega)
end Go.Proofs.YtfnddhbiolpmgaaGreatDoor
set_option linter.unusedVariables false
set_option linter.unusedSimpArgs false
set_option maxRecDepth 100000
namespace Go.Proofs.YtfnddhbiolpmgaaGreatDoor
open Go Nv Pat
/- The examples of the chapter;the law. -/
def dig (c:Int):Bool:=decide (48≤c) && decide (c≤57)
def digT:Tree:=.mk 2 [(48,57)] [] 0 0
def k1T:Tree:=.mk 5 [] [digT] 1 (-1)
def k2T:Tree:=.mk 3 [] [.mk 2 [(97,122)] [] 0 0,.mk 5 [] [digT] 0 (-1)] 0 0
def k1F (v:List Int):Bool:=decide (1≤v.length) && v.all dig
def k2F:List Int→Bool
 | []=>false
 | c::v=>decide (97≤c) && decide (c≤122) && v.all dig
theorem kparse1:parseM [91,48,45,57,93,43]=(k1T,0):=by kernel_rfl
theorem kparse2:parseM [91,97,45,122,93,91,48,45,57,93,42]=(k2T,0):=by kernel_rfl
theorem kchk1:chkE k1T=0:=by kernel_rfl
theorem kchk2:chkE k2T=0:=by kernel_rfl
theorem ksz1:sz k1T≤3000:=by decide
theorem ksz2:sz k2T≤3000:=by decide
theorem kth1:Thin k1T:=by simp [Thin,ThinL,k1T,digT]
theorem kth2:Thin k2T:=by simp [Thin,ThinL,k2T,digT]
theorem lang_rng (a b:Int) (v:List Int):Lang (.mk 2 [(a,b)] [] 0 0) v↔∃ c,v=[c]∧a≤c∧c≤b:=by
 unfold Lang
 rw [if_neg (by decide),if_pos rfl]
 constructor
 ·rintro ⟨d,rfl,r,hr,h1,h2⟩
  simp only [List.mem_cons,List.not_mem_nil,or_false] at hr
  subst hr
  exact ⟨d,rfl,h1,h2⟩
 ·rintro ⟨c,rfl,h1,h2⟩
  exact ⟨c,rfl,(a,b),by simp,h1,h2⟩
theorem pow_dig:∀ (k:Nat) (v:List Int),Pow (fun u=>Lang digT u) k v↔v.length=k∧v.all dig=true
 | 0,v=>by
  constructor
  ·intro h
   have h:v=[]:=h
   subst h;exact ⟨rfl,rfl⟩
  ·intro h;exact List.length_eq_zero_iff.1 h.1
 | k+1,v=>by
  rw [pow_succ]
  constructor
  ·rintro ⟨u,x,rfl,h1,h2⟩
   obtain ⟨c,rfl,h3,h4⟩:=(lang_rng 48 57 u).1 h1
   obtain ⟨h5,h6⟩:=(pow_dig k x).1 h2
   refine ⟨by simp [h5],?_⟩
   rw [List.all_append,h6]
   simp [dig,h3,h4]
  ·rintro ⟨h1,h2⟩
   cases v with
   | nil=>cases h1
   | cons c v =>
    rw [List.all_cons,Bool.and_eq_true] at h2
    have h3:=h2.1
    unfold dig at h3
    simp only [Bool.and_eq_true,decide_eq_true_eq] at h3
    exact ⟨[c],v,rfl,(lang_rng 48 57 _).2 ⟨c,rfl,h3.1,h3.2⟩,(pow_dig k v).2 ⟨by simpa using h1,h2.2⟩⟩
theorem lang_rep (a:Int) (v:List Int):Lang (.mk 5 [] [digT] a (-1)) v↔a≤v.length∧v.all dig=true:=by
 have e:Lang (.mk 5 [] [digT] a (-1)) v=(∃ n:Nat,a≤(n:Int)∧((-1:Int)<0∨(n:Int)≤-1)∧Pow (fun u=>Lang digT u) n v):=rfl
 rw [e]
 constructor
 ·rintro ⟨n,h1,_,h2⟩
  obtain ⟨rfl,h3⟩:=(pow_dig n v).1 h2
  exact ⟨h1,h3⟩
 ·rintro ⟨h1,h2⟩;exact ⟨v.length,h1,.inl (by decide),(pow_dig _ v).2 ⟨rfl,h2⟩⟩
theorem lang_k1 (v:List Int):Lang k1T v↔k1F v=true:=by
 unfold k1T k1F
 rw [lang_rep]
 simp only [Bool.and_eq_true,decide_eq_true_eq]
 exact ⟨fun h=>⟨by omega,h.2⟩,fun h=>⟨by omega,h.2⟩⟩
theorem lang_k2 (v:List Int):Lang k2T v↔k2F v=true:=by
 have e:Lang k2T v=LangJ [.mk 2 [(97,122)] [] 0 0,.mk 5 [] [digT] 0 (-1)] v:=rfl
 rw [e,langJ_cons]
 have e2:∀ x,LangJ [.mk 5 [] [digT] 0 (-1)] x↔x.all dig=true:=fun x=>by
  rw [langJ_cons]
  constructor
  ·rintro ⟨u,y,rfl,h1,h2⟩
   have h2:y=[]:=(langJ_nil y).1 h2
   subst h2
   rw [List.append_nil];exact ((lang_rep 0 u).1 h1).2
  ·intro h;exact ⟨x,[],by simp,(lang_rep 0 x).2 ⟨by omega,h⟩,(langJ_nil []).2 rfl⟩
 constructor
 ·rintro ⟨u,x,rfl,h1,h2⟩
  obtain ⟨c,rfl,h3,h4⟩:=(lang_rng 97 122 u).1 h1
  have:=(e2 x).1 h2
  show (decide (97≤c) && decide (c≤122) && x.all dig)=true
  rw [this];simp [h3,h4]
 ·intro h
  cases v with
  | nil=>cases h
  | cons c v =>
   have h:(decide (97≤c) && decide (c≤122) && v.all dig)=true:=h
   simp only [Bool.and_eq_true,decide_eq_true_eq] at h
   exact ⟨[c],v,rfl,(lang_rng 97 122 _).2 ⟨c,rfl,h.1.1,h.1.2⟩,(e2 v).2 h.2⟩
theorem kspans1:spansM (buildM k1T) [97,49,32,98,50,50]=[(1,2),(4,6)]:=by rw [spans_eq kchk1 ksz1 lang_k1];decide
theorem kspans2:spansM (buildM k2T) [97,49,32,98,50,50]=[(0,2),(3,6)]:=by rw [spans_eq kchk2 ksz2 lang_k2];decide
def hintsA:Nat→Hint:=fun i=>if i=25 then .freeze else if i=32 then .freeze else .no
@[go_sem] theorem hintsA_at (i:Nat):hintsA i=if i=25 then .freeze else if i=32 then .freeze else .no:=nrfl rfl
theorem awake4:PCall Tryz.prog 4 [] (.d (.bool true)):=by
 have hasc:∀ b,b∈([97,49,32,98,50,50]:List UInt8)→b.toNat<128:=by decide
 obtain ⟨b1,b2,b3⟩:=tree_fits kchk1 ksz1 kth1
 obtain ⟨c1,c2,c3⟩:=tree_fits kchk2 ksz2 kth2
 have m1:=matches7 [91,48,45,57,93,43] k1T (by decide) kparse1 kth1 (by decide) b1 b2 b3 [97,49,32,98,50,50] (by decide) hasc
 have m2:=matches7 [91,97,45,122,93,91,48,45,57,93,42] k2T (by decide) kparse2 kth2 (by decide) c1 c2 c3 [97,49,32,98,50,50] (by decide) hasc
 rw [kspans1] at m1
 rw [kspans2] at m2
 have p:=plain8 [97,49,32,98,50,50] (by decide)
 refine fn4.pure hintsA (Nat.le_refl _) (by simp only [go_sem]) (by simp only [go_sem]) ?_
 simp (disch:=omega) only [go_sem]
 refine p.at ?_
 simp (disch:=omega) only [go_sem,glyD]
 refine m1.at ?_
 simp (disch:=omega) only [go_sem]
 refine p.at ?_
 simp (disch:=omega) only [go_sem,glyD]
 refine m2.at ?_
 simp (disch:=omega) only [go_sem,spanD,spanV]
 refine (same9 [(1,2),(4,6)] (by decide)).at ?_
 simp (disch:=omega) only [go_sem]
 refine (same9 [(0,2),(3,6)] (by decide)).at ?_
 simp (disch:=omega) only [go_sem]
def hintsB:Nat→Hint:=fun i=>if i=71 then .freeze else .no
@[go_sem] theorem hintsB_at (i:Nat):hintsB i=if i=71 then .freeze else .no:=nrfl rfl
theorem law3 (x y:List UInt8):PCall Tryz.prog 3 [.d (txtD x),.d (txtD y)] (.d (.bool true)):=by
 refine fn3.pure hintsB (Nat.le_refl _) (by simp only [go_sem,txtD]) (by simp only [go_sem]) ?_
 have hxl:(x.map fun b=>DV.int .u8 (bt b)).length=x.length:=by simp
 have hyl:(y.map fun b=>DV.int .u8 (bt b)).length=y.length:=by simp
 by_cases c1:(20:Int)<x.length
 ·simp (disch:=omega) only [go_sem,txtD,hxl,hyl,c1]
  refine awake4.at ?_
  simp (disch:=omega) only [go_sem]
 by_cases c2:(y.length:Int)=0
 ·simp (disch:=omega) only [go_sem,txtD,hxl,hyl,c1,c2]
  refine awake4.at ?_
  simp (disch:=omega) only [go_sem]
 by_cases c3:(5:Int)<y.length
 ·simp (disch:=omega) only [go_sem,txtD,hxl,hyl,c1,c2,c3]
  refine awake4.at ?_
  simp (disch:=omega) only [go_sem]
 have hlx:=letters5 x (by omega)
 have hly:=letters5 y (by omega)
 have hsl:=lets_len x
 have hwl:=lets_len y
 have hwm:=let_mem y
 have hsa:=let_asc x
 simp (disch:=omega) only [go_sem,txtD,hxl,hyl,c1,c2,c3]
 refine hlx.at ?_
 simp (disch:=omega) only [go_sem,txtD]
 refine hly.at ?_
 generalize lets x=s at *
 generalize lets y=w at *
 have hsp:=word_spans hwm (by omega) (by omega) s (s.length+1) (by omega)
 obtain ⟨k1,k2,k3,k4⟩:=word_ok hwm (by omega) (by omega)
 obtain ⟨b1,b2,b3⟩:=tree_fits k2 k3 (thin_word _)
 have m1:=matches7 w _ (by omega) k1 (thin_word _) k4 b1 b2 b3 s (by omega) hsa
 rw [hsp] at m1
 obtain ⟨all,hall⟩:∃ all,all=wantF s w (s.length+1) 0:=⟨_,rfl⟩
 rw [← hall] at m1
 have hal:all.length≤1000:=by
  rw [hall,← hsp];have:=spG_len s.length (fun k=>longM (buildM (wordT (w.map bt))) (s.drop k)) (s.length+1) 0
  unfold spansM;omega
 simp (disch:=omega) only [go_sem]
 refine wL_ind (fun (a:Nat × Nat × List (Nat × Nat)) fr σ=>a.1≤s.length∧s.length - a.1<a.2.1∧all=a.2.2++wantF s w a.2.1 a.1∧fr 6=.d (.str s)∧fr 7=.d (.str w)∧fr 9=.d (.int .i64 a.1)∧∃ g τ,fr 8=.own 0 g 0 a.2.2.length∧σ=.arr g ⟨2,28⟩ (a.2.2.map spanV)::τ) (fun a=>a.2.1) ?_ (0,s.length+1,[]) ?_
 ·rintro ⟨i,g,pre⟩ fr σ ⟨hi,hg,hal2,f6,f7,f9,gg,τ,f8,rfl⟩ ih
  dsimp only at hi hg hal2 f9 f8 ih
  obtain ⟨g,rfl⟩:∃ g',g=g'+1:=⟨g - 1,by omega⟩
  have hts:List.drop i (List.take s.length s)=s.drop i:=by rw [List.take_length]
  simp (disch:=omega) only [go_sem,f6,f7,f8,f9,hts]
  refine ⟨⟨hi,Nat.le_refl _⟩,?_⟩
  refine (index6 (s.drop i) w (by rw [List.length_drop];omega)).at ?_
  by_cases hneg:Lib.index (s.drop i) w<0
  ·rw [wantF,if_pos hneg,List.append_nil] at hal2
   subst hal2
   have hpl:=plain8 s (by omega)
   have htk:List.take all.length (all.map spanV)=all.map spanV:=List.take_of_length_le (by simp)
   have hbl:(all.map spanV).length=all.length:=by simp
   simp (disch:=omega) only [go_sem,hneg,f6,f7,f8]
   refine hpl.at ?_
   simp (disch:=omega) only [go_sem,f7,glyD]
   refine m1.at ?_
   simp (disch:=omega) only [go_sem,f8,spanD,htk,hbl,Nat.zero_add,Nat.le_refl]
   refine (same9 all hal).at ?_
   simp (disch:=omega) only [go_sem]
   refine awake4.at ?_
   simp (disch:=omega) only [go_sem]
  ·have hile:=index_le (w:=w) (s.drop i) (by omega)
   rw [List.length_drop] at hile
   rw [wantF,if_neg hneg] at hal2
   obtain ⟨kn,hkn⟩:∃ kn:Nat,Lib.index (s.drop i) w=kn:=⟨(Lib.index (s.drop i) w).toNat,by omega⟩
   rw [hkn,Int.toNat_natCast] at hal2 hile
   rw [hkn]
   have h0:¬ (kn:Int)<0:=by omega
   have e1:(i:Int)+(kn:Int)=((i+kn:Nat):Int):=by omega
   have e2:((i+kn:Nat):Int)+(w.length:Int)=((i+kn+w.length:Nat):Int):=by omega
   have e3:(kn:Int)+(w.length:Int)=((kn+w.length:Nat):Int):=by omega
   have e4:(i:Int)+((kn+w.length:Nat):Int)=((i+kn+w.length:Nat):Int):=by omega
   have hpl:pre.length+1≤all.length:=by rw [hal2];simp
   have htk:List.take pre.length (pre.map spanV)=pre.map spanV:=List.take_of_length_le (by simp)
   have hbl:(pre.map spanV).length=pre.length:=by simp
   have hcap:(pre.length+1) * 16≤140737488355328:=by omega
   simp (disch:=omega) only [go_sem,h0,f6,f7,f8,f9,e1,e2,e3,e4,htk,hbl,hcap,Nat.zero_add,Nat.le_refl]
   refine ih (i+kn+w.length,g,pre++[(i+kn,i+kn+w.length)]) _ _ (by show g<g+1;omega) ⟨by dsimp only;omega,by dsimp only;omega,by dsimp only;rw [List.append_assoc];exact hal2,?_,?_,?_,gg+1,τ++[.arr 0 ⟨2,28⟩ [spanV (i+kn,i+kn+w.length)]],?_,?_⟩
   ·simp (disch:=omega) only [go_sem,f6]
   ·simp (disch:=omega) only [go_sem,f7]
   ·simp (disch:=omega) only [go_sem]
   ·simp (disch:=omega) only [go_sem,List.length_append]
   ·dsimp only
    rw [List.map_append];rfl
 ·refine ⟨Nat.zero_le _,by dsimp only;omega,hall,?_,?_,?_,0,[],?_,rfl⟩
  ·simp (disch:=omega) only [go_sem]
  ·simp (disch:=omega) only [go_sem]
  ·simp (disch:=omega) only [go_sem]
  ·simp (disch:=omega) only [go_sem]
end Go.Proofs.YtfnddhbiolpmgaaGreatDoor
set_option linter.unusedVariables false
set_option linter.unusedSimpArgs false
set_option maxRecDepth 100000
namespace Go.Proofs.YtfnddhbiolpmgaaGreatDoor
open Go Nv Pat
/- What comes in,as trees. -/
theorem int_td {n:Nat} {t:TypeId} {k:IntKind} {ds:List DV} (ht:Tryz.prog.underlying t=some (.int k)) (h:TD Tryz.prog n t ds):∃ z,ds=[.int k z]∧(Lit.int k z).wf=true:=by
 cases n with
 | zero=>exact h.elim
 | succ n=>simp only [TD,ht] at h;exact h
theorem rows_of {α:Type} {Q:DV→Prop} {f:α→DV}:∀ {xs:List DV},(∀ x,x∈xs→∃ a,x=f a)→∃ l:List α,xs=l.map f
 | [],_=>⟨[],rfl⟩
 | x::xs,h=>by
  obtain ⟨a,rfl⟩:=h x (by simp)
  obtain ⟨l,rfl⟩:=rows_of (Q:=Q) (xs:=xs) fun y hy=>h y (by simp [hy])
  exact ⟨a::l,rfl⟩
end Go.Proofs.YtfnddhbiolpmgaaGreatDoor
set_option linter.unusedVariables false
set_option linter.unusedSimpArgs false
set_option maxRecDepth 100000
namespace Go.Proofs.YtfnddhbiolpmgaaGreatDoor
open Go Nv Pat
/- What comes in,as texts. -/
theorem txt_td {n:Nat} {ds:List DV} (h:TD Tryz.prog n 22 ds):∃ l:List UInt8,ds=[txtD l]:=by
 cases n with
 | zero=>exact h.elim
 | succ n =>
  unfold TD at h
  simp only [go_sem] at h
  obtain ⟨xs,rfl,_,hx⟩:=h
  obtain ⟨l,rfl⟩:=rows_of (Q:=fun _=>True) (f:=fun b:UInt8=>DV.int .u8 (bt b)) fun x hm=>by
   obtain ⟨cs,rfl,hc⟩:=hx x hm
   obtain ⟨z,rfl,hz⟩:=int_td Tryz.underlying5 hc
   have h0:0≤z∧z≤255:=by simpa [Lit.wf,IntKind.min,IntKind.max,IntKind.signed,IntKind.bits] using hz
   refine ⟨UInt8.ofNat z.toNat,?_⟩
   simp only [ofCells,go_sem,bt,List.headD_cons]
   rw [show ((UInt8.ofNat z.toNat).toNat:Int)=z by rw [UInt8.toNat_ofNat'];omega]
  exact ⟨l,rfl⟩
end Go.Proofs.YtfnddhbiolpmgaaGreatDoor
