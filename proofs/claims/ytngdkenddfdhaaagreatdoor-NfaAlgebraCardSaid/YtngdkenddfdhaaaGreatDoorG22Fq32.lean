/- Part of a proof about the functions of this seat. -/
import Derived.Test.YtngdkenddfdhaaaGreatDoorG11O32
import Derived.WalkKit
import Derived.ProofKit
import Derived.OpenShut
import Derived.Carry
import Derived.Deep.Slices
import Derived.HandedShaped
import Derived.ChangeMaps5
import Derived.Shelf.LaysM
import Derived.Lib.LaidU8T
import Derived.MakeChecks
import Derived.KernelRfl
import Derived.Test.YtngdkenddfdhaaaGreatDoorProg
import Derived.Test.YtngdkenddfdhaaaGreatDoorRows
import Derived.Shelf.Unicode.ValidAny
import Derived.Test.YtngdkenddfdhaaaGreatDoorG09Base32
import Derived.Test.YtngdkenddfdhaaaGreatDoorG17Fm32
import Derived.Recover
import Derived.Test.YtngdkenddfdhaaaGreatDoorG21Pd32
import Derived.Test.YtngdkenddfdhaaaGreatDoorG18Pars
/- What comes in: an argument that reads avl data is data of its type;what a law's call leaves is what the form asks. -/








set_option linter.unusedVariables false
set_option linter.unusedSimpArgs false
namespace Nv
open Go Go.RowKit Go.ChangeShapes Go.WideShapes Go.ChangeAt
def tiled (P:Program):Nat→List Field→Nat→Bool
 | o,[],e=>Nat.beq o e
 | o,f::fs,e=>Nat.beq f.offset o && tiled P (o+P.cellsOf f.type) fs e
def isDataIn (P:Program) (S:List TypeId) (t:TypeId):Bool :=
 match P.underlying t with
 | some .bool=>true
 | some (.int _)=>true
 | some .string=>true
 | some (.slice e)=>Nat.blt 0 (P.cellsOf e) && S.any (Nat.beq e)
 | some (.struct fs)=>tiled P 0 fs.toList (P.cellsOf t) && fs.toList.all fun f=>S.any (Nat.beq f.type)
 | _=>false
def closedData (P:Program) (S:List TypeId):Bool:=S.all (isDataIn P S)
theorem closedData.at {P:Program} {S:List TypeId} (h:closedData P S=true) {t:TypeId} (ht:S.any (Nat.beq t)=true):isDataIn P S t=true:=by
 obtain ⟨u,hu,he⟩:=List.any_eq_true.1 ht
 rw [Nat.eq_of_beq_eq_true he]
 exact List.all_eq_true.1 h u hu
def ofCells (P:Program) (t:TypeId) (ds:List DV):DV :=
 match P.underlying t with
 | some (.struct _)=>.agg ds
 | _=>ds.headD default
def TD (P:Program):Nat→TypeId→List DV→Prop
 | 0,_,_=>False
 | n+1,t,ds=>match P.underlying t with
  | some .bool=>∃ b,ds=[.bool b]
  | some (.int k)=>∃ z,ds=[.int k z]∧(Lit.int k z).wf=true
  | some .string=>∃ s:List UInt8,ds=[.str s]∧s.length≤maxLen
  | some (.slice e)=>∃ xs,ds=[.list (P.cellsOf e) xs]∧xs.length≤maxLen∧∀ x,x∈xs→∃ cs,x=ofCells P e cs∧TD P n e cs
  | some (.struct fs)=>ds.length=P.cellsOf t∧∀ f,f∈fs.toList→TD P n f.type ((ds.drop f.offset).take (P.cellsOf f.type))
  | _=>False
def VDs (I:Nat→Prop) (w:World) (ds:List DV) (cs:List Value):Prop:=ds.length=cs.length∧∀ j d,ds[j]? = some d→VD I w d (cs.getD j undef)
theorem VDs.append {I:Nat→Prop} {w:World} {ds ds':List DV} {cs cs':List Value} (h:VDs I w ds cs) (h':VDs I w ds' cs'):VDs I w (ds++ds') (cs++cs'):=by
 refine ⟨by simp [h.1,h'.1],fun j d hj=>?_⟩
 rcases Nat.lt_or_ge j ds.length with hl | hl
 ·rw [List.getElem?_append_left hl] at hj
  have:=h.2 j d hj
  rw [List.getD_eq_getElem?_getD,List.getElem?_append_left (by rw [← h.1];exact hl),← List.getD_eq_getElem?_getD]
  exact this
 ·rw [List.getElem?_append_right hl] at hj
  have:=h'.2 _ d hj
  rw [List.getD_eq_getElem?_getD,List.getElem?_append_right (by rw [← h.1];exact hl),← List.getD_eq_getElem?_getD,← h.1]
  exact this
theorem VDs.one {I:Nat→Prop} {w:World} {d:DV} {v:Value} (h:VD I w d v):VDs I w [d] [v] :=
 ⟨rfl,fun j x hj=>by
  cases j with
  | zero=>simp at hj;subst hj;simpa using h
  | succ j=>simp at hj⟩
section
variable {H:Type} {enc:TypeId × Value→H} {P:Program} {w:World} {sp:Nat→Bool} {held:Bool} {I:Nat→Prop}
theorem ofCells_cells {n:Nat} {t:TypeId} {ds:List DV} (h:TD P n t ds) (hn:∀ d,d∈ds→d.isAgg=false):(ofCells P t ds).cells=ds:=by
 have one:∀ d:DV,d.isAgg=false→d.cells=[d]:=fun d hd=>by cases d <;> first | rfl | simp [DV.isAgg] at hd
 cases n with
 | zero=>exact h.elim
 | succ n =>
  unfold TD at h
  unfold ofCells
  split at h
  ·rename_i ht;obtain ⟨b,rfl⟩:=h;simp only [ht];rfl
  ·rename_i k ht;obtain ⟨z,rfl,_⟩:=h;simp only [ht];rfl
  ·rename_i ht;obtain ⟨z,rfl,_⟩:=h;simp only [ht];rfl
  ·rename_i e ht;obtain ⟨z,rfl,_⟩:=h;simp only [ht];rfl
  ·rename_i fs ht;simp only [ht];rfl
  ·exact h.elim
theorem fields_td {n:Nat} {cs:List Value}:∀ (fs:List Field) (o e:Nat),tiled P o fs e=true→cs.length=e →
  (∀ f,f∈fs→∃ ds,TD P n f.type ds∧VDs I w ds ((cs.drop f.offset).take (P.cellsOf f.type))∧∀ d,d∈ds→d.isAgg=false)→o≤e →
  ∃ ds,VDs I w ds (cs.drop o)∧(∀ f,f∈fs→o≤f.offset∧TD P n f.type ((ds.drop (f.offset - o)).take (P.cellsOf f.type)))∧∀ d,d∈ds→d.isAgg=false
 | [],o,e,ht,hl,_,_=>by
  have:o=e:=Nat.eq_of_beq_eq_true ht
  subst this
  refine ⟨[],⟨by simp;omega,by simp⟩,by simp,by simp⟩
 | f::fs,o,e,ht,hl,hf,hoe=>by
  simp only [tiled,Bool.and_eq_true] at ht
  have hfo:f.offset=o:=Nat.eq_of_beq_eq_true ht.1
  have hle:∀ (fs:List Field) (o e:Nat),tiled P o fs e=true→o≤e:=by
   intro fs
   induction fs with
   | nil=>intro o e h;exact Nat.le_of_eq (Nat.eq_of_beq_eq_true h)
   | cons g gs ih=>intro o e h;simp only [tiled,Bool.and_eq_true] at h;have:=ih _ _ h.2;omega
  have hle':=hle _ _ _ ht.2
  obtain ⟨ds,h1,h2,h3⟩:=fields_td fs _ e ht.2 hl (fun g hg=>hf g (List.mem_cons_of_mem _ hg)) hle'
  obtain ⟨d0,g1,g2,g3⟩:=hf f (by simp)
  rw [hfo] at g2
  have hl0:d0.length=P.cellsOf f.type:=by rw [g2.1];simp;omega
  refine ⟨d0++ds,?_,fun g hg=>?_,fun d hd=>?_⟩
  ·have:=g2.append h1
   rwa [show (cs.drop o).take (P.cellsOf f.type)++cs.drop (o+P.cellsOf f.type)=cs.drop o by rw [← List.drop_drop];exact List.take_append_drop _ _] at this
  ·rcases List.mem_cons.1 hg with rfl | hg
   ·refine ⟨by omega,?_⟩
    rw [hfo,Nat.sub_self,List.drop_zero,← hl0,List.take_left]
    exact g1
   ·obtain ⟨k1,k2⟩:=h2 g hg
    refine ⟨by omega,?_⟩
    rw [List.drop_append,List.drop_of_length_le (by omega),List.nil_append,hl0,show g.offset - o - P.cellsOf f.type=g.offset - (o+P.cellsOf f.type) by omega]
    exact k2
  ·rcases List.mem_append.1 hd with hd | hd
   ·exact g3 d hd
   ·exact h3 d hd
theorem read_td (hsp:∀ b,sp b=true) (hI:∀ b,b<w.heap.size→I b) {S:List TypeId} (hS:closedData P S=true):∀ (n:Nat) (t:TypeId) (cs:List Value) (x:DataW H × List MemPlace),S.any (Nat.beq t)=true →
  DataW.trod enc P w 0 sp held n t cs=some x→∃ ds,TD P n t ds∧VDs I w ds cs∧∀ d,d∈ds→d.isAgg=false:=by
 intro n
 induction n with
 | zero=>intro t cs x _ h;simp [DataW.trod] at h
 | succ n ih =>
  intro t cs x hmem h
  have hd:=closedData.at hS hmem
  unfold isDataIn at hd
  split at hd
  ·rename_i ht
   obtain ⟨b,rfl,_⟩:=DataW.trod_bool ht h
   exact ⟨[.bool b],by simp only [TD,ht];exact ⟨b,rfl⟩,.one (.bool b),by simp [DV.isAgg]⟩
  ·rename_i k ht
   obtain ⟨z,rfl,_,hw⟩:=DataW.trod_int ht h
   exact ⟨[.int k z],by simp only [TD,ht];exact ⟨z,rfl,hw⟩,.one (.int k z),by simp [DV.isAgg]⟩
  ·rename_i ht
   obtain ⟨s,rfl,_,hw⟩:=DataW.trod_string ht h
   exact ⟨[.str s.data.toList],by simp only [TD,ht];exact ⟨_,rfl,by simpa using hw⟩,.one (.str s.data.toList),by simp [DV.isAgg]⟩
  ·rename_i e ht
   simp only [Bool.and_eq_true,Nat.blt_eq] at hd
   obtain ⟨hc,hde⟩:=hd
   rcases DataW.trod_slice ht h with ⟨rfl,_⟩ | ⟨a,len,cap,elems,rest,m,hnm,rfl,_,hb,hlc,hm,hlen,hel,hrest,_⟩
   ·exact ⟨[.list (P.cellsOf e) []],by simp only [TD,ht];exact ⟨[],rfl,by simp,by simp⟩,.one (.listNil _ none),by simp [DV.isAgg]⟩
   ·obtain rfl:n=m:=by omega
    have getC:∀ i y,(w.cells? 0 (a.add (i * P.cellsOf e)) (P.cellsOf e)).bind (DataW.trod enc P w 0 sp held n e)=some y →
      ∃ (cs:List Value) (ds:List DV),w.cells? 0 (a.add (i * P.cellsOf e)) (P.cellsOf e)=some cs∧TD P n e ds∧VDs I w ds cs∧∀ d,d∈ds→d.isAgg=false:=by
     intro i y hy
     obtain ⟨cs,h1,h2⟩:=Option.bind_eq_some_iff.1 hy
     obtain ⟨ds,h3,h4,h5⟩:=ih _ _ _ hde h2
     exact ⟨cs,ds,h1,h3,h4,h5⟩
    have spot:∀ cs,w.cells? 0 (a.add (0 * P.cellsOf e)) (P.cellsOf e)=some cs→a.spot=none∧a.block<w.heap.size:=by
     intro cs hcs
     obtain ⟨_,hl,hg⟩:=World.cells?_some hcs
     have h0:=hg 0 hc
     rw [List.getElem?_eq_getElem (by omega)] at h0
     have ha:((a.add (0 * P.cellsOf e)).add 0)=a:=by simp [Addr.add]
     rw [ha] at h0
     unfold World.cell? at h0
     split at h0
     ·rename_i hh
      split at h0
      ·cases h0
      ·rename_i hsp;exact ⟨by simpa using hsp,(Array.getElem?_eq_some_iff.1 hh).1⟩
     ·cases h0
    by_cases hcap:cap=0
    ·subst hcap
     obtain rfl:len=0:=by omega
     exact ⟨[.list (P.cellsOf e) []],by simp only [TD,ht];exact ⟨[],rfl,by simp,by simp⟩,.one (.listNil _ (some a)),by simp [DV.isAgg]⟩
    ·have elem:∀ i,i<len→∃ (c:List Value × List DV),w.cells? 0 (a.add (i * P.cellsOf e)) (P.cellsOf e)=some c.1∧TD P n e c.2∧VDs I w c.2 c.1∧∀ d,d∈c.2→d.isAgg=false:=by
      intro i hi
      have h1:=hel i hi
      rw [List.getElem?_eq_getElem (by omega)] at h1
      obtain ⟨cs,ds,q⟩:=getC i _ h1
      exact ⟨(cs,ds),q⟩
     have hs:a.spot=none∧a.block<w.heap.size:=by
      rcases Nat.eq_zero_or_pos len with h0 | h0
      ·obtain ⟨r1,r2⟩:=hrest (hsp _)
       have h1:=r2 0 (by omega)
       have e0:len+0=0:=by omega
       simp only [e0] at h1
       rw [List.getElem?_eq_getElem (by omega)] at h1
       obtain ⟨cs,ds,q,_⟩:=getC 0 _ h1
       exact spot _ q
      ·obtain ⟨c,q,_⟩:=elem 0 h0
       exact spot _ q
     obtain ⟨b,off,sp'⟩:=a
     obtain ⟨h1,hbl⟩:=hs
     simp only at h1 hbl
     subst h1
     obtain ⟨C,hC⟩:=Go.Deep.choose_lt elem
     let xs:List DV:=(List.range len).map fun i=>ofCells P e (C i).2
     have hxl:xs.length=len:=by simp [xs]
     have hxi:∀ i,i<len→xs.getD i default=ofCells P e (C i).2:=fun i hi=>by simp [xs,List.getD_eq_getElem?_getD,hi]
     have hcl:∀ i,i<len→(C i).1.length=P.cellsOf e:=fun i hi=>(World.cells?_some (hC i hi).1).2.1
     have hdl:∀ i,i<len→(C i).2.length=P.cellsOf e:=fun i hi=>by rw [(hC i hi).2.2.1.1];exact hcl i hi
     have hoc:∀ i,i<len→(ofCells P e (C i).2).cells=(C i).2:=fun i hi=>ofCells_cells (hC i hi).2.1 (hC i hi).2.2.2
     have hmem:∀ x,x∈xs→∃ i,i<len∧x=ofCells P e (C i).2:=fun x hx=>by
      obtain ⟨i,hi,rfl⟩:=List.mem_map.1 hx
      exact ⟨i,List.mem_range.1 hi,rfl⟩
     have huni:∀ x,x∈xs→Uni (P.cellsOf e) x:=fun x hx=>by
      obtain ⟨i,hi,rfl⟩:=hmem x hx
      exact ⟨by rw [hoc i hi];exact hdl i hi,by rw [hoc i hi];exact (hC i hi).2.2.2⟩
     have hfl:∀ j c,(flat xs)[j]? = some c→j / P.cellsOf e<len∧(C (j / P.cellsOf e)).2[j % P.cellsOf e]? = some c:=by
      intro j c hj
      have hjl:j<(flat xs).length:=by
       rcases Nat.lt_or_ge j (flat xs).length with h | h
       ·exact h
       ·rw [List.getElem?_eq_none h] at hj;cases hj
      rw [flat_len huni,hxl] at hjl
      have hd:=Nat.div_lt_of_lt_mul (by rwa [Nat.mul_comm] at hjl:j<P.cellsOf e * len)
      refine ⟨hd,?_⟩
      have:=flat_get huni (i:=j / P.cellsOf e) (o:=j % P.cellsOf e) (by omega) (Nat.mod_lt _ hc)
      rw [show j / P.cellsOf e * P.cellsOf e+j % P.cellsOf e=j by rw [Nat.mul_comm];exact Nat.div_add_mod _ _,hj,hxi _ hd,hoc _ hd] at this
      exact this.symm
     refine ⟨[.list (P.cellsOf e) xs],?_,.one (.list (fun j=>(C (j / P.cellsOf e)).1.getD (j % P.cellsOf e) undef) hxl.symm hlc huni (fun j c hj=>?_) (fun j c hj=>?_)),by simp [DV.isAgg]⟩
     ·simp only [TD,ht]
      refine ⟨xs,rfl,by omega,fun x hx=>?_⟩
      obtain ⟨i,hi,rfl⟩:=hmem x hx
      exact ⟨_,rfl,(hC i hi).2.1⟩
     ·obtain ⟨h1,h2⟩:=hfl j c hj
      refine ⟨hI _ hbl,?_⟩
      obtain ⟨_,_,hg⟩:=World.cells?_some (hC _ h1).1
      have:=hg (j % P.cellsOf e) (Nat.mod_lt _ hc)
      rw [Addr.add_lit,Addr.add_lit,Nat.add_assoc,show j / P.cellsOf e * P.cellsOf e+j % P.cellsOf e=j by rw [Nat.mul_comm];exact Nat.div_add_mod _ _] at this
      rw [this,List.getD_eq_getElem?_getD,List.getElem?_eq_getElem (by rw [hcl _ h1];exact Nat.mod_lt _ hc)]
      rfl
     ·obtain ⟨h1,h2⟩:=hfl j c hj
      exact (hC _ h1).2.2.1.2 _ _ h2
  ·rename_i fs ht
   simp only [Bool.and_eq_true] at hd
   obtain ⟨htl,hfs⟩:=hd
   obtain ⟨xs,m,hnm,_,hlen,hxs,hf⟩:=DataW.trod_struct ht h
   obtain rfl:n=m:=by omega
   obtain ⟨ds,h1,h2,h3⟩:=fields_td (n:=n) (w:=w) (I:=I) (cs:=cs) fs.toList 0 (P.cellsOf t) htl hlen (fun f hfm=>by
    obtain ⟨i,hi,he⟩:=List.getElem_of_mem hfm
    have h4:fs[i]? = some f:=by
     rw [Array.length_toList] at hi
     rw [Array.getElem?_eq_getElem hi]
     simpa using he
    have h5:=hf i f h4
    rw [List.getElem?_eq_getElem (by rw [hxs];simpa using hi)] at h5
    exact ih _ _ _ (List.all_eq_true.1 hfs f hfm) h5) (Nat.zero_le _)
   rw [List.drop_zero] at h1
   refine ⟨ds,?_,h1,h3⟩
   simp only [TD,ht]
   exact ⟨by rw [h1.1,hlen],fun f hfm=>by simpa using (h2 f hfm).2⟩
  ·cases hd
def avOf (P:Program) (t:TypeId) (ds:List DV):AV :=
 match P.underlying t with
 | some (.struct _)=>.agg (ds.map .d)
 | _=>.d (ds.headD default)
theorem read_arg {W:World} {ρ:RHO} {S:List TypeId} {t:TypeId} {v:Value} {d:DataW H} {p:List MemPlace} {base:Nat} (hS:closedData P S=true) (ht:S.any (Nat.beq t)=true)
  (h:DataW.Trod enc P W 0 (fun _=>true) held t v d p) (hok:Value.okWide P W .any base t v) :
  ∃ n ds,TD P n t ds∧V ρ [] (fun b=>b<W.heap.size) W (avOf P t ds) v:=by
 obtain ⟨n,hf⟩:=h
 obtain ⟨ds,h1,h2,h3⟩:=read_td (I:=fun b=>b<W.heap.size) (fun _=>rfl) (fun b hb=>hb) hS n t _ _ ht hf
 refine ⟨n,ds,h1,?_⟩
 have one:∀ d,ds=[d]→v.cells=#[v]→VD (fun b=>b<W.heap.size) W d v:=fun d hds hv=>by
  subst hds
  have:=h2.2 0 d rfl
  rw [hv] at this
  simpa using this
 unfold avOf
 unfold Value.okWide at hok
 cases n with
 | zero=>exact h1.elim
 | succ n =>
  unfold TD at h1
  split at h1
  ·rename_i ht
   obtain ⟨b,rfl⟩:=h1
   rw [ht] at hok ⊢
   simp only [Cell.okWide,ht] at hok
   exact .d (one _ rfl (by cases v <;> first | rfl | (exfalso;simp [Cell.ok,ht] at hok)))
  ·rename_i k ht
   obtain ⟨b,rfl,_⟩:=h1
   rw [ht] at hok ⊢
   simp only [Cell.okWide,ht] at hok
   exact .d (one _ rfl (by cases v <;> first | rfl | (exfalso;simp [Cell.ok,ht] at hok)))
  ·rename_i ht
   obtain ⟨b,rfl,_⟩:=h1
   rw [ht] at hok ⊢
   simp only [Cell.okWide,ht] at hok
   exact .d (one _ rfl (by cases v <;> first | rfl | (exfalso;simp [Cell.ok,ht] at hok)))
  ·rename_i e ht
   obtain ⟨b,rfl,_⟩:=h1
   rw [ht] at hok ⊢
   simp only [Cell.okWide,ht] at hok
   exact .d (one _ rfl (by cases v <;> first | rfl | (exfalso;simp [Cell.ok,ht] at hok)))
  ·rename_i fs ht
   rw [ht] at hok ⊢
   obtain ⟨cs,rfl,hsz,_⟩:=hok
   have hl:=h2.1
   simp only [Value.cells,Array.length_toList] at hl
   refine .agg (by simpa using hl) (fun j c hj=>?_)
   simp only [List.getElem?_map,Option.map_eq_some_iff] at hj
   obtain ⟨d,hd,rfl⟩:=hj
   have:=h2.2 j d hd
   simp only [Value.cells] at this
   have hjl:j<cs.size:=by
    rw [← hl]
    rcases Nat.lt_or_ge j ds.length with h | h
    ·exact h
    ·rw [List.getElem?_eq_none h] at hd;cases hd
   rw [Array.getD_eq_getD_getElem?]
   rw [List.getD_eq_getElem?_getD,Array.getElem?_toList] at this
   exact .d this
  ·exact h1.elim
theorem PCall.calls {f:FuncId} {args:List AV} {b:Bool} {W:World} {vs:Array Value} (h:PCall P f args (.d (.bool b)))
  (hv:VL (fun _=>⟨none,0,0⟩) [] (fun b=>b<W.heap.size) W args vs) (hT:Tabs P (fun b=>b<W.heap.size) W):Calls P f vs W fun e w'=>e=.returned (.bool b)∧Below W.heap.size W w':=by
 have hr:RS P (fun _=>⟨none,0,0⟩) (fun b=>b<W.heap.size) W []:=⟨fun i blk hi=>by simp at hi,fun i j bi bj B hi=>by simp at hi,fun B hl=>absurd hl (no_lives B),fun B hB=>hB,hT⟩
 refine (h [] _ _ W vs hr hv).mono ?_
 rintro e w' ⟨ρ',I',σ',oc,h1,h2,h3,rfl,rfl⟩
 cases e <;> simp only at h3
 rename_i v
 rw [h3.d_inv.bool_inv]
 exact ⟨rfl,h1.env.os,h1.env.tape,h1.env.output,h1.hsz,fun k hk=>h1.keep k hk (no_lives k)⟩
theorem trodAll_stays {ts:List TypeId} (hl:laidOutB P=true) (hr:∀ t,t∈ts→P.readableRec t=true∧t<P.types.size) {W W':World}:∀ {vs:List Value} {ds:List (DataW H)} {ps:List MemPlace},
  DataW.TrodAll enc P W 0 (fun _=>true) true ts vs ds ps→Below W.heap.size W W'→(∀ x,x∈ps→x.block<W.heap.size)→DataW.TrodAll enc P W' 0 (fun b=>decide (b<W.heap.size)) true ts vs ds ps:=by
 induction ts with
 | nil =>
  intro vs ds ps h hb hlt
  cases vs <;> cases ds <;> first | exact h | exact h.elim
 | cons t ts ih =>
  intro vs ds ps h hb hlt
  cases vs <;> cases ds <;> first | exact h.elim | skip
  obtain ⟨p,q,h1,h2,rfl⟩:=h
  exact ⟨p,q,Below.trod hl (hr t (by simp)).1 (hr t (by simp)).2 h1 hb (fun x hx=>hlt x (List.mem_append_left _ hx)),
   ih (fun t ht=>hr t (List.mem_cons_of_mem _ ht)) h2 hb (fun x hx=>hlt x (List.mem_append_right _ hx)),rfl⟩
theorem law_post {fn:Func} {s:ChangeSpec} {apart:Bool} {W W':World} {args:Array Value} {ds:List (DataW H)} {before:List MemPlace} {tb:TypeId}
  (hl:laidOutB P=true) (hr:∀ t,t∈fn.params.toList→P.readableRec t=true∧t<P.types.size) (hvars:s.vars=[])
  (hW:DataW.Whole enc P fn.params.toList s.vars apart W args.toList ds [] before)
  (h1:(s.fn H (ds++[])).results=[.lit (.bool true)]) (h2:(s.fn H (ds++[])).args=ds) (h3:(s.fn H (ds++[])).vars=[])
  (ht:fn.resultTypes=#[tb]) (hb:P.underlying tb=some .bool) (hB:Below W.heap.size W W'):s.post enc P fn apart true false false W args (.bool true) W':=by
 have hlt:=hW.lt
 obtain ⟨p,q,hA,hV,rfl,hfz,hnd⟩:=id hW
 rw [hvars] at hV
 obtain ⟨_,rfl⟩:=trodVars_none hV
 refine ⟨ds,[],p++[],[],p,[],hW,?_,?_,?_,hB.frame _,fun h=>by cases h⟩
 ·rw [h1,ht]
  exact trodAll_mk1 (shut_bool hb _)
 ·rw [h2]
  exact trodAll_stays hl hr hA hB (fun x hx=>by simpa using hlt x (by simpa using hx))
 ·rw [h3,hvars];rfl
end
theorem handed_laid {H:Type} {enc:TypeId × Value→H} {C:Checked} {os:Os} {f:FuncId} {fn:Func} {s:ChangeSpec} {apart fresh handsOn again:Bool} {X:World→Prop}
  (hX:∀ w w':World,w.heap=w'.heap→X w→X w') (own:ownKnob C.prog.godebug=none) (started:os.Started) (noInit:C.prog.inits.idxOf? f=none) (hfn:C.prog.funcs[f]? = some fn)
  (witness:∃ (w:World) (tape:Tape) (i:Input),w.os=os∧(w.forCall tape i).Shaped C.prog∧i.vars=[]∧Input.okWide C.prog (w.forCall tape i) .any w.heap.size f i ∧
   ((s.pre enc C.prog fn [] apart (w.forCall tape i).memory i.args∧X (w.forCall tape i).memory)∧sizedMet enc C.prog fn (OpenSpec.ofChange s) apart (w.forCall tape i).memory i.args)∧({}:Assume).holds C.prog (lone (Frame.enter C.prog f i.args .normal) [] (w.forCall tape i)))
  (law:∀ (W:World) (base:Nat) (args:Array Value) (ds gs:List (DataW H)) (before:List MemPlace),(∀ (j:Nat) t v,fn.params[j]? = some t→args[j]? = some v→Value.okWide C.prog W .any base t v) →
   DataW.Whole enc C.prog fn.params.toList s.vars apart W args.toList ds gs before→(DataW.weightsEach C.prog (fn.params.toList++s.plain.varTypes C.prog) (ds++gs)).all (·≤reachBytes)=true→W.ShapedOpen C.prog→X W→Calls C.prog f args W fun e W'=>∃ v,e=.returned v∧s.post enc C.prog fn apart fresh handsOn again W args v W') :
  ReturnsInHanded {} C os f .any (fun w args=>(s.pre enc C.prog fn [] apart w args∧X w)∧sizedMet enc C.prog fn (OpenSpec.ofChange s) apart w args) (s.post enc C.prog fn apart fresh handsOn again):=by
 refine returnsInHanded_of_calls own started noInit witness ?_
 intro w tape i _ hshape _ hin hpre _
 have hval:=hin.2.2.2
 obtain ⟨fn1,hf1,_,_,_,_,hval⟩:=hval
 cases Option.some.inj (hf1.symm.trans hfn)
 have hh:(w.forCall tape i).memory.heap=(w.forCall tape i).heap:=by rfl
 obtain ⟨⟨⟨ds,gs,before,hread,_⟩,hx⟩,hz⟩:=hpre
 refine (law _ _ _ ds gs before hval (DataW.Whole.of_heap hh hread) (hz.weights hread) hshape (hX _ _ hh hx)).mono ?_
 rintro e W' ⟨v,rfl,hpost⟩
 exact ChangeSpec.post_blind hpost
theorem str_sized {H:Type} {enc:TypeId × Value→H} {P:Program} {W:World} {ts:List TypeId} {ds:List (DataW H)} (h:(DataW.weightsEach P ts ds).all (·≤reachBytes)=true) {j:Nat} {t:TypeId} {d:DataW H} (htj:ts[j]? = some t)
  (hdj:ds[j]? = some d) (ht:P.underlying t=some .string) {r:Reach} {b0 base:Nat} {sp:Nat→Bool} {held:Bool} {v:Value} {p:List MemPlace} (hval:Value.okWide P W r b0 t v) (hT:DataW.Trod enc P W base sp held t v d p)
  {ρ:RHO} {σ:ST} {I:Nat→Prop} {w:World} {s:List UInt8} (hv:V ρ σ I w (.d (.str s)) v):s.length≤140737488355328:=by
 obtain ⟨z,rfl,rfl,_⟩:=Go.ChangeMaps.open_string ht hval hT
 have:=sized_string h htj hdj
 have e:=hv.d_inv.str_inv
 simp only [Value.string.injEq] at e
 subst e
 have:=reachBytes_lt
 simp at *
 omega
end Nv
set_option linter.unusedVariables false
set_option linter.unusedSimpArgs false
set_option maxRecDepth 100000
namespace Go.Proofs.YtngdkenddfdhaaaGreatDoor
open Go.Shelf
def Tryz.lays196_ren:Go.Shelf.Ren:=⟨fun | 196=>31 | 259=>56 | n=>n,fun | 9=>9 | 4=>4 | 3=>3 | 5=>5 | 12=>12 | 119=>92 | 0=>0 | 46=>86 | 139=>95 | 138=>94 | 53=>117 | n=>n,fun | 3=>0 | 4=>1 | n=>n⟩
theorem Tryz.lays196:Go.Proofs.Lays.n196 Tryz.prog Tryz.lays196_ren where
 mixed:=by kernel_rfl
 f196:=Tryz.func31.trans (congrArg some (by kernel_rfl))
 f259:=Tryz.func56.trans (congrArg some (by kernel_rfl))
 t0:=Tryz.underlying0
 a0:=Tryz.isAgg0
 z0:=Tryz.sizeOf0
 v0:=Tryz.zeroValue0
 t3:=Tryz.underlying3
 a3:=Tryz.isAgg3
 z3:=Tryz.sizeOf3
 v3:=Tryz.zeroValue3
 t4:=Tryz.underlying4
 a4:=Tryz.isAgg4
 z4:=Tryz.sizeOf4
 v4:=Tryz.zeroValue4
 t5:=Tryz.underlying5
 a5:=Tryz.isAgg5
 z5:=Tryz.sizeOf5
 v5:=Tryz.zeroValue5
 t9:=Tryz.underlying9
 a9:=Tryz.isAgg9
 z9:=Tryz.sizeOf9
 v9:=Tryz.zeroValue9
 t12:=Tryz.underlying12
 a12:=Tryz.isAgg12
 z12:=Tryz.sizeOf12
 v12:=Tryz.zeroValue12
 t46:=Tryz.underlying86
 a46:=Tryz.isAgg86
 z46:=Tryz.sizeOf86
 v46:=Tryz.zeroValue86
 t53:=Tryz.underlying117
 a53:=Tryz.isAgg117
 z53:=Tryz.sizeOf117
 v53:=Tryz.zeroValue117
 t119:=Tryz.underlying92
 a119:=Tryz.isAgg92
 z119:=Tryz.sizeOf92
 t138:=Tryz.underlying94
 a138:=Tryz.isAgg94
 z138:=Tryz.sizeOf94
 v138:=Tryz.zeroValue94
 t139:=Tryz.underlying95
 a139:=Tryz.isAgg95
 z139:=Tryz.sizeOf95
 v139:=Tryz.zeroValue95
 g3:=by kernel_rfl
 g4:=by kernel_rfl
open Go.RowKit Go.Lib Nv
theorem extraU8:U8Extra Tryz.prog Tryz.lays196_ren where
 n3:=by kernel_rfl
 n4:=by kernel_rfl
 y3:=by kernel_rfl
 y4:=by kernel_rfl
 c5:=by kernel_rfl
 c119:=by kernel_rfl
 c138:=by kernel_rfl
theorem globals_le {w:Go.World} (h:w.ShapedOpen Tryz.prog):Tryz.prog.globals.size≤w.heap.size:=by
 have hk:(((Go.begin Tryz.prog (fun _ _=>0) default).world.heap[Tryz.prog.globals.size - 1]?).bind Go.Obj.row?).isSome=true:=by kernel_rfl
 obtain ⟨⟨zero,t⟩,hz⟩:=Option.isSome_iff_exists.1 hk
 have hp:0<Tryz.prog.globals.size:=of_decide_eq_true (by kernel_rfl)
 obtain ⟨cs,hc,_⟩:=h.1 (Tryz.prog.globals.size - 1) zero t (Nat.sub_lt hp Nat.one_pos) hz
 rcases Nat.lt_or_ge (Tryz.prog.globals.size - 1) w.heap.size with h' | h'
 ·omega
 ·rw [Array.getElem?_eq_none h'] at hc;cases hc
theorem tabs_of {w:Go.World} (hs:w.ShapedOpen Tryz.prog) (h:∀ r:Go.Shelf.Ren,U8Types Tryz.prog r→U8Extra Tryz.prog r→Utf8Tabs (r.g 3) (r.g 4) w) (hp:(Tryz.prog.globalNamed powN).isSome=true→TabIs Tryz.prog w powN .u64 Lib.pow10Tab):Tabs Tryz.prog (fun b=>b<w.heap.size) w :=
 Tabs.of hs h hp (globals_le hs)
theorem first_eq:Rows.laid_unicode_utf8_first=firstData:=by kernel_rfl
theorem accept_eq:(Rows.laid_unicode_utf8_acceptRanges:Go.DataW Unit)=acceptData:=by kernel_rfl
end Go.Proofs.YtngdkenddfdhaaaGreatDoor
set_option linter.unusedVariables false
set_option linter.unusedSimpArgs false
set_option maxRecDepth 100000
namespace Go.Proofs.YtngdkenddfdhaaaGreatDoor
open Go.RowKit Go.Lib Nv
theorem valid18 (s:List UInt8) (hs:s.length≤9223372036854775807):PCall Tryz.prog 31 [.d (.str s)] (.d (.bool (Lib.validD s))) :=
 .of_callsT rfl rfl fun w I hT=>Any.utf8_ValidString Tryz.lays196 ⟨s.toArray⟩ w (by simpa [ByteArray.size] using hs) (hT.utf8 (U8Types.of196 Tryz.lays196) extraU8)
end Go.Proofs.YtngdkenddfdhaaaGreatDoor
/- The prepared code of further functions. Written by a program of mine (gen.py) out of what the loaded dump prints. -/

set_option linter.unusedVariables false
set_option maxRecDepth 100000
namespace Go.Proofs.YtngdkenddfdhaaaGreatDoor
open Go Nv
theorem fn14:FnIs Tryz.prog 14 1 [Go.ResultVar.tmp 2] (.seq (.region [⟨some 2,Go.Op.assign (Go.Operand.const (Go.Value.bool false)),4,none⟩])
  (.seq (.region [⟨some 3,Go.Op.move (Go.Operand.tmp 0),9,none⟩,
   ⟨some 4,Go.Op.call { callee:=Go.Callee.value (Go.Operand.func 31),args:=#[Go.Operand.tmp 3],argTypes:=#[9] },4,none⟩,
   ⟨some 2,Go.Op.assign (Go.Operand.tmp 4),4,none⟩])
  .ret)) :=
 ⟨foll,Tryz.f14,Tryz.func14,by kernel_rfl,by kernel_rfl,by kernel_rfl,by rw [Tryz.ntmps14];decide⟩
end Go.Proofs.YtngdkenddfdhaaaGreatDoor
set_option linter.unusedVariables false
set_option linter.unusedSimpArgs false
set_option maxRecDepth 100000
namespace Go.Proofs.YtngdkenddfdhaaaGreatDoor
open Go Nv Pat
theorem validU (s:List UInt8) (hs:s.length≤100000):PCall Tryz.prog 14 [.d (.str s)] (.d (.bool (Lib.validD s))):=by
 refine fn14.pure noHint (Nat.le_refl _) (by simp only [go_sem]) (by simp only [go_sem]) ?_
 simp (disch:=omega) only [go_sem]
 refine (valid18 s (by omega)).at ?_
 simp (disch:=omega) only [go_sem]
end Go.Proofs.YtngdkenddfdhaaaGreatDoor
/- A function that defers one closure;a closure that recovers. -/


set_option linter.unusedVariables false
set_option linter.unusedSimpArgs false
namespace Nv
open Go
def deferAt:PC→Option (Nat × FuncId × List Operand × List Operand)
 | .region [⟨some d,.makeFunc (.func g) first cap,_,none⟩,⟨none,.defer ⟨.value (.tmp d'),args,_⟩,_,none⟩]=>bif Nat.beq d d' && args.isEmpty then some (d,g,first.toList,cap.toList) else none
 | _=>none
def WD (P:Program) (h:Nat→Hint):PC→Post→(FuncId→List AV→Post)→FR→ST→Prop
 | .seq a b,Q1,Q2,fr,σ=>match deferAt a with
  | some (d,g,first,cap)=>W P h b (Q2 g (first.map (aeval fr)++cap.map (aeval fr))) (put fr (some d) (.func (.func g) (first.map (aeval fr)) (cap.map (aeval fr)))) σ
  | none=>W P h a (thenA (fun fr σ=>WD P h b Q1 Q2 fr σ) Q1) fr σ
 | c,Q1,_,fr,σ=>W P h c Q1 fr σ
def dmode (v:Value):Option Bool→FrameMode
 | none=>.returning
 | some b=>.panicking [{ v,recovered:=b }]
def DCall (P:Program) (g:FuncId) (args:List AV) (σ:ST) (pv:Option AV) (K:Bool→ST→Prop):Prop :=
 ∀ ρ I w vs,RS P ρ I w σ→VL ρ σ I w args vs→∀ v:Value,(∀ x,pv=some x→V ρ σ I w x v) →
  CallsD P g vs (dmode v (pv.map fun _=>false)) w fun e u' w'=>∃ ρ' I' σ' b,Step ρ I w σ ρ' I' w' σ'∧RS P ρ' I' w' σ'∧e=.returned (.tuple #[])∧u'=dmode v (pv.map fun _=>b)∧K b σ'
def endD (P:Program) (rs:List ResultVar) (K:Out→ST→Prop) (g:FuncId) (args:List AV):Post
 | .normal,fr,σ=>plainFn P g=true∧DCall P g args σ none fun _ σ'=>outW P fr σ' rs fun v=>K (.ret v) σ'
 | .ret,fr,σ=>plainFn P g=true∧DCall P g args σ none fun _ σ'=>outW P fr σ' rs fun v=>K (.ret v) σ'
 | .panic x,fr,σ=>plainFn P g=true∧DCall P g args σ (some x) fun b σ'=>bif b then outW P fr σ' rs fun v=>K (.ret v) σ' else K (.panic x) σ'
 | .exit _,_,_=>False
section
variable {P:Program} {h:Nat→Hint} {N:Nat}
def liftD (P:Program) (E:Env) (N:Nat) (Q1:Post) (Q2:FuncId→List AV→Post):Exit→Act→World→Prop:=fun e a w =>
 lift P E N Q1 e a w∨∃ (ρ:RHO) (I:Nat→Prop) (w1:World) (σ:ST) (g:FuncId) (args:List AV) (cap dargs:Array Value),Step E.ρ E.I E.w E.σ ρ I w1 σ∧RS P ρ I w1 σ∧VL ρ σ I w1 args (dargs++cap) ∧
  lift P ⟨ρ,I,w1,σ,[{ target:=.fn (.func g) cap,args:=dargs }]⟩ N (Q2 g args) e a w
theorem deferAt_some {p:PC} {d:Nat} {g:FuncId} {first cap:List Operand} (h:deferAt p=some (d,g,first,cap)) :
  ∃ f c t0 t1 ts,p=.region [⟨some d,.makeFunc (.func g) f c,t0,none⟩,⟨none,.defer ⟨.value (.tmp d),#[],ts⟩,t1,none⟩]∧first=f.toList∧cap=c.toList:=by
 unfold deferAt at h
 split at h
 ·rename_i d0 g0 f c t0 d1 args ts t1
  cases hb:(Nat.beq d0 d1 && args.isEmpty)
  ·rw [hb] at h;cases h
  ·rw [hb] at h
   simp only [cond_true,Option.some.injEq,Prod.mk.injEq] at h
   obtain ⟨rfl,rfl,rfl,rfl⟩:=h
   simp only [Bool.and_eq_true] at hb
   obtain rfl:=Nat.eq_of_beq_eq_true hb.1
   have:args=#[]:=by simpa using hb.2
   subst this
   exact ⟨f,c,t0,t1,ts,rfl,rfl,rfl⟩
 ·cases h
theorem VL.append {ρ:RHO} {σ:ST} {I:Nat→Prop} {w:World} {avl bs:List AV} {us vs:Array Value} (h1:VL ρ σ I w avl us) (h2:VL ρ σ I w bs vs):VL ρ σ I w (avl++bs) (us++vs):=by
 refine ⟨by simp [h1.1,h2.1],fun j c hj=>?_⟩
 rcases Nat.lt_or_ge j avl.length with hlt | hge
 ·rw [List.getElem?_append_left hlt] at hj
  have:=h1.2 j c hj
  rw [Array.getD_eq_getD_getElem?,Array.getElem?_append_left (by rw [← h1.1];exact hlt),← Array.getD_eq_getD_getElem?]
  exact this
 ·rw [List.getElem?_append_right hge] at hj
  have:=h2.2 _ c hj
  rw [Array.getD_eq_getD_getElem?,Array.getElem?_append_right (by rw [← h1.1];exact hge),← h1.1,← Array.getD_eq_getD_getElem?]
  exact this
theorem two_list {α:Type} {l:List α} (h:l.length=2):∃ a b,l=[a,b]:=by
 match l,h with
 | [a,b],_=>exact ⟨a,b,rfl⟩
theorem prep_region {x:Code} {l:List POp} (h:prep x=.region l):∃ id ops,x=.region id ops false∧ops.toList.map (prepOp ops)=l:=by
 unfold prep at h
 split at h <;> first | (simp only [PC.region.injEq] at h;exact ⟨_,_,rfl,h⟩) | (simp only [reduceCtorEq] at h)
theorem WD_sound (hmx:P.follows .mixedOrders=true) {E:Env} (hE:E.D=[]) {Q1:Post} {Q2:FuncId→List AV→Post}:∀ (c:Code),wfC N c=true→∀ (fr:FR) (σ:ST) (ρ:RHO) (I:Nat→Prop) (a:Act) (w:World),At P E N fr σ ρ I a w →
  WD P h (prep c) Q1 Q2 fr σ→c.wp P (liftD P E N Q1 Q2) a w:=by
 intro c
 have plain:∀ (c:Code),wfC N c=true→∀ (fr:FR) (σ:ST) (ρ:RHO) (I:Nat→Prop) (a:Act) (w:World),At P E N fr σ ρ I a w→W P h (prep c) Q1 fr σ→c.wp P (liftD P E N Q1 Q2) a w :=
  fun c hwf fr σ ρ I a w hat hh=>wp_mono (W_sound (Q:=Q1) hmx c _ hwf fr σ ρ I a w hat hh) fun e a' w' hl=>.inl hl
 induction c with
 | seq x y ihx ihy =>
  intro hwf fr σ ρ I a w hat hh
  have hwf':=hwf
  simp only [wfC,Bool.and_eq_true] at hwf
  simp only [prep,WD] at hh
  split at hh
  ·rename_i d g first cap hd
   obtain ⟨f,c,t0,t1,ts,hp,rfl,rfl⟩:=deferAt_some hd
   obtain ⟨id,ops,rfl,hp2⟩:=prep_region hp
   clear hp
   ·obtain ⟨o0,o1,hops⟩:∃ o0 o1,ops.toList=[o0,o1]:=by
     refine two_list ?_
     have hl:=congrArg List.length hp2
     rw [List.length_map] at hl
     exact hl
    rw [hops] at hp2
    simp only [List.map_cons,List.map_nil,List.cons.injEq,and_true] at hp2
    obtain ⟨h0,h1⟩:=hp2
    simp only [prepOp,POp.mk.injEq] at h0 h1
    obtain ⟨d0,op0,_,g0⟩:=h0
    obtain ⟨d1,op1,_,g1⟩:=h1
    have gn0:o0.guard=none:=by cases hg:o0.guard with | none=>rfl | some gb=>rw [hg] at g0;simp at g0
    have gn1:o1.guard=none:=by cases hg:o1.guard with | none=>rfl | some gb=>rw [hg] at g1;simp at g1
    have hwf0:wfOp N ops o0=true:=by
     have:=hwf.1
     simp only [wfC,hops,List.all_cons,Bool.and_eq_true] at this
     exact this.1
    simp only [wfOp,Bool.and_eq_true] at hwf0
    have hdl:wfDst a.tmps.size o0.dst=true:=by rw [hat.size];exact hwf0.1
    rw [d0] at hdl
    let vclo:Value:=.func (.func g) (f.map a.eval) (c.map a.eval)
    let dfr:Deferred:={ target:=.fn (.func g) (c.map a.eval),args:=f.map a.eval++#[] }
    have hvf:=hat.vf.vl f
    have hvc:=hat.vf.vl c
    have hvclo:V ρ σ I w (.func (.func g) (f.toList.map (aeval fr)) (c.toList.map (aeval fr))) vclo:=.func hvf.1 hvf.2 hvc.1 hvc.2
    have r0:(execOp a.eval o0).run P w=.ok (.value vclo) w:=by
     simp only [execOp,op0,Instr.makeFunc];rfl
    have hget:(a.put (some d) vclo).eval (.tmp d)=vclo:=by
     have hlt:d<a.tmps.size:=by simpa [wfDst] using hdl
     show (a.put (some d) vclo).tmps.getD d undef=vclo
     simp only [Act.put]
     rw [getD_set_arr _ _ _ _ hlt,if_pos rfl]
    have r1:(execOp (a.put (some d) vclo).eval o1).run P w=.ok (.defer dfr) w:=by
     have hr:(execOp (a.put (some d) vclo).eval o1)=(do pure (.defer (← resolve (a.put (some d) vclo).eval ⟨.value (.tmp d),#[],ts⟩ o1.type))):=by
      simp only [execOp,op1]
     rw [hr]
     simp [resolve,hget,Deferred.ofValue,vclo,dfr]
    refine wp_seq (wp_region_list ?_)
    rw [hops]
    have w0:Region.wanted o0 (yielded ops a.tmps)=true:=by simp [Region.wanted,gn0]
    unfold wpList
    rw [if_pos w0]
    refine .inl ?_
    unfold Oper.wp
    rw [r0,Oper.upon_value,d0]
    have w1:Region.wanted o1 (yielded ops (a.put (some d) vclo).tmps)=true:=by simp [Region.wanted,gn1]
    unfold wpList
    rw [if_pos w1]
    refine .inl ?_
    unfold Oper.wp
    rw [r1,Oper.upon_defer,d1]
    unfold wpList
    show y.wp P (liftD P E N Q1 Q2) _ w
    have hat':At P ⟨ρ,I,w,σ,[dfr]⟩ N (put fr (some d) (.func (.func g) (f.toList.map (aeval fr)) (c.toList.map (aeval fr)))) σ ρ I (({ a.put (some d) vclo with defers:=dfr::(a.put (some d) vclo).defers }:Act).put none undef) w:=by
     refine ⟨Step.refl _ _ _ _,hat.rs,hat.vf.put hvclo hdl,?_,?_⟩
     ·show (a.put (some d) vclo).tmps.size=N
      rw [put_size];exact hat.size
     ·show dfr::(a.put (some d) vclo).defers=[dfr]
      rw [put_defers,hat.defers,hE]
    refine wp_mono (W_sound (E:=⟨ρ,I,w,σ,[dfr]⟩) (Q:=Q2 g (f.toList.map (aeval fr)++c.toList.map (aeval fr))) hmx y _ hwf.2 _ σ ρ I _ w hat' hh) fun e a' w' hl=>.inr ?_
    refine ⟨ρ,I,w,σ,g,_,c.map a.eval,f.map a.eval++#[],hat.step,hat.rs,?_,hl⟩
    rw [Array.append_empty]
    exact VL.append hvf hvc
  ·refine wp_seq (wp_mono (W_sound (Q:=Q1) hmx x _ hwf.1 fr σ ρ I a w hat hh) ?_)
   rintro e a' w' ⟨ρ',I',fr',σ',ae,hat',hex,hq⟩
   cases e <;> cases ae <;> simp only [exitIs] at hex
   ·exact ihy hwf.2 fr' σ' ρ' I' a' w' hat' hq
   ·exact .inl ⟨ρ',I',fr',σ',.exit _,hat',hex,hq⟩
   ·exact .inl ⟨ρ',I',fr',σ',.ret,hat',trivial,hq⟩
   ·exact .inl ⟨ρ',I',fr',σ',.panic _,hat',hex,hq⟩
 | region id ops dr=>intro hwf fr σ ρ I a w hat hh;exact plain _ hwf fr σ ρ I a w hat (by cases dr <;> exact hh)
 | _=>intro hwf fr σ ρ I a w hat hh;exact plain _ hwf fr σ ρ I a w hat hh
theorem VL.step {ρ ρ':RHO} {σ σ':ST} {I I':Nat→Prop} {w w':World} {avl:List AV} {vs:Array Value} (hr:RS P ρ I w σ) (hs:Step ρ I w σ ρ' I' w' σ') (h:VL ρ σ I w avl vs):VL ρ' σ' I' w' avl vs :=
 ⟨h.1,fun j c hj=>hs.v hr (h.2 j c hj)⟩
theorem call_of_WD (hmx:P.follows .mixedOrders=true) {f:FuncId} {fn:Func} {c:Code} {args:List AV} {σ:ST} {K:Out→ST→Prop} (hint:Nat→Hint) (hf:P.funcs[f]? = some fn) (hb:fn.body=some c) (hwf:wfC fn.ntmps c=true) (hn:args.length≤fn.ntmps)
  (hh:WD P hint (prep c) (endA P fn.results.toList K) (endD P fn.results.toList K) (initFr args) σ):ACall P f args σ K:=by
 intro ρ I w vs hr hv
 refine calls_of_wp_defers hf hb ?_
 let a0:Act:={ tmps:=vs++Array.replicate (fn.ntmps - vs.size) undef,defers:=[] }
 have hat:At P ⟨ρ,I,w,σ,[]⟩ fn.ntmps (initFr args) σ ρ I a0 w:=by
  refine ⟨Step.refl _ _ _ _,hr,fun i=>?_,?_,rfl⟩
  ·rcases Nat.lt_or_ge i args.length with hlt | hge
   ·have:=hv.2 i _ (List.getElem?_eq_getElem hlt)
    have e1:initFr args i=args[i]:=by simp [initFr,List.getD_eq_getElem?_getD,hlt]
    have e2:a0.tmps.getD i undef=vs.getD i undef:=by
     have:i<vs.size:=by rw [← hv.1];exact hlt
     simp only [a0,Array.getD_eq_getD_getElem?]
     rw [Array.getElem?_append_left this]
    rw [e1,e2];exact this
   ·have e1:initFr args i=.any:=by simp [initFr,List.getD_eq_getElem?_getD,List.getElem?_eq_none hge]
    rw [e1];exact .any _
  ·have:=hv.1
   simp only [a0,Array.size_append,Array.size_replicate];omega
 refine wp_mono (WD_sound hmx (E:=⟨ρ,I,w,σ,[]⟩) rfl c hwf _ σ ρ I a0 w hat hh) ?_
 let R:Ending→World→Prop:=fun e w'=>∃ ρ' I' σ' oc,Step ρ I w σ ρ' I' w' σ'∧RS P ρ' I' w' σ' ∧
  (match e,oc with
   | .returned v,.ret a=>V ρ' σ' I' w' a v
   | .panicked ch,.panic a=>∃ v,ch=[{ v,recovered:=false }]∧V ρ' σ' I' w' a v
   | _,_=>False)∧K oc σ'
 have res:∀ {E:Env} {ρ':RHO} {I':Nat→Prop} {fr':FR} {σ':ST} {a':Act} {w':World},Step ρ I w σ ρ' I' w' σ'→RS P ρ' I' w' σ'→VF ρ' σ' I' w' fr' a'→outW P fr' σ' fn.results.toList (fun v=>K (.ret v) σ') →
   ∃ v,(results fn a'.tmps).run P w'=.ok v w'∧R (.returned v) w':=by
  intro E ρ' I' fr' σ' a' w' hs hr' hvf ho
  obtain ⟨v,u,h1,h2,hk⟩:=outW_sound (P:=P) hr' hvf ho
  exact ⟨u,h1,ρ',I',σ',.ret v,hs,hr',h2,hk⟩
 rintro e a' w' (⟨ρ',I',fr',σ',ae,hat',hex,hq⟩ | ⟨ρ1,I1,w1,σ1,g,gargs,cap,dargs,hs1,hr1,hvl,ρ',I',fr',σ',ae,hat',hex,hq⟩)
 ·have hd:a'.defers=[]:=hat'.defers
  cases e <;> cases ae <;> simp only [exitIs] at hex
  ·show Leaves P fn a'.tmps R a'.defers .returning w'
   rw [hd]
   exact res (E:=⟨ρ,I,w,σ,[]⟩) hat'.step hat'.rs hat'.vf hq
  ·exact hq.elim
  ·show Leaves P fn a'.tmps R a'.defers .returning w'
   rw [hd]
   exact res (E:=⟨ρ,I,w,σ,[]⟩) hat'.step hat'.rs hat'.vf hq
  ·rename_i ch x
   obtain ⟨v,rfl,hv'⟩:=hex
   show Leaves P fn a'.tmps R a'.defers (.panicking _) w'
   rw [hd]
   exact ⟨ρ',I',σ',.panic x,hat'.step,hat'.rs,⟨v,rfl,hv'⟩,hq⟩
 ·have hd:a'.defers=[{ target:=.fn (.func g) cap,args:=dargs }]:=hat'.defers
  have hs2:Step ρ I w σ ρ' I' w' σ':=hs1.trans hat'.step
  have hvl':VL ρ' σ' I' w' gargs (dargs++cap):=hvl.step hr1 hat'.step
  have ret:plainFn P g=true∧DCall P g gargs σ' none (fun _ σ''=>outW P fr' σ'' fn.results.toList fun v=>K (.ret v) σ'')→Leaves P fn a'.tmps R a'.defers .returning w':=by
   rintro ⟨hpl,hdc⟩
   rw [hd]
   refine leaves_cons (f:=g) (args:=dargs++cap) (by simp) (by simp only [invoke];exact run_callFunc hpl) ?_
   refine (hdc ρ' I' w' _ hat'.rs hvl' undef (fun x hx=>by cases hx)).mono ?_
   rintro e u' w'' ⟨ρ2,I2,σ2,b,k1,k2,rfl,rfl,k3⟩
   exact res (E:=⟨ρ,I,w,σ,[]⟩) (hs2.trans k1) k2 (hat'.vf.step hat'.rs k1) k3
  cases e <;> cases ae <;> simp only [exitIs] at hex
  ·exact ret hq
  ·exact hq.elim
  ·exact ret hq
  ·rename_i ch x
   obtain ⟨v,rfl,hv'⟩:=hex
   obtain ⟨hpl,hdc⟩:=hq
   show Leaves P fn a'.tmps R a'.defers (.panicking _) w'
   rw [hd]
   refine leaves_cons (f:=g) (args:=dargs++cap) (by simp) (by simp only [invoke];exact run_callFunc hpl) ?_
   refine (hdc ρ' I' w' _ hat'.rs hvl' v (fun y hy=>by cases hy;exact hv')).mono ?_
   rintro e u' w'' ⟨ρ2,I2,σ2,b,k1,k2,rfl,rfl,k3⟩
   cases b
   ·exact ⟨ρ2,I2,σ2,.panic x,hs2.trans k1,k2,⟨v,rfl,k1.v hat'.rs hv'⟩,k3⟩
   ·exact res (E:=⟨ρ,I,w,σ,[]⟩) (hs2.trans k1) k2 (hat'.vf.step hat'.rs k1) k3
def recAt:PC→Option (Nat × Nat)
 | .region [⟨some d1,.call ⟨.builtin .recover,args,_⟩,_,none⟩,⟨some d2,.assign (.tmp d),_,none⟩]=>bif Nat.beq d d1 && args.isEmpty then some (d1,d2) else none
 | _=>none
theorem recAt_some {p:PC} {d1 d2:Nat} (h:recAt p=some (d1,d2)) :
  ∃ t0 t1 ts,p=.region [⟨some d1,.call ⟨.builtin .recover,#[],ts⟩,t0,none⟩,⟨some d2,.assign (.tmp d1),t1,none⟩]:=by
 unfold recAt at h
 split at h
 ·rename_i e1 args ts t0 e2 d t1
  cases hb:(Nat.beq d e1 && args.isEmpty)
  ·rw [hb] at h;cases h
  ·rw [hb] at h
   simp only [cond_true,Option.some.injEq,Prod.mk.injEq] at h
   obtain ⟨rfl,rfl⟩:=h
   simp only [Bool.and_eq_true] at hb
   obtain rfl:=Nat.eq_of_beq_eq_true hb.1
   have:args=#[]:=by simpa using hb.2
   subst this
   exact ⟨t0,t1,ts,rfl⟩
 ·cases h
def recV:Option AV→AV
 | none=>.d .niliface
 | some x=>x
def endR (K:ST→Prop):Post
 | .normal,_,σ=>K σ
 | .ret,_,σ=>K σ
 | _,_,_=>False
theorem DCall_of (hmx:P.follows .mixedOrders=true) {g:FuncId} {fn:Func} {x y:Code} {args:List AV} {σ:ST} {pv:Option AV} {K:Bool→ST→Prop} {d1 d2:Nat} (hint:Nat→Hint)
  (hf:P.funcs[g]? = some fn) (hb:fn.body=some (.seq x y)) (hwf:wfC fn.ntmps (.seq x y)=true) (hn:args.length≤fn.ntmps) (hres:fn.results=#[]) (hrec:recAt (prep x)=some (d1,d2))
  (hh:W P hint (prep y) (endR (K pv.isSome)) (put (put (initFr args) (some d1) (recV pv)) (some d2) (recV pv)) σ):DCall P g args σ pv K:=by
 intro ρ I w vs hr hv v hpv
 obtain ⟨t0,t1,ts,hp⟩:=recAt_some hrec
 obtain ⟨id,ops,rfl,hp2⟩:=prep_region hp
 clear hp hrec
 obtain ⟨o0,o1,hops⟩:∃ o0 o1,ops.toList=[o0,o1]:=by
  refine two_list ?_
  have hl:=congrArg List.length hp2
  rw [List.length_map] at hl
  exact hl
 rw [hops] at hp2
 simp only [List.map_cons,List.map_nil,List.cons.injEq,and_true] at hp2
 obtain ⟨h0,h1⟩:=hp2
 simp only [prepOp,POp.mk.injEq] at h0 h1
 obtain ⟨e0,op0,_,g0⟩:=h0
 obtain ⟨e1,op1,_,g1⟩:=h1
 have gn0:o0.guard=none:=by cases hg:o0.guard with | none=>rfl | some gb=>rw [hg] at g0;simp at g0
 have gn1:o1.guard=none:=by cases hg:o1.guard with | none=>rfl | some gb=>rw [hg] at g1;simp at g1
 simp only [wfC,hops,List.all_cons,List.all_nil,Bool.and_true,Bool.and_eq_true,wfOp] at hwf
 obtain ⟨⟨⟨hw0,_⟩,⟨hw1,_⟩⟩,hwy⟩:=hwf
 let a0:Act:={ tmps:=vs++Array.replicate (fn.ntmps - vs.size) undef,defers:=[] }
 have hat:At P ⟨ρ,I,w,σ,[]⟩ fn.ntmps (initFr args) σ ρ I a0 w:=by
  refine ⟨Step.refl _ _ _ _,hr,fun i=>?_,?_,rfl⟩
  ·rcases Nat.lt_or_ge i args.length with hlt | hge
   ·have:=hv.2 i _ (List.getElem?_eq_getElem hlt)
    have e1:initFr args i=args[i]:=by simp [initFr,List.getD_eq_getElem?_getD,hlt]
    have e2:a0.tmps.getD i undef=vs.getD i undef:=by
     have:i<vs.size:=by rw [← hv.1];exact hlt
     simp only [a0,Array.getD_eq_getD_getElem?]
     rw [Array.getElem?_append_left this]
    rw [e1,e2];exact this
   ·have e1:initFr args i=.any:=by simp [initFr,List.getD_eq_getElem?_getD,List.getElem?_eq_none hge]
    rw [e1];exact .any _
  ·have:=hv.1
   simp only [a0,Array.size_append,Array.size_replicate];omega
 refine callsD_of_wpS hf hb fun c₀ cs hmode=>?_
 refine wpS_seq (wpS_region ?_)
 have hopsA:ops=#[o0,o1]:=by rw [← Array.toArray_toList (xs:=ops),hops]
 have hsz:ops.size=2:=by rw [hopsA];rfl
 have q0:ops[0]? = some o0:=by rw [hopsA];rfl
 have q1:ops[1]? = some o1:=by rw [hopsA];rfl
 have r0:∀ (a:Act) (w:World),(execOp a.eval o0).run P w=.ok .recover w:=by
  intro a w
  simp [execOp,op0,resolve,invoke,builtin]
 have go:∀ (u:Value) (cs':List Frame) (b:Bool),V ρ σ I w (recV pv) u→cs'={ c₀ with mode:=dmode v (pv.map fun _=>b) }::cs→b=pv.isSome →
   wpOpsS P ops (Exit.thenS (y.wpS P (bodyPostS P fn c₀ cs fun e u' w'=>∃ ρ' I' σ' b,Step ρ I w σ ρ' I' w' σ'∧RS P ρ' I' w' σ'∧e=.returned (.tuple #[])∧u'=dmode v (pv.map fun _=>b)∧K b σ'))
    (bodyPostS P fn c₀ cs fun e u' w'=>∃ ρ' I' σ' b,Step ρ I w σ ρ' I' w' σ'∧RS P ρ' I' w' σ'∧e=.returned (.tuple #[])∧u'=dmode v (pv.map fun _=>b)∧K b σ')) [1] (a0.put o0.dst u) cs' w:=by
  intro u cs' b hu hcs hbb
  have hdl:wfDst a0.tmps.size (some d1)=true:=by rw [hat.size,← e0];exact hw0
  have hget:(a0.put o0.dst u).eval (.tmp d1)=u:=by
   have hlt:d1<a0.tmps.size:=by simpa [wfDst] using hdl
   show (a0.put o0.dst u).tmps.getD d1 undef=u
   rw [e0]
   simp only [Act.put]
   rw [getD_set_arr _ _ _ _ hlt,if_pos rfl]
  have r1:(execOp (a0.put o0.dst u).eval o1).run P w=.ok (.value u) w:=by
   simp only [execOp,op1,hget,Sem.run_pure]
  have w1:Region.wanted o1 (yielded ops (a0.put o0.dst u).tmps)=true:=by simp [Region.wanted,gn1]
  unfold wpOpsS
  simp only [q1,w1,if_true,r1,Oper.upon_value]
  unfold wpOpsS
  show y.wpS P _ ((a0.put o0.dst u).put o1.dst u) cs' w
  have hat2:At P ⟨ρ,I,w,σ,[]⟩ fn.ntmps (put (put (initFr args) (some d1) (recV pv)) (some d2) (recV pv)) σ ρ I ((a0.put o0.dst u).put o1.dst u) w:=by
   rw [e0,e1]
   have hs1:(a0.put (some d1) u).tmps.size=fn.ntmps:=by rw [put_size];exact hat.size
   refine ⟨hat.step,hat.rs,(hat.vf.put hu hdl).put hu (by rw [hs1,← e1];exact hw1),?_,?_⟩
   ·rw [put_size,hs1]
   ·rw [put_defers,put_defers]
  refine wpS_of_wp (wp_mono (W_sound (E:=⟨ρ,I,w,σ,[]⟩) (Q:=endR (K pv.isSome)) hmx y _ hwy _ σ ρ I _ w hat2 hh) ?_)
  rintro e a' w' ⟨ρ',I',fr',σ',ae,hat',hex,hq⟩
  have fin:K pv.isSome σ'→a'.defers=[]∧∃ u',cs'={ c₀ with mode:=u' }::cs∧∃ z,(results fn a'.tmps).run P w'=.ok z w' ∧
    ∃ ρ' I' σ' b,Step ρ I w σ ρ' I' w' σ'∧RS P ρ' I' w' σ'∧Ending.returned z=.returned (.tuple #[])∧u'=dmode v (pv.map fun _=>b)∧K b σ':=by
   intro hk
   refine ⟨hat'.defers,_,hcs,.tuple #[],results_none hres a'.tmps P w',ρ',I',σ',b,hat'.step,hat'.rs,rfl,rfl,by rw [hbb];exact hk⟩
  cases e <;> cases ae <;> simp only [exitIs] at hex
  ·exact fin hq
  ·exact hq.elim
  ·exact fin hq
  ·exact hq.elim
 rw [hsz]
 show wpOpsS P ops _ [0,1] a0 (c₀::cs) w
 unfold wpOpsS
 have w0:Region.wanted o0 (yielded ops a0.tmps)=true:=by simp [Region.wanted,gn0]
 simp only [q0,w0,if_true,r0]
 cases pv with
 | none =>
  have hm:recoverD (c₀::cs)=none:=by
   simp only [recoverD,hmode,dmode,Option.map_none]
  rw [hm]
  exact go .nilIface (c₀::cs) false (.d .niliface) (by simp only [Option.map_none,dmode];rw [← show c₀.mode=.returning from hmode]) rfl
 | some x =>
  have hm:recoverD (c₀::cs)=some (v,{ c₀ with mode:=.panicking [{ v,recovered:=true }] }::cs):=by
   simp only [recoverD,hmode,dmode,Option.map_some]
  rw [hm]
  exact go v _ true (hpv x rfl) rfl rfl
end
end Nv
/- A view of functions that defer a closure,for walks. -/


set_option linter.unusedVariables false
set_option linter.unusedSimpArgs false
namespace Nv
open Go
def wWD (P:Program) (h:Nat→Hint) (c:PC) (Q1:Post) (Q2:FuncId→List AV→Post) (t:Tk c) (q1:Tk Q1) (q2:Tk Q2) (fr:FR) (σ:ST):Prop:=WD P h c Q1 Q2 fr σ
section
variable {P:Program} {h:Nat→Hint} {Q1:Post} {Q2:FuncId→List AV→Post} {fr:FR} {σ:ST}
theorem wWD_none {a b:PC} {t:Tk (PC.seq a b)} {q1:Tk Q1} {q2:Tk Q2} (hd:deferAt a=none) (hh:wW P h a (thenA (fun fr σ=>wWD P h b Q1 Q2 ⟨⟩ ⟨⟩ ⟨⟩ fr σ) Q1) ⟨⟩ ⟨⟩ fr σ):wWD P h (.seq a b) Q1 Q2 t q1 q2 fr σ:=by
 unfold wWD WD
 rw [hd]
 unfold wW at hh
 exact hh
theorem wWD_some {a b:PC} {d:Nat} {g:FuncId} {first cap:List Operand} {t:Tk (PC.seq a b)} {q1:Tk Q1} {q2:Tk Q2} (hd:deferAt a=some (d,g,first,cap))
  (hh:wW P h b (Q2 g (first.map (aeval fr)++cap.map (aeval fr))) ⟨⟩ ⟨⟩ (put fr (some d) (.func (.func g) (first.map (aeval fr)) (cap.map (aeval fr)))) σ):wWD P h (.seq a b) Q1 Q2 t q1 q2 fr σ:=by
 unfold wWD WD
 rw [hd]
 unfold wW at hh
 exact hh
theorem FnIs.goD {f np:Nat} {rs:List ResultVar} {pc:PC} {K:Out→ST→Prop} (hf:FnIs P f np rs pc) (hint:Nat→Hint) {args:List AV} (hn:args.length≤np)
  (hh:wWD P hint pc (endA P rs K) (endD P rs K) ⟨⟩ ⟨⟩ ⟨⟩ (initFr args) σ):ACall P f args σ K:=by
 obtain ⟨fn,h1,h2,h3,h4,h5⟩:=hf.is
 unfold wfF at h3
 unfold pcOf at h2
 cases hb:fn.body with
 | none=>rw [hb] at h3;cases h3
 | some c =>
  rw [hb] at h3 h2
  subst h2 h4
  exact call_of_WD hf.mx hint h1 hb h3 (Nat.le_trans hn h5) hh
def DEnd (P:Program) (rs:List ResultVar) (K:Out→ST→Prop) (g:FuncId) (args:List AV) (pv:Option AV) (fr:FR) (σ:ST):Prop :=
 plainFn P g=true∧DCall P g args σ pv fun b σ'=>match pv with
  | none=>outW P fr σ' rs fun v=>K (.ret v) σ'
  | some x=>bif b then outW P fr σ' rs (fun v=>K (.ret v) σ') else K (.panic x) σ'
variable {K:Out→ST→Prop} {rs:List ResultVar} {g:FuncId} {args:List AV}
@[go_sem] theorem wQ_endD_ret {t:Tk (endD P rs K g args)}:wQ (endD P rs K g args) t .ret fr σ=DEnd P rs K g args none fr σ:=by unfold wQ;rfl
@[go_sem] theorem wQ_endD_panic (x:AV) {t:Tk (endD P rs K g args)}:wQ (endD P rs K g args) t (.panic x) fr σ=DEnd P rs K g args (some x) fr σ:=by unfold wQ;rfl
variable {K1:ST→Prop}
@[go_sem] theorem wQ_endR_normal {t:Tk (endR K1)}:wQ (endR K1) t .normal fr σ=K1 σ:=by unfold wQ;rfl
theorem prep_seq {c:Code} {a b:PC} (h:prep c=.seq a b):∃ x y,c=.seq x y∧prep x=a∧prep y=b:=by
 cases c with
 | seq x y=>simp only [prep,PC.seq.injEq] at h;exact ⟨x,y,rfl,h.1,h.2⟩
 | region id ops o=>cases o <;> simp [prep] at h
 | _=>simp [prep] at h
theorem FnIs.dcall {np:Nat} {a b:PC} (hf:FnIs P g np [] (.seq a b)) (hint:Nat→Hint) {pv:Option AV} {K:Bool→ST→Prop} {d1 d2:Nat} (hn:args.length≤np) (hrec:recAt a=some (d1,d2))
  (hh:wW P hint b (endR (K pv.isSome)) ⟨⟩ ⟨⟩ (put (put (initFr args) (some d1) (recV pv)) (some d2) (recV pv)) σ):DCall P g args σ pv K:=by
 obtain ⟨fn,h1,h2,h3,h4,h5⟩:=hf.is
 unfold wfF at h3
 unfold pcOf at h2
 cases hb:fn.body with
 | none=>rw [hb] at h3;cases h3
 | some c =>
  rw [hb] at h3 h2
  obtain ⟨x,y,rfl,rfl,rfl⟩:=prep_seq h2
  have hres:fn.results=#[]:=by
   have:=h4
   cases hr:fn.results with
   | mk l=>rw [hr] at this;simp at this;rw [this]
  unfold wW at hh
  exact DCall_of hf.mx hint h1 hb h3 (Nat.le_trans hn h5) hres hrec hh
@[go_sem] theorem outW_cc (t ty u uy:Nat) (Ka:AV→Prop):outW P fr σ [.cell t ty,.cell u uy] Ka=cellW P ty (fr t) σ (fun v=>cellW P uy (fr u) σ fun v'=>Ka (.tuple [v,v'])):=nrfl rfl
@[go_sem] theorem recV_none:recV none=.d .niliface:=nrfl rfl
@[go_sem] theorem recV_some (x:AV):recV (some x)=x:=nrfl rfl
end
attribute [irreducible] wWD
end Nv
set_option linter.unusedVariables false
set_option linter.unusedSimpArgs false
set_option maxRecDepth 100000
namespace Go.Proofs.YtngdkenddfdhaaaGreatDoor
open Go Nv Pat
/- Parse as a whole. -/
theorem V.wkt {ρ:RHO} {σ:Nv.ST} {I:Nat→Prop} {w:World} {a b c:AV} {v:Value} (h:WkB a b) (hv:V ρ σ I w (.tuple [a,c]) v):V ρ σ I w (.tuple [b,c]) v:=by
 cases hv with
 | tuple h1 h2 =>
  refine .tuple (by simpa using h1) fun j x hj=>?_
  match j,hj with
  | 0,hj=>simp at hj;subst hj;exact (h2 0 _ rfl).wkb h
  | 1,hj=>simp at hj;subst hj;exact h2 1 _ rfl
  | j+2,hj=>simp at hj
theorem ACall.wkt {f:FuncId} {args:List AV} {σ:Nv.ST} {b c:AV} (h:ACall Tryz.prog f args σ fun oc _=>∃ a,oc=.ret (.tuple [a,c])∧WkB a b):ACall Tryz.prog f args σ fun oc _=>oc=.ret (.tuple [b,c]):=by
 intro ρ I w vs hr hv
 refine (h ρ I w vs hr hv).mono ?_
 rintro e w' ⟨ρ',I',σ',oc,h1,h2,h3,a,rfl,hw⟩
 cases e <;> simp only at h3
 exact ⟨ρ',I',σ',.ret (.tuple [b,c]),h1,h2,Go.Proofs.YtngdkenddfdhaaaGreatDoor.V.wkt hw h3,rfl⟩
def charsOf (s:List UInt8):List Int:=(Nv.runesD s).map fun x=>match x with | .int _ n=>n | _=>0
theorem charsOf_enc {l:List Int} (h:Chars l):charsOf (encS l)=l:=by
 rw [charsOf,runes_enc h,List.map_map]
 conv=>rhs;rw [← List.map_id l]
 rfl
def zeroT:Tree:=.mk 0 [] [] 0 0
def parseM (s:List UInt8):Tree × Int :=
 if 60<s.length then (zeroT,5) else if Lib.validD s=false then (zeroT,3)
 else match parseC sortR (charsOf s) with
  | some n=>(n,0)
  | none=>(zeroT,3)
theorem wk_zero:WkB (.agg [.d (.int .i64 0),.d .nilslice,.d .nilslice,.d (.int .i64 0),.d (.int .i64 0)]) (nodeA zeroT) :=
 wkB5 (.d (.refl _)) (.d (.nil 2)) (.d (.nil 5)) (.d (.refl _)) (.d (.refl _))
def hintP1:Nat→Hint:=fun i=>if i=15 then .freeze else .no
@[go_sem] theorem hintP1_at (i:Nat):hintP1 i=if i=15 then .freeze else .no:=nrfl rfl
theorem dcall_none (σ:Nv.ST) (K:Bool→Nv.ST→Prop) (h:K false σ):DCall Tryz.prog 42 [.ptr 0 0,.ptr 1 0] σ none K:=by
 refine FnIs.dcall fn42 noHint (Nat.le_refl _) (d1:=5) (d2:=2) rfl ?_
 simp (disch:=omega) only [go_sem]
 exact h
theorem dcall_bad (a b c d e:AV) (x:AV) (rest:Nv.ST) (K:Bool→Nv.ST→Prop)
  (h:∀ τ,K true (.box 25 [.d (.int .i64 0),.d .nilslice,.d .nilslice,.d (.int .i64 0),.d (.int .i64 0)]::.box 32 [.d (.int .i64 3)]::τ)) :
  DCall Tryz.prog 42 [.ptr 0 0,.ptr 1 0] (.box 25 [a,b,c,d,e]::.box 32 [x]::rest) (some badV) K:=by
 refine FnIs.dcall fn42 noHint (Nat.le_refl _) (d1:=5) (d2:=2) rfl ?_
 simp (disch:=omega) only [go_sem,badV,rAssert,isIf]
 exact ⟨by kernel_rfl,h _⟩
theorem parse14 (s:List UInt8) (hs:s.length≤140737488355328):PCall Tryz.prog 22 [.d (.str s)] (.tuple [nodeA (parseM s).1,.d (.int .i64 (parseM s).2)]):=by
 refine PCall.of_nil (by simp only [go_sem]) (by simp only [go_sem,nodeA,nodeF,setD]) ?_
 refine Go.Proofs.YtngdkenddfdhaaaGreatDoor.ACall.wkt ?_
 refine fn22.goD hintP1 (Nat.le_refl _) ?_
 refine wWD_none rfl ?_
 simp (disch:=omega) only [go_sem]
 refine wWD_none rfl ?_
 by_cases h60:(60:Int)<s.length
 ·have e:parseM s=(zeroT,5):=by rw [parseM,if_pos (by omega)]
  simp (disch:=omega) only [go_sem,h60,e]
  exact ⟨_,rfl,wk_zero⟩
 simp (disch:=omega) only [go_sem,h60]
 refine wWD_none rfl ?_
 simp (disch:=omega) only [go_sem]
 refine (validU s (by omega)).at ?_
 cases hv:Lib.validD s
 ·have e:parseM s=(zeroT,3):=by rw [parseM,if_neg (by omega),if_pos hv]
  simp (disch:=omega) only [go_sem,e]
  exact ⟨_,rfl,wk_zero⟩
 simp (disch:=omega) only [go_sem]
 refine wWD_some rfl ?_
 obtain ⟨l,hl,rfl⟩:=valid_as hv
 have hll:l.length≤60:=by have:=len_enc l;omega
 have hta:=take_all (l.map (DV.int .i32)) l.length (by simp)
 have hrun:=runes_enc hl
 have hb1:(encS l).length≤70368744177664:=by omega
 have hm:parseM (encS l)=(match parseC sortR l with | some n=>(n,0) | none=>(zeroT,3)):=by
  rw [parseM,if_neg (by omega),if_neg (by rw [hv];simp),charsOf_enc hl]
 simp (disch:=omega) only [go_sem,hrun,hb1,List.length_map,hta,Nat.zero_add,Nat.le_refl]
 refine (choices (l.length+1) l l (by omega) hl (by omega)).at [_,_,_] [] [] rfl ?_ ?_
 ·intro v r' u' τ ho e'
  cases hch:chP sortR (l.length+1) l with
  | none=>rw [hch] at ho;cases ho
  | some y =>
   obtain ⟨n,r1⟩:=y
   rw [hch] at ho
   simp only [Option.map_some,Option.some.injEq,Prod.mk.injEq] at ho
   obtain ⟨rfl,rfl⟩:=ho
   have hna:nodeA n=.agg [.d (.int .i64 n.kind),.d (setD n.set),.d (.list 5 (n.sub.map nodeD)),.d (.int .i64 n.min),.d (.int .i64 n.max)]:=rfl
   simp (disch:=omega) only [go_sem,hna,apR]
   refine (peekL l u' r1 e' (by omega) [_,_,_] τ).at ?_
   cases r1 with
   | nil =>
    have e:parseM (encS l)=(n,0):=by rw [hm,parseC,hch]
    have hn0:¬ (0:Int)≤-1:=by omega
    rw [e]
    simp (disch:=omega) only [go_sem,List.headD_nil,hn0,boxP]
    refine ⟨by kernel_rfl,dcall_none _ _ ?_⟩
    simp (disch:=omega) only [go_sem]
    exact ⟨_,rfl,wkB5 (.d (.refl _)) (.d (.refl _)) (.d (.refl _)) (.d (.refl _)) (.d (.refl _))⟩
   | cons c t =>
    have e:parseM (encS l)=(zeroT,3):=by rw [hm,parseC,hch]
    have hc0:0≤c:=hl.nonneg c (by rw [e'];simp)
    rw [e]
    simp (disch:=omega) only [go_sem,List.headD_cons,hc0,boxP]
    refine ⟨by kernel_rfl,dcall_bad _ _ _ _ _ _ _ _ fun τ=>?_⟩
    simp (disch:=omega) only [go_sem]
    exact ⟨_,rfl,wk_zero⟩
 ·intro ho τ
  have e:parseM (encS l)=(zeroT,3):=by
   rw [hm,parseC]
   cases hch:chP sortR (l.length+1) l with
   | none=>rfl
   | some y=>rw [hch] at ho;cases ho
  rw [e]
  simp (disch:=omega) only [go_sem,apR]
  refine ⟨by kernel_rfl,dcall_bad _ _ _ _ _ _ _ _ fun τ=>?_⟩
  simp (disch:=omega) only [go_sem]
  exact ⟨_,rfl,wk_zero⟩
end Go.Proofs.YtngdkenddfdhaaaGreatDoor
set_option linter.unusedVariables false
set_option linter.unusedSimpArgs false
set_option maxRecDepth 100000
namespace Go.Proofs.YtngdkenddfdhaaaGreatDoor
open Go Nv Pat
def kA:Tree:=.mk 2 [(97,97)] [] 0 0
def kA2:Tree:=.mk 5 [] [kA] 2 (-1)
theorem kparse:parseM [97,123,50,44,125]=(kA2,0):=by kernel_rfl
theorem kchkA:chkE kA=0:=by kernel_rfl
theorem kchkA2:chkE kA2=0:=by kernel_rfl
def hintsL:Nat→Hint:=fun i=>if i=6 then .freeze else .no
@[go_sem] theorem hintsL_at (i:Nat):hintsL i=if i=6 then .freeze else .no:=nrfl rfl
theorem letter21 (c:Int):PCall Tryz.prog 21 [.d (.int .i32 c)] (.agg [.d (.int .i64 2),.d (.list 2 [.agg [.int .i32 c,.int .i32 c]]),.d .nilslice,.d (.int .i64 0),.d (.int .i64 0)]):=by
 refine fn21.pure hintsL (Nat.le_refl _) (by simp only [go_sem]) (by simp only [go_sem]) ?_
 simp (disch:=omega) only [go_sem,apR]
theorem ksz:sz kA=2∧sz kA2=8:=by constructor <;> rfl
theorem kthin:Thin kA∧Thin kA2:=by constructor <;> simp [Thin,ThinL,kA,kA2]
theorem kbuild {n:Tree} (hc:chkE n=0) (hs:sz n≤3000):buildE n=0∧buildA n=auA (buildM n):=by
 have e:buildE n=0:=by unfold buildE;rw [if_pos hc,if_neg (by unfold szP;omega)]
 exact ⟨e,if_pos e⟩
theorem built_len {n:Tree} (hc:chk n=0):(buildM n).arcs.length=sz n:=by
 have hwf:=chk_wf n hc
 rw [(build_is hwf).arcs,rowsA_len hwf]
theorem lang_A (w:List Int):Lang kA w↔w=[97]:=by
 unfold kA Lang
 rw [if_neg (by decide),if_pos rfl]
 constructor
 ·rintro ⟨c,rfl,h⟩
  simp [InSet] at h
  rw [show c=97 by omega]
 ·rintro rfl
  exact ⟨97,rfl,by simp [InSet]⟩
theorem lang_A2 (w:List Int):Lang kA2 w↔∃ n:Nat,2≤(n:Int)∧Pow (Lang kA) n w:=by
 have e:Lang kA2 w=(∃ n:Nat,(2:Int)≤n∧((-1:Int)<0∨(n:Int)≤-1)∧Pow (Lang kA) n w):=rfl
 rw [e]
 constructor
 ·rintro ⟨n,h1,_,h2⟩;exact ⟨n,h1,h2⟩
 ·rintro ⟨n,h1,h2⟩;exact ⟨n,h1,.inl (by decide),h2⟩
theorem pow_len:∀ (n:Nat) (w:List Int),Pow (Lang kA) n w→w.length=n
 | 0,w,h=>by
  have h:w=[]:=h
  subst h;rfl
 | n+1,w,h=>by
  obtain ⟨u,v,rfl,h1,h2⟩:=(pow_succ _ _ _).1 h
  rw [(lang_A u).1 h1,List.length_append,pow_len n v h2];simp;omega
theorem kc1:charsM [97]=[97]:=by kernel_rfl
theorem kc0:charsM []=[]:=by kernel_rfl
theorem kc3:charsM [97,97,97]=[97,97,97]:=by kernel_rfl
theorem kbA (s:List UInt8):nfaB (buildM kA) s=matchB kA s:=built_match (build_is (chk_wf kA (chkE_ok kchkA).2)) kchkA (by rw [ksz.1];omega) s
theorem kbA2 (s:List UInt8):nfaB (buildM kA2) s=matchB kA2 s:=built_match (build_is (chk_wf kA2 (chkE_ok kchkA2).2)) kchkA2 (by rw [ksz.2];omega) s
theorem km1:nfaB (buildM kA) [97]=true:=by
 rw [kbA,matchB_iff,kc1]
 exact ⟨kchkA,(lang_A _).2 rfl⟩
theorem km2:nfaB (buildM kA) []=false:=by
 cases h:nfaB (buildM kA) []
 ·rfl
 ·rw [kbA,matchB_iff,kc0,lang_A] at h;cases h.2
theorem km3:nfaB (buildM kA2) [97,97,97]=true:=by
 rw [kbA2,matchB_iff,kc3,lang_A2]
 exact ⟨kchkA2,3,by decide,[97],[97,97],rfl,(lang_A _).2 rfl,[97],[97],rfl,(lang_A _).2 rfl,[97],[],rfl,(lang_A _).2 rfl,rfl⟩
theorem km4:nfaB (buildM kA2) [97]=false:=by
 cases h:nfaB (buildM kA2) [97]
 ·rfl
 ·rw [kbA2,matchB_iff,kc1,lang_A2] at h
  obtain ⟨_,n,h1,h2⟩:=h
  have:=pow_len n _ h2
  simp at this;omega
theorem awake8:PCall Tryz.prog 8 [] (.d (.bool true)):=by
 refine fn8.pure noHint (Nat.le_refl _) (by simp only [go_sem]) (by simp only [go_sem]) ?_
 simp (disch:=omega) only [go_sem]
 refine (letter21 97).at ?_
 simp (disch:=omega) only [go_sem]
 obtain ⟨e1,e2⟩:=kbuild kchkA (by rw [ksz.1];omega)
 obtain ⟨e3,e4⟩:=kbuild kchkA2 (by rw [ksz.2];omega)
 have hb1:=build9 kA kthin.1 (by decide)
 have hb2:=build9 kA2 kthin.2 (by decide)
 rw [e1,e2] at hb1
 rw [e3,e4] at hb2
 refine PCall.at (PCall.wkb (args:=[.agg [.d (.int .i64 2),.d (.list 2 [.agg [.int .i32 97,.int .i32 97]]),.d .nilslice,.d (.int .i64 0),.d (.int .i64 0)]]) (args':=[nodeA kA]) hb1 rfl fun i hi=>?_) ?_
 ·match i,hi with
  | 0,_=>exact wkB5 (.d (.refl _)) (.d (.refl _)) (.d (.nil 5)) (.d (.refl _)) (.d (.refl _))
 simp (disch:=omega) only [go_sem,auA,auF,rowsD]
 refine (parse14 [97,123,50,44,125] (by decide)).at ?_
 rw [kparse]
 simp (disch:=omega) only [go_sem,nodeA,nodeF]
 refine hb2.at ?_
 have hl1:((arcsL (buildM kA).arcs).length:Int)=2:=by simp [arcsL,built_len (chkE_ok kchkA).2,ksz.1]
 have hl2:((arcsL (buildM kA2).arcs).length:Int)=8:=by simp [arcsL,built_len (chkE_ok kchkA2).2,ksz.2]
 have hf1:=build_fit (chkE_ok kchkA).2 kthin.1 (by rw [ksz.1];omega)
 have hf2:=build_fit (chkE_ok kchkA2).2 kthin.2 (by rw [ksz.2];omega)
 simp (disch:=omega) only [go_sem,auA,auF,rowsD,hl1,hl2]
 refine (match16 _ hf1 [97] (by decide)).at ?_
 simp (disch:=omega) only [go_sem,km1,auA,auF,rowsD]
 refine (match16 _ hf1 [] (by decide)).at ?_
 simp (disch:=omega) only [go_sem,km2,hl2,auA,auF,rowsD]
 refine (match16 _ hf2 [97,97,97] (by decide)).at ?_
 simp (disch:=omega) only [go_sem,km3,auA,auF,rowsD]
 refine (match16 _ hf2 [97] (by decide)).at ?_
 simp (disch:=omega) only [go_sem,km4]
end Go.Proofs.YtngdkenddfdhaaaGreatDoor
