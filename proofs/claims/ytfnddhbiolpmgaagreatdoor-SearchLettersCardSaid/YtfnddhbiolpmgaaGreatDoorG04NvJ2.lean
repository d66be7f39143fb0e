/- Part of a proof about the functions of this seat. -/
import Derived.Test.YtfnddhbiolpmgaaGreatDoorG03NvH
import Derived.Laws.Append
import Derived.Lib.AppendStr
import Derived.Lib.Builder
import Derived.Lib.UnsafeStr
/- append,make,copy;slices that are frozen,and nil slices that are taken over: soundness. -/



set_option linter.unusedVariables false
set_option linter.unusedSimpArgs false
namespace Nv
open Go
section
variable {P:Program} {ρ ρ':RHO} {σ σ':ST} {I I':Nat→Prop} {w w':World}
def elems (e:ET) (x:AV) (σ:ST):Option (List DV) :=
  match x with
  | .d (.list e' xs)=>if e'=e.n then some xs else none
  | .d .nilslice=>some []
  | .own b g off n=>match stGet σ b with
    | .arr g' e' xs=>if g=g'∧e'=e∧off+n≤xs.length then some ((xs.drop off).take n) else none
    | _=>none
  | _=>none
@[go_sem] theorem elems_list (e:Nat) (t:Nat) (xs:List DV) (σ:ST):elems ⟨e,t⟩ (.d (.list e xs)) σ=some xs:=by simp [elems]
@[go_sem] theorem elems_rown (e:ET) (b g off n:Nat) (σ:ST):elems e (.rown b g off n) σ=none:=nrfl rfl
@[go_sem] theorem elems_nil (e:ET) (σ:ST):elems e (.d .nilslice) σ=some []:=nrfl rfl
@[go_sem] theorem elems_own (e:ET) (b g off n:Nat) (σ:ST):elems e (.own b g off n) σ=match stGet σ b with
    | .arr g' e' xs=>if g=g'∧e'=e∧off+n≤xs.length then some ((xs.drop off).take n) else none
    | _=>none:=nrfl rfl
structure Elems (P:Program) (I:Nat→Prop) (w:World) (e:Nat) (v:Value) (xs:List DV) where
  sl:∃ p n cap,v=.slice p n cap∧n=xs.length∧n≤cap
  uni:∀ x,x∈xs→Uni e x
  run:∃ us:Nat→Value,(∀ (w':World) (m:Nat),w'.heap=w.heap→m≤xs.length→(Builtin.firstCells e m v).run P w'=.ok ((List.range (m * e)).map us).toArray w')∧∀ j c,(flat xs)[j]? = some c→VD I w c (us j)
structure ElemsX (P:Program) (I:Nat→Prop) (w:World) (e:Nat) (v:Value) (xs:List DV) where
  len:∀ w':World,(Builtin.lenOf v).run P w'=.ok xs.length w'
  uni:∀ x,x∈xs→Uni e x
  run:∃ us:Nat→Value,(∀ (w':World) (m:Nat),w'.heap=w.heap→m=xs.length→(Builtin.firstCells e m v).run P w'=.ok ((List.range (m * e)).map us).toArray w')∧∀ j c,(flat xs)[j]? = some c→VD I w c (us j)
theorem Elems.x {e:Nat} {v:Value} {xs:List DV} (h:Elems P I w e v xs):ElemsX P I w e v xs:=by
  obtain ⟨p,n,cap,rfl,rfl,_⟩:=h.sl
  obtain ⟨us,h1,h2⟩:=h.run
  exact ⟨fun w'=>by simp [Builtin.lenOf],h.uni,us,fun w' m hw hm=>h1 w' m hw (by omega),h2⟩
theorem cell_heap (h:w'.heap=w.heap) (a:Addr):w'.cell? a=w.cell? a:=by simp [World.cell?,h]
theorem run_firstCells {e m:Nat} {B off n cap:Nat} {us:Nat→Value} (h:∀ j,j<m * e→w.cell? ⟨B,off+j,none⟩=some (us j)) :
    (Builtin.firstCells e m (.slice (some ⟨B,off,none⟩) n cap)).run P w=.ok ((List.range (m * e)).map us).toArray w:=by
  simp only [Builtin.firstCells,loadCells]
  rw [run_loadCellsFrom B off _ 0 #[] us (fun j hj=>by simpa using h j hj)]
  simp
theorem elems_sound (hr:RS P ρ I w σ) {e:ET} {x:AV} {v:Value} {xs:List DV} (hx:V ρ σ I w x v) (h:elems e x σ=some xs):Elems P I w e v xs:=by
  have empty:∀ p:Option Addr,Elems P I w e (.slice p 0 0) []:=fun p =>
    ⟨⟨p,0,0,rfl,rfl,Nat.le_refl _⟩,by simp,fun _=>undef,fun w' m hw hm=>by
      simp only [List.length_nil,Nat.le_zero] at hm;subst hm
      cases p <;> simp [Builtin.firstCells,loadCells,loadCellsFrom],by simp [flat]⟩
  unfold elems at h
  split at h
  · split at h <;> try (cases h;done)
    rename_i e' ys he;subst he
    simp only [Option.some.injEq] at h;subst h
    cases hx.d_inv with
    | listNil=>exact empty _
    | list us q1 q2 q0 q3 q4 =>
      refine ⟨⟨_,_,_,rfl,q1,q2⟩,q0,us,fun w' m hw hm=>run_firstCells (fun j hj=>?_),q4⟩
      rw [cell_heap hw]
      have hlt:j<(flat ys).length:=by rw [flat_len q0];exact Nat.lt_of_lt_of_le hj (Nat.mul_le_mul_right _ hm)
      exact (q3 j _ (List.getElem?_eq_getElem hlt)).2
  · simp only [Option.some.injEq] at h;subst h
    cases hx.d_inv
    exact empty none
  · rename_i b g off n
    split at h <;> try (cases h;done)
    rename_i g' e' ys hst
    split at h <;> try (cases h;done)
    rename_i hc
    obtain ⟨rfl,rfl,hlen⟩:=hc
    simp only [Option.some.injEq] at h;subst h
    have hs:=stGet_some hst (by simp)
    cases hx with
    | ownOld k1 k2=>rw [hs] at k1;cases k1;exact absurd (k2 _ _ _ rfl) (by omega)
    | ownNil k1 k2=>simpa using empty _
    | own k1 k2 k3 k4 =>
      rw [hs] at k1;cases k1
      rename_i B cap
      obtain ⟨us,q1,q2,q3,q4,q5⟩:=hr.arr hs k2
      have hmem:∀ x,x∈(ys.drop off).take n→Uni e' x:=fun x hx=>q4 x (List.mem_of_mem_drop (List.mem_of_mem_take hx))
      have hln:((ys.drop off).take n).length=n:=by simp;omega
      have hcap:(ρ b).base+off * e'+n * e'≤us.size:=by
        have:(off+n) * e'≤(ρ b).cap * e':=Nat.mul_le_mul_right _ (by omega)
        rw [Nat.add_mul] at this;omega
      refine ⟨⟨_,_,_,rfl,hln.symm,k3⟩,hmem,fun j=>us.getD ((ρ b).base+off * e'+j) undef,fun w' m hw hm=>run_firstCells (fun j hj=>?_),fun j c hj=>?_⟩
      · rw [cell_heap hw]
        have:m * e'≤n * e':=Nat.mul_le_mul_right _ (by omega)
        exact cell_of_heap q1 (by omega)
      · rw [flat_take (fun x hx=>q4 x (List.mem_of_mem_drop hx)),flat_drop q4,List.getElem?_take] at hj
        split at hj
        · rw [List.getElem?_drop] at hj
          have:=q5 _ _ hj
          rwa [← Nat.add_assoc] at this
        · cases hj
  · cases h
def srcElems (d:TypeDesc) (e:ET) (x:AV) (σ:ST):Option (List DV) :=
  match d with
  | .slice _=>elems e x σ
  | .string=>match x with
    | .d (.str s)=>if e.n=1 then some (s.map fun b=>.int .u8 (b.toNat:Nat)) else none
    | _=>none
  | _=>none
@[go_sem] theorem srcElems_slice (t:TypeId) (e:ET) (x:AV) (σ:ST):srcElems (.slice t) e x σ=elems e x σ:=nrfl rfl
theorem srcElems_kind {xt:TypeId} {d:TypeDesc} {e:ET} {x:AV} {ys:List DV} (hd:P.underlying xt=some d) (h:srcElems d e x σ=some ys):∃ xe,P.underlying xt=some (.slice xe)∨P.underlying xt=some .string:=by
  cases d <;> simp only [srcElems] at h <;> try (cases h;done)
  · exact ⟨0,.inr hd⟩
  · rename_i xe;exact ⟨xe,.inl hd⟩
theorem srcElems_sound (hr:RS P ρ I w σ) {d:TypeDesc} {e:ET} {x:AV} {v:Value} {xs:List DV} (hx:V ρ σ I w x v) (h:srcElems d e x σ=some xs):ElemsX P I w e v xs:=by
  unfold srcElems at h
  split at h
  · exact (elems_sound (P:=P) hr hx h).x
  · split at h <;> try (cases h;done)
    rename_i s
    split at h <;> try (cases h;done)
    rename_i he
    simp only [Option.some.injEq] at h;subst h
    have:=hx.d_inv.str_inv;subst this
    have hfl:flat (s.map fun b=>DV.int .u8 (b.toNat:Nat))=s.map fun b=>DV.int .u8 (b.toNat:Nat):=by
      simp only [flat]
      clear hx
      induction s with
      | nil=>rfl
      | cons b s ih=>simp only [List.map_cons,List.flatMap_cons,ih];rfl
    refine ⟨fun w'=>?_,fun x hx=>?_,fun j=>.int .u8 ((s.getD j 0).toNat:Nat),fun w' m hw hm=>?_,fun j c hj=>?_⟩
    · simp [Builtin.lenOf];rfl
    · obtain ⟨b,_,rfl⟩:=List.mem_map.1 hx
      refine ⟨by rw [he];rfl,fun c hc=>?_⟩
      simp only [DV.cells,List.mem_singleton] at hc;subst hc;rfl
    · subst hm
      have h1:=Lib.run_firstCells_string (P:=P) w' e.n ⟨s.toArray⟩
      have h2:(⟨s.toArray⟩:ByteArray).size=(s.map fun b=>DV.int .u8 (b.toNat:Nat)).length:=by simp;rfl
      rw [h2] at h1
      rw [h1,he]
      congr 1
      simp only [Lib.strCells]
      congr 1
      apply List.ext_getElem
      · simp
      · intro i hi1 hi2
        simp at hi1
        simp [hi1]
    · rw [hfl,List.getElem?_map] at hj
      simp only [Option.map_eq_some_iff] at hj
      obtain ⟨b,hb,rfl⟩:=hj
      have:s.getD j 0=b:=by rw [List.getD_eq_getElem?_getD,hb];rfl
      show VD I w _ (Value.int .u8 ((s.getD j 0).toNat:Nat))
      rw [this];exact .int _ _
  · cases h
def rAppendR (P:Program) (el:TypeId) (s:AV) (ys:List DV) (σ:ST):Res :=
  match s with
  | .rown b g off n=>match stGet σ b with
    | .rows g' t' xs=>.need (g=g'∧t'=el∧P.cellsOf el=1∧off=0∧n=xs.length) (.need (0<P.bytesOf el∧(n+ys.length) * P.bytesOf el≤140737488355328)
        (.ok (.rown b (g+1) 0 (n+ys.length)) (stSet σ b (.rows (g+1) el (xs++(flat ys).map .d)))))
    | _=>.bad
  | _=>.bad
attribute [go_sem] rAppendR
def rAppend (P:Program) (t xt:TypeId) (s x:AV) (σ:ST):Res :=
  match P.underlying t,P.underlying xt with
  | some (.slice el),some d=>.need (0<P.cellsOf el∧(cellsV (zeroA P el)).map List.length=some (P.cellsOf el)) (match elems ⟨P.cellsOf el,el⟩ s σ,srcElems d ⟨P.cellsOf el,el⟩ x σ with
    | some xs,some ys=>.need (0<P.bytesOf el∧(xs.length+ys.length) * P.bytesOf el≤140737488355328) (match s with
      | .d .nilslice=>newArr σ (P.cellsOf el) el ys
      | .own b g off n=>.ok (.own b (g+1) 0 (xs.length+ys.length)) (stSet σ b (.arr (g+1) ⟨P.cellsOf el,el⟩ (xs++ys)))
      | _=>.bad)
    | none,some ys=>rAppendR P el s ys σ
    | _,_=>.bad)
  | _,_=>.bad
@[go_sem] theorem flat_nil:flat []=[]:=nrfl rfl
@[go_sem] theorem flat_cons (x:DV) (xs:List DV):flat (x::xs)=x.cells++flat xs:=nrfl rfl
def inPlace (P:Program) (w:World) (p:Option Addr) (o:Nat) (vs:List Value) (r:Value):Result Value :=
  match p with
  | some a=>((storeCells (a.add o) vs).run P w).andThen fun _ w'=>.ok r w'
  | none=>.ok r w
theorem VD.oneCell {c:DV} {v:Value} (h:VD I w c v) (ha:c.isAgg=false):v.oneCell'=true:=by
  cases h <;> first | rfl | simp [DV.isAgg] at ha
theorem run_appendC {t el xt xe e:Nat} {ts:Array TypeId} {ty:TypeId} (ht:P.underlying t=some (.slice el)) (hxt:P.underlying xt=some (.slice xe)∨P.underlying xt=some .string) (hts:ts[0]? = some t) (hts1:ts[1]? = some xt)
    (he:e=P.cellsOf el) (hz:0<e) {zv:Value} (hzv:∀ w:World,(zeroValue el).run P w=.ok zv w) (hzs:zv.cells.size=e)
    {p:Option Addr} {n cap:Nat} {vx:Value} {ys:List DV} {us:Nat→Value} (hus:∀ (w':World) (m:Nat),w'.heap=w.heap→m≤n→(Builtin.firstCells e m (.slice p n cap)).run P w'=.ok ((List.range (m * e)).map us).toArray w') (hx:ElemsX P I w e vx ys)
    (hby:0<P.bytesOf el) (hlim:(n+ys.length) * P.bytesOf el≤140737488355328) :
    (n+ys.length≤cap∧∃ us:Nat→Value,(∀ j c,(flat ys)[j]? = some c→VD I w c (us j)) ∧
      (Builtin.append_ ts ty #[.slice p n cap,vx]).run P w=inPlace P w p (n * e) ((List.range (ys.length * e)).map us) (.slice p (n+ys.length) cap)) ∨
    (cap<n+ys.length∧∃ cs d ncap,n+ys.length≤ncap∧cs.size=ncap * e∧(∀ j,j<n * e→cs.getD j undef=us j)∧(∀ j c,(flat ys)[j]? = some c→VD I w c (cs.getD (n * e+j) undef)) ∧
      (Builtin.append_ ts ty #[.slice p n cap,vx]).run P w=.ok (.slice (some ⟨w.heap.size,0,none⟩) (n+ys.length) ncap) (({ w with drawn:=d }:World).alloc (.cells cs el))):=by
  have hlx:=hx.len
  obtain ⟨ux,hux,huxv⟩:=hx.run
  have hsz:∀ w:World,(Go.sizeOf el).run P w=.ok e w:=fun w=>by rw [he];exact run_sizeOf_pos (by omega)
  have hinfo:∃ i,P.info? el=some i∧i.bytes=P.bytesOf el:=by
    cases hi:P.info? el with
    | none=>simp [Program.bytesOf,hi] at hby
    | some i=>exact ⟨i,rfl,by simp [Program.bytesOf,hi]⟩
  obtain ⟨i,hi,hib⟩:=hinfo
  have hti:∀ w:World,(typeInfo el).run P w=.ok i w:=fun w=>by simp [typeInfo,hi]
  by_cases hle:n+ys.length≤cap
  · left
    refine ⟨hle,ux,huxv,?_⟩
    have hsz':=hsz w
    have hux':=hux w ys.length rfl rfl
    cases p with
    | none=>rcases hxt with hxt | hxt <;> simp [inPlace,Builtin.append_,hts,hts1,run_underlying ht,run_underlying hxt,hsz',hlx,hle,hux']
    | some a=>rcases hxt with hxt | hxt <;> simp [inPlace,Builtin.append_,hts,hts1,run_underlying ht,run_underlying hxt,hsz',hlx,hle,hux']
  · right
    have hlt:cap<n+ys.length:=by omega
    have hgrow:=growslice_fits hlt hlim
    have hux':=hux { w with drawn:=w.drawn+1 } ys.length rfl rfl
    have hus':=hus { w with drawn:=w.drawn+1 } n rfl (Nat.le_refl _)
    let q:Question:=.appendCap (n+ys.length) cap el
    let ncap:=q.cut (w.tape w.drawn q)
    have hnc:n+ys.length≤ncap:=by simp [ncap,q,Question.cut]
    have hf:q.forced=false:=rfl
    let rest:=Builtin.zeroCells zv.cells (ncap - (n+ys.length))
    have hrest:rest.size=(ncap - (n+ys.length)) * e:=by simp [rest,Builtin.zeroCells,hzs]
    refine ⟨hlt,((List.range (n * e)).map us).toArray++((List.range (ys.length * e)).map ux).toArray++rest,w.drawn+1,ncap,hnc,?_,?_,?_,?_⟩
    · simp [hrest];rw [← Nat.add_mul,← Nat.add_mul];congr 1;omega
    · intro j hj
      simp only [Array.getD_eq_getD_getElem?]
      rw [Array.append_assoc,Array.getElem?_append_left (by simpa using hj)]
      simp [hj]
    · intro j c hj
      have hly:=flat_len hx.uni
      have hj2:j<ys.length * e:=by
        rcases Nat.lt_or_ge j (ys.length * e) with h' | h'
        · exact h'
        · rw [List.getElem?_eq_none (by omega)] at hj;cases hj
      have:=huxv _ c hj
      simp only [Array.getD_eq_getD_getElem?]
      rw [Array.append_assoc,Array.getElem?_append_right (by simp),Array.getElem?_append_left (by simpa using hj2)]
      simpa [hj2] using this
    · have hsz':=hsz w
      have hti':=hti w
      have hzv':=hzv { w with drawn:=w.drawn+1 }
      have hti2:=hti { w with drawn:=w.drawn+1 }
      have h0:¬ (i.bytes=0):=by omega
      have hbig:¬ (Builtin.nextslicecap (n+ys.length) cap * i.bytes > 2 ^ 48):=by rw [hib];omega
      have hq:(choose q).run P w=.ok ncap { w with drawn:=w.drawn+1 }:=by rw [run_choose,hf];rfl
      rcases hxt with hxt | hxt
      all_goals
       simp [Builtin.append_,hts,hts1,run_underlying ht,run_underlying hxt,hsz',hlx,hle,hti',h0,-run_choose]
       rw [if_neg (by omega)]
       rw [if_neg (show ¬ ((Question.appendCap (n+ys.length) cap el).forced=true) by simp [Question.forced])]
       have a1:(Builtin.firstCells e n (Value.slice p n cap)).run P w.drew=.ok ((List.range (n * e)).map us).toArray w.drew:=hus'
       have a2:(Builtin.firstCells e ys.length vx).run P w.drew=.ok ((List.range (ys.length * e)).map ux).toArray w.drew:=hux'
       rw [hti w.drew,Result.andThen_ok,a1,Result.andThen_ok,a2,Result.andThen_ok,hzv w.drew,Result.andThen_ok]
       simp [newRow,rest,ncap,q]
       rw [← Array.append_assoc]
       simp
theorem run_append {t el xt xe e:Nat} {ts:Array TypeId} {ty:TypeId} (ht:P.underlying t=some (.slice el)) (hxt:P.underlying xt=some (.slice xe)∨P.underlying xt=some .string) (hts:ts[0]? = some t) (hts1:ts[1]? = some xt)
    (he:e=P.cellsOf el) (hz:0<e) {zv:Value} (hzv:∀ w:World,(zeroValue el).run P w=.ok zv w) (hzs:zv.cells.size=e)
    {p:Option Addr} {n cap:Nat} {vx:Value} {xs ys:List DV} (hs:Elems P I w e (.slice p n cap) xs) (hx:ElemsX P I w e vx ys)
    (hby:0<P.bytesOf el) (hlim:(xs.length+ys.length) * P.bytesOf el≤140737488355328) :
    (xs.length+ys.length≤cap∧∃ us:Nat→Value,(∀ j c,(flat ys)[j]? = some c→VD I w c (us j)) ∧
      (Builtin.append_ ts ty #[.slice p n cap,vx]).run P w=inPlace P w p (n * e) ((List.range (ys.length * e)).map us) (.slice p (xs.length+ys.length) cap)) ∨
    (cap<xs.length+ys.length∧∃ us d ncap,xs.length+ys.length≤ncap∧us.size=ncap * e∧(∀ j c,(flat (xs++ys))[j]? = some c→VD I w c (us.getD j undef)) ∧
      (Builtin.append_ ts ty #[.slice p n cap,vx]).run P w=.ok (.slice (some ⟨w.heap.size,0,none⟩) (xs.length+ys.length) ncap) (({ w with drawn:=d }:World).alloc (.cells us el))):=by
  obtain ⟨p',n',cap',e1,hn,hcap⟩:=hs.sl
  cases e1
  subst hn
  obtain ⟨us,hus,husv⟩:=hs.run
  rcases run_appendC (ty:=ty) ht hxt hts hts1 he hz hzv hzs hus hx hby hlim with h | ⟨h1,cs,d,ncap,h2,h3,h4,h5,h6⟩
  · exact .inl h
  · refine .inr ⟨h1,cs,d,ncap,h2,h3,fun j c hj=>?_,h6⟩
    have hl:=flat_len hs.uni
    simp only [flat,List.flatMap_append] at hj hl
    rcases Nat.lt_or_ge j (xs.length * e) with h | h
    · rw [List.getElem?_append_left (by omega)] at hj
      rw [h4 j h];exact husv j c hj
    · rw [List.getElem?_append_right (by omega),hl] at hj
      have:=h5 _ c hj
      rwa [show xs.length * e+(j - xs.length * e)=j by omega] at this
theorem rAppendR_sound (hr:RS P ρ I w σ) {t el xt xe:Nat} {ty:TypeId} {ts:Array TypeId} {s:AV} {vs vx:Value} {ys:List DV} (ht:P.underlying t=some (.slice el)) (hxt:P.underlying xt=some (.slice xe)∨P.underlying xt=some .string)
    (hts:ts[0]? = some t) (hts1:ts[1]? = some xt) (hz:0<P.cellsOf el) {zv:Value} (hzv:∀ w:World,(zeroValue el).run P w=.ok zv w) (hzs:zv.cells.size=P.cellsOf el)
    (hs:V ρ σ I w s vs) (hx:ElemsX P I w (P.cellsOf el) vx ys):Eff P ρ σ I w (Builtin.append_ ts ty #[vs,vx]) (rAppendR P el s ys σ):=by
  unfold rAppendR
  split
  · rename_i b g off n
    split
    · rename_i g' t' xs hst
      have hsb:=stGet_some hst (by simp)
      refine .need fun ⟨hg,htt,hc1,hoff,hn⟩=>.need fun ⟨hby,hlim⟩=>?_
      have htt:=htt.symm;subst hg htt hoff hn
      have hblt:b<σ.length:=by rcases Nat.lt_or_ge b σ.length with h' | h';exact h';simp [List.getElem?_eq_none h'] at hsb
      cases hs with
      | rownOld k1 k2=>rw [hsb] at k1;cases k1;exact absurd k2 (not_oldR _ _ _)
      | rown k1 k2 k3 k4 =>
        rename_i B cap _ _
        obtain ⟨us,q1,q2,q3,q5⟩:=hr.rows hsb k2
        have hus:∀ (w':World) (m:Nat),w'.heap=w.heap→m≤xs.length→(Builtin.firstCells (P.cellsOf el) m (.slice (some ⟨B,(ρ b).base+0,none⟩) xs.length cap)).run P w'=.ok ((List.range (m * P.cellsOf el)).map fun j=>us.getD ((ρ b).base+j) undef).toArray w':=by
          intro w' m hw hm
          refine run_firstCells (fun j hj=>?_)
          rw [cell_heap hw]
          rw [hc1,Nat.mul_one] at hj
          exact cell_of_heap q1 (by omega)
        have hfl:(flat ys).length=ys.length:=by rw [flat_len hx.uni,hc1,Nat.mul_one]
        have hcmp:∀ p',Compat (.rows g el xs) (ρ b) (.rows (g+1) el (xs++(flat ys).map .d)) p':=fun p'=>.inr (by omega)
        have hset:(stSet σ b (.rows (g+1) el (xs++(flat ys).map .d)))[b]? = some (.rows (g+1) el (xs++(flat ys).map .d)):=by simp [stSet,hblt]
        intro R hR
        have fresh:∀ (w':World) (p':Place) (v:Value),Ext w w'→(∀ c,c<w.heap.size→(ρ b).blk≠some c→w'.heap[c]? = w.heap[c]?) →
            (∀ B',p'.blk=some B'→(ρ b).blk=some B'∨w.heap.size≤B') →
            (Step ρ I w σ (updR ρ b p') I w' (stSet σ b (.rows (g+1) el (xs++(flat ys).map .d)))→RB (updR ρ b p') (stSet σ b (.rows (g+1) el (xs++(flat ys).map .d))) I w' p' (.rows (g+1) el (xs++(flat ys).map .d))) →
            (V (updR ρ b p') (stSet σ b (.rows (g+1) el (xs++(flat ys).map .d))) I w' (.rown b (g+1) 0 (xs.length+ys.length)) v) →
            (Builtin.append_ ts ty #[.slice (some ⟨B,(ρ b).base+0,none⟩) xs.length cap,vx]).run P w=.ok v w' →
            ∃ v av w' ρ' I' σ',(Builtin.append_ ts ty #[.slice (some ⟨B,(ρ b).base+0,none⟩) xs.length cap,vx]).run P w=.ok v w'∧Step ρ I w σ ρ' I' w' σ'∧RS P ρ' I' w' σ'∧V ρ' σ' I' w' av v∧R av σ':=by
          intro w' p' v hsz hold hp hrb hv hrun
          have hstep:=step_updG (w':=w') hr hsb trivial p' (hcmp p') hsz hold hp
          exact ⟨v,_,w',_,I,_,hrun,hstep,rs_updG hr hsb trivial p' (hcmp p') hsz hold hp (hrb hstep),hv,hR⟩
        rcases run_appendC (ty:=ty) ht hxt hts hts1 rfl hz hzv hzs hus hx hby hlim with ⟨h1,ux,h2,h3⟩ | ⟨h1,cs,d,ncap,h2,h3,h4,h5,h6⟩
        · have hyl:((List.range (ys.length * P.cellsOf el)).map ux).length=ys.length:=by simp [hc1]
          have hone:∀ v,v∈(List.range (ys.length * P.cellsOf el)).map ux→v.oneCell'=true:=by
            intro v hv
            obtain ⟨j,hj,rfl⟩:=List.mem_map.1 hv
            rw [List.mem_range,hc1,Nat.mul_one] at hj
            have hlt:j<(flat ys).length:=by omega
            obtain ⟨c,hcc⟩:∃ c,(flat ys)[j]? = some c:=⟨_,List.getElem?_eq_getElem hlt⟩
            have hmem:=List.mem_of_getElem? hcc
            simp only [flat,List.mem_flatMap] at hmem
            obtain ⟨y,hy,hc⟩:=hmem
            exact (h2 j c hcc).oneCell ((hx.uni y hy).2 c hc)
          obtain ⟨w',r1,r2,r3,us',r4,r5,r6⟩:=run_storeCells (P:=P) (B:=B) ((List.range (ys.length * P.cellsOf el)).map ux) ((ρ b).base+0+xs.length * P.cellsOf el) 0 us w q1 (by rw [hyl,hc1];omega) hone
          simp only [inPlace,Addr.add_lit,r1,Result.andThen_ok] at h3
          refine fresh w' ⟨some B,(ρ b).base,cap⟩ _ (Ext.of (Nat.le_of_eq r2.1.symm) r2.2) (fun c hc hne=>r3 c (fun h=>hne (h ▸ k2))) (fun B' h=>by cases h;exact .inl k2) (fun hstep=>?_) ?_ h3
          · refine .rows rfl r4 (by show (ρ b).base+cap≤us'.size;omega) (by simpa [hfl] using h1) (fun j c hj=>?_)
            show V _ _ I w' c (us'.getD ((ρ b).base+j) undef)
            rw [r6,hyl,hc1]
            rcases Nat.lt_or_ge j xs.length with hj1 | hj1
            · rw [List.getElem?_append_left hj1] at hj
              rw [if_neg (by omega)]
              exact hstep.v hr (q5 j c hj)
            · rw [List.getElem?_append_right hj1,List.getElem?_map,Option.map_eq_some_iff] at hj
              obtain ⟨y,hy,rfl⟩:=hj
              have hj2:j - xs.length<ys.length:=by
                rcases Nat.lt_or_ge (j - xs.length) (flat ys).length with h' | h'
                · omega
                · rw [List.getElem?_eq_none h'] at hy;cases hy
              rw [if_pos (by omega)]
              have:=h2 _ y hy
              rw [show (ρ b).base+j - ((ρ b).base+0+xs.length * 1+0)=j - xs.length by omega]
              have e2:((List.range (ys.length * 1)).map ux).getD (j - xs.length) undef=ux (j - xs.length):=by simp [List.getD_eq_getElem?_getD,hj2]
              rw [e2]
              exact hstep.v hr (.d this)
          · have:=V.rown (ρ:=updR ρ b ⟨some B,(ρ b).base,cap⟩) (I:=I) (w:=w') (off:=0) (n:=xs.length+ys.length) (B:=B) (cap:=cap) hset (by simp) h1 (by simp)
            simpa using this
        · refine fresh (({ w with drawn:=d }:World).alloc (.cells cs el)) ⟨some w.heap.size,0,ncap⟩ _ (Ext.of (by rw [push_size];simp)) (fun c hc _=>push_old _ _ c hc) (fun B h=>by cases h;exact .inr (Nat.le_refl _)) (fun hstep=>?_) ?_ h6
          · refine .rows rfl (push_new ({ w with drawn:=d }:World) _) (by simp [h3,hc1]) (by simp [hfl];omega) (fun j c hj=>?_)
            show V _ _ I _ c (cs.getD (0+j) undef)
            rw [Nat.zero_add]
            rw [hc1] at h4 h5
            rcases Nat.lt_or_ge j xs.length with hj1 | hj1
            · rw [List.getElem?_append_left hj1] at hj
              rw [h4 j (by omega)]
              exact hstep.v hr (q5 j c hj)
            · rw [List.getElem?_append_right hj1,List.getElem?_map,Option.map_eq_some_iff] at hj
              obtain ⟨y,hy,rfl⟩:=hj
              have:=h5 (j - xs.length) y hy
              rw [show xs.length * 1+(j - xs.length)=j by omega] at this
              exact hstep.v hr (.d this)
          · have:=V.rown (ρ:=updR ρ b ⟨some w.heap.size,0,ncap⟩) (I:=I) (w:=({ w with drawn:=d }:World).alloc (.cells cs el)) (off:=0) (n:=xs.length+ys.length) (B:=w.heap.size) (cap:=ncap) hset (by simp) h2 (by simp)
            simpa using this
    · exact Eff.bad
  · exact Eff.bad
theorem rAppend_sound (hr:RS P ρ I w σ) (t xt ty:TypeId) (ts:Array TypeId) (s x:AV) (vs vx:Value) (hts:ts[0]? = some t) (hts1:ts[1]? = some xt) (hs:V ρ σ I w s vs) (hx:V ρ σ I w x vx) :
    Eff P ρ σ I w (Builtin.append_ ts ty #[vs,vx]) (rAppend P t xt s x σ):=by
  unfold rAppend
  split
  · rename_i el dx ht hxd
    refine .need fun ⟨hz,hzc⟩=>?_
    simp only [Option.map_eq_some_iff] at hzc
    obtain ⟨zcs,hzc1,hzc2⟩:=hzc
    have hzne:zeroA P el≠.any:=cellsV_any hzc1
    have hzrun:∃ zv,(∀ w:World,(zeroValue el).run P w=.ok zv w)∧zv.cells.size=P.cellsOf el:=by
      obtain ⟨zv,z1,z2⟩:=zero_run (P:=P) (ρ:=ρ) (σ:=σ) (I:=I) (w:=w) hzne
      obtain ⟨c1,_⟩:=cellsV_sound z2 hzc1
      refine ⟨zv,fun w'=>?_,by omega⟩
      obtain ⟨zv',z1',_⟩:=zero_run (P:=P) (ρ:=ρ) (σ:=σ) (I:=I) (w:=w') hzne
      have:zv'=zv:=by
        unfold zeroValue typeInfo at z1 z1'
        cases hi:P.info? el with
        | none=>simp [hi] at z1
        | some i=>cases hzz:i.zero <;> simp [hi,hzz] at z1 z1';rw [← z1,← z1']
      rw [← this];exact z1'
    obtain ⟨zv,hzv,hzs⟩:=hzrun
    split
    · rename_i xs ys he1 he2
      refine .need fun ⟨hby,hlim⟩=>?_
      have E1:=elems_sound (P:=P) hr hs he1
      have E2:=srcElems_sound (P:=P) hr hx he2
      obtain ⟨xe,hxt⟩:=srcElems_kind hxd he2
      split
      · -- a nil slice
        simp only [elems,Option.some.injEq] at he1;subst he1
        cases hs.d_inv
        rcases run_append (ty:=ty) ht hxt hts hts1 rfl hz hzv hzs E1 E2 hby hlim with ⟨h1,us,h2,h3⟩ | ⟨h1,us,d,ncap,h2,h3,h4,h5⟩
        · simp only [List.length_nil,Nat.zero_add,Nat.le_zero] at h1
          obtain rfl:ys=[]:=List.length_eq_zero_iff.1 h1
          intro R hR
          let p:Place:=⟨none,0,0⟩
          have hp:∀ B,p.blk=some B→w.heap.size≤B:=fun B hB=>by cases hB
          have hst:=step_push (w':=w) hr (.arr 0 ⟨P.cellsOf el,el⟩ []) p (Ext.of (Nat.le_refl _)) (fun _ _=>rfl) hp
          refine ⟨_,_,_,_,I,_,h3,hst,rs_push hr _ p (Ext.of (Nat.le_refl _)) (fun _ _=>rfl) hp (.arrNil rfl rfl),?_,hR⟩
          exact .ownNil (e:=⟨P.cellsOf el,el⟩) (xs:=[]) (by simp) (fun _ h=>by cases h)
        · simp only [List.length_nil,Nat.zero_add,List.nil_append] at *
          exact newArr_eff (el:=el) hr h5 ⟨d,rfl⟩ (by omega) h2 E2.uni h4
      · -- a slice of the call's own
        rename_i b g off n
        have he1':=he1
        simp only [elems] at he1
        split at he1 <;> try (cases he1;done)
        rename_i g' e' zs hst
        split at he1 <;> try (cases he1;done)
        rename_i hc
        obtain ⟨rfl,rfl,hlen⟩:=hc
        simp only [Option.some.injEq] at he1
        have hsb:=stGet_some hst (by simp)
        intro R hR
        have huni:∀ y,y∈xs++ys→Uni (P.cellsOf el) y:=fun y hy=>by
          rcases List.mem_append.1 hy with h | h
          · exact E1.uni y h
          · exact E2.uni y h
        have hblt:b<σ.length:=by rcases Nat.lt_or_ge b σ.length with h' | h';exact h';simp [List.getElem?_eq_none h'] at hsb
        have hcmp:∀ p',Compat (.arr g ⟨P.cellsOf el,el⟩ zs) (ρ b) (.arr (g+1) ⟨P.cellsOf el,el⟩ (xs++ys)) p':=fun p'=>.inr (by omega)
        have fresh:∀ (w':World) (p':Place) (v:Value),Ext w w'→(∀ c,c<w.heap.size→(ρ b).blk≠some c→w'.heap[c]? = w.heap[c]?) →
            (∀ B',p'.blk=some B'→(ρ b).blk=some B'∨w.heap.size≤B') →
            (Step ρ I w σ (updR ρ b p') I w' (stSet σ b (.arr (g+1) ⟨P.cellsOf el,el⟩ (xs++ys)))→RB (updR ρ b p') (stSet σ b (.arr (g+1) ⟨P.cellsOf el,el⟩ (xs++ys))) I w' p' (.arr (g+1) ⟨P.cellsOf el,el⟩ (xs++ys))) →
            (V (updR ρ b p') (stSet σ b (.arr (g+1) ⟨P.cellsOf el,el⟩ (xs++ys))) I w' (.own b (g+1) 0 (xs.length+ys.length)) v) →
            (Builtin.append_ ts ty #[vs,vx]).run P w=.ok v w'→∃ v av w' ρ' I' σ',(Builtin.append_ ts ty #[vs,vx]).run P w=.ok v w'∧Step ρ I w σ ρ' I' w' σ'∧RS P ρ' I' w' σ'∧V ρ' σ' I' w' av v∧R av σ':=by
          intro w' p' v hsz hold hp hrb hv hrun
          have hstep:=step_updG (w':=w') hr hsb trivial p' (hcmp p') hsz hold hp
          exact ⟨v,_,w',_,I,_,hrun,hstep,rs_updG hr hsb trivial p' (hcmp p') hsz hold hp (hrb hstep),hv,hR⟩
        have hset:(stSet σ b (.arr (g+1) ⟨P.cellsOf el,el⟩ (xs++ys)))[b]? = some (.arr (g+1) ⟨P.cellsOf el,el⟩ (xs++ys)):=by simp [stSet,hblt]
        obtain ⟨p,m,cap,hvs,hm,hcap⟩:=E1.sl
        subst hvs
        rcases run_append (ty:=ty) ht hxt hts hts1 rfl hz hzv hzs E1 E2 hby hlim with ⟨h1,us,h2,h3⟩ | ⟨h1,us,d,ncap,h2,h3,h4,h5⟩
        · -- in place
          have hnil:∀ q:Option Addr,(∀ a,q=some a→a.spot=none∧a.block<w.heap.size)→xs.length+ys.length=0→cap=0→(Builtin.append_ ts ty #[.slice p m cap,vx]).run P w=.ok (.slice q 0 0) w →
              ∃ v av w' ρ' I' σ',(Builtin.append_ ts ty #[.slice p m cap,vx]).run P w=.ok v w'∧Step ρ I w σ ρ' I' w' σ'∧RS P ρ' I' w' σ'∧V ρ' σ' I' w' av v∧R av σ':=by
            intro q hq h0 hc0 hrun
            have hx0:xs=[]:=List.length_eq_zero_iff.1 (by omega)
            have hy0:ys=[]:=List.length_eq_zero_iff.1 (by omega)
            refine fresh w ⟨none,0,0⟩ (.slice q 0 0) (Ext.of (Nat.le_refl _)) (fun _ _ _=>rfl) (fun B h=>by cases h) (fun _=>by rw [hx0,hy0];exact .arrNil rfl rfl) ?_ hrun
            rw [h0];exact .ownNil hset hq
          cases hs with
          | ownOld k1 k2=>rw [hsb] at k1;cases k1;exact absurd (k2 _ _ _ rfl) (by omega)
          | ownNil k1 k2 =>
            have h0:xs.length+ys.length=0:=by omega
            have hy0:ys=[]:=List.length_eq_zero_iff.1 (by omega)
            subst hy0
            refine hnil p k2 h0 rfl ?_
            rw [h3]
            cases p with
            | none=>simp only [inPlace,h0]
            | some a=>rw [h0];simp [inPlace,storeCells]
          | own k1 k2 k3 k4 =>
            rw [hsb] at k1;cases k1
            rename_i B
            obtain ⟨vs,q1,q2,q3,q4,q5⟩:=hr.arr hsb k2
            have hxs:xs.length=n:=by omega
            have hys:=flat_len E2.uni
            dsimp only at q2 hys
            have hyl:((List.range (ys.length * P.cellsOf el)).map us).length=ys.length * P.cellsOf el:=by simp
            have hbound:(ρ b).base+off * P.cellsOf el+cap * P.cellsOf el≤vs.size:=by
              have:(off+cap) * P.cellsOf el≤(ρ b).cap * P.cellsOf el:=Nat.mul_le_mul_right _ (by omega)
              rw [Nat.add_mul] at this;omega
            have hfit:n * P.cellsOf el+ys.length * P.cellsOf el≤cap * P.cellsOf el:=by
              rw [← Nat.add_mul];exact Nat.mul_le_mul_right _ (by omega)
            have hone:∀ v,v∈(List.range (ys.length * P.cellsOf el)).map us→v.oneCell'=true:=by
              intro v hv
              obtain ⟨j,hj,rfl⟩:=List.mem_map.1 hv
              simp only [List.mem_range] at hj
              have hlt:j<(flat ys).length:=by omega
              obtain ⟨c,hcc⟩:∃ c,(flat ys)[j]? = some c:=⟨_,List.getElem?_eq_getElem hlt⟩
              have hmem:=List.mem_of_getElem? hcc
              simp only [flat,List.mem_flatMap] at hmem
              obtain ⟨y,hy,hc⟩:=hmem
              exact (h2 j c hcc).oneCell ((E2.uni y hy).2 c hc)
            obtain ⟨w',r1,r2,r3,us',r4,r5,r6⟩:=run_storeCells (P:=P) (B:=B) ((List.range (ys.length * P.cellsOf el)).map us) ((ρ b).base+off * P.cellsOf el+n * P.cellsOf el) 0 vs w q1 (by rw [hyl];omega) hone
            simp only [inPlace,Addr.add_lit,r1,Result.andThen_ok] at h3
            refine fresh w' ⟨some B,(ρ b).base+off * P.cellsOf el,cap⟩ _ (Ext.of (Nat.le_of_eq r2.1.symm) r2.2) (fun c hc hne=>r3 c (fun h=>hne (h ▸ k2))) (fun B' h=>by cases h;exact .inl k2) (fun hstep=>?_) ?_ h3
            · refine .arr rfl r4 (by show (ρ b).base+off * P.cellsOf el+cap * P.cellsOf el≤us'.size;omega) (by simpa using h1) huni (fun j c hj=>?_)
              show VD I w' c (us'.getD ((ρ b).base+off * P.cellsOf el+j) undef)
              rw [r6,hyl]
              simp only [flat,List.flatMap_append] at hj
              have hxl:=flat_len E1.uni
              dsimp only at hxl
              simp only [flat] at hxl hys
              rcases Nat.lt_or_ge j (xs.length * P.cellsOf el) with hj1 | hj1
              · rw [List.getElem?_append_left (by omega)] at hj
                rw [if_neg (by rw [hxs] at hj1;omega)]
                have hfl:(flat zs)[off * P.cellsOf el+j]? = some c:=by
                  rw [← he1] at hj
                  have hf:flat ((zs.drop off).take n)=((flat zs).drop (off * P.cellsOf el)).take (n * P.cellsOf el):=by
                    rw [flat_take (fun x hx=>q4 x (List.mem_of_mem_drop hx)),flat_drop q4]
                  simp only [flat] at hf hj ⊢
                  rw [hf,List.getElem?_take] at hj
                  split at hj
                  · rwa [List.getElem?_drop] at hj
                  · cases hj
                have:=q5 _ c hfl
                rw [← Nat.add_assoc] at this
                exact hstep.vd hr this
              · rw [List.getElem?_append_right (by omega)] at hj
                have hj2:j - xs.length * P.cellsOf el<ys.length * P.cellsOf el:=by
                  rcases Nat.lt_or_ge (j - xs.length * P.cellsOf el) (ys.length * P.cellsOf el) with h' | h'
                  · exact h'
                  · rw [List.getElem?_eq_none (by omega)] at hj;cases hj
                rw [hxl] at hj
                rw [if_pos (by rw [hxs] at hj1 hj2;omega)]
                have:=h2 _ c hj
                have e1:(ρ b).base+off * P.cellsOf el+j - ((ρ b).base+off * P.cellsOf el+n * P.cellsOf el+0)=j - xs.length * P.cellsOf el:=by rw [hxs];omega
                rw [e1]
                have:VD I w c (((List.range (ys.length * P.cellsOf el)).map us).getD (j - xs.length * P.cellsOf el) undef):=by
                  simpa [List.getD_eq_getElem?_getD,hj2] using this
                exact hstep.vd hr this
            · have:=V.own (ρ:=updR ρ b ⟨some B,(ρ b).base+off * P.cellsOf el,cap⟩) (I:=I) (w:=w') (off:=0) (n:=xs.length+ys.length) (B:=B) (cap:=cap) hset (by simp) h1 (by simp)
              simpa using this
        · -- in a new block
          refine fresh (({ w with drawn:=d }:World).alloc (.cells us el)) ⟨some w.heap.size,0,ncap⟩ _ (Ext.of (by rw [push_size];simp)) (fun c hc _=>push_old _ _ c hc) (fun B h=>by cases h;exact .inr (Nat.le_refl _)) (fun hstep=>?_) ?_ h5
          · exact .arr rfl (push_new ({ w with drawn:=d }:World) _) (by simp [h3]) (by simp;omega) huni (fun j c hj=>hstep.vd hr (by simpa using h4 j c hj))
          · have:=V.own (ρ:=updR ρ b ⟨some w.heap.size,0,ncap⟩) (I:=I) (w:=({ w with drawn:=d }:World).alloc (.cells us el)) (off:=0) (n:=xs.length+ys.length) (B:=w.heap.size) (cap:=ncap) hset (by simp) h2 (by simp)
            simpa using this
      · exact Eff.bad
    · rename_i ys he1 he2
      obtain ⟨xe,hxt⟩:=srcElems_kind hxd he2
      exact rAppendR_sound hr ht hxt hts hts1 hz hzv hzs hs (srcElems_sound (P:=P) hr hx he2)
    · exact Eff.bad
  · exact Eff.bad
end
end Nv
/- make,copy,freezing;min and max;the table of all operations: soundness. -/

set_option linter.unusedVariables false
set_option linter.unusedSimpArgs false
namespace Nv
open Go
section
variable {P:Program} {ρ ρ':RHO} {σ σ':ST} {I I':Nat→Prop} {w w':World}
/- make -/
def rMake (P:Program) (t:TypeId) (l c:AV) (σ:ST):Res :=
 match P.underlying t,l,c,toD (match P.underlying t with | some (.slice el)=>zeroA P el | _=>.any) with
 | some (.slice el),.d (.int _ l),.d (.int _ c),some z =>
  .need (0<P.cellsOf el∧z.cells.length=P.cellsOf el∧0<P.bytesOf el) (.need (0≤l∧l≤c∧c * P.bytesOf el≤140737488355328) (newArr σ (P.cellsOf el) el (List.replicate l.toNat z)))
 | _,_,_,_=>.bad
theorem wrap_id {n:Int} (h1:-9223372036854775808≤n) (h2:n<9223372036854775808):IntKind.i64.wrap n=n:=by
 have e1:(2:Int) ^ 64=18446744073709551616:=by decide
 have e2:(2:Int) ^ (64 - 1)=9223372036854775808:=by decide
 simp only [IntKind.wrap,IntKind.bits,IntKind.signed,Bool.true_and,e1,e2,decide_eq_true_eq,ge_iff_le]
 split <;> omega
theorem flat_replicate (n:Nat) (z:DV) (j:Nat) (h:0<z.cells.length):(flat (List.replicate n z))[j]? = if j<n * z.cells.length then z.cells[j % z.cells.length]? else none:=by
 induction n generalizing j with
 | zero=>simp [flat]
 | succ n ih =>
  simp only [flat,List.replicate_succ,List.flatMap_cons] at ih ⊢
  have e:(n+1) * z.cells.length=z.cells.length+n * z.cells.length:=by rw [Nat.add_mul];omega
  rcases Nat.lt_or_ge j z.cells.length with hj | hj
  ·rw [List.getElem?_append_left hj,if_pos (by omega),Nat.mod_eq_of_lt hj]
  ·rw [List.getElem?_append_right hj,ih]
   have e2:j % z.cells.length=(j - z.cells.length) % z.cells.length:=by
    rw [Nat.mod_eq_sub_mod hj]
   by_cases hc:j - z.cells.length<n * z.cells.length
   ·rw [if_pos hc,if_pos (by omega),e2]
   ·rw [if_neg hc,if_neg (by omega)]
theorem rMake_sound (hr:RS P ρ I w σ) (t:TypeId) (l c:AV) (vl vc:Value) (hl:V ρ σ I w l vl) (hc:V ρ σ I w c vc):Eff P ρ σ I w (Instr.makeSlice t vl vc) (rMake P t l c σ):=by
 unfold rMake
 split
 ·rename_i el k l' k' c' z hu hz
  simp only [hu] at hz
  rw [hl.d_inv.int_inv,hc.d_inv.int_inv]
  refine .need fun ⟨h1,h2,h3⟩=>.need fun ⟨h4,h5,h6⟩=>?_
  have hza:zeroA P el≠.any:=by intro h;rw [h] at hz;simp [toD] at hz
  obtain ⟨zv,z1,z2⟩:=zero_run (P:=P) (ρ:=ρ) (σ:=σ) (I:=I) (w:=w) hza
  obtain ⟨d1,d2,d3⟩:=toD_cells z2 hz
  have hinfo:∃ i,P.info? el=some i∧i.bytes=P.bytesOf el:=by
   cases hi:P.info? el with
   | none=>simp [Program.bytesOf,hi] at h3
   | some i=>exact ⟨i,rfl,by simp [Program.bytesOf,hi]⟩
  obtain ⟨i,hi,hib⟩:=hinfo
  have hti:(typeInfo el).run P w=.ok i w:=by simp [typeInfo,hi]
  have hcb:c'≤c' * (P.bytesOf el:Int):=by
   have:c' * 1≤c' * (P.bytesOf el:Int):=Int.mul_le_mul_of_nonneg_left (by omega) (by omega)
   omega
  have wl:IntKind.i64.wrap l'=l':=wrap_id (by omega) (by omega)
  have wc:IntKind.i64.wrap c'=c':=wrap_id (by omega) (by omega)
  have ht1:¬ (c'<0∨(2:Int) ^ 48<(i.bytes:Int) * c'):=by
   rw [hib,Int.mul_comm];omega
  obtain ⟨n,hn⟩:∃ n,n=c'.toNat * P.cellsOf el:=⟨_,rfl⟩
  let zero:Array Value:=if n=0 then #[] else zv.cells
  let us:Array Value:=(Array.range n).map (zero[· % zero.size]!)
  have hrun:(Instr.makeSlice t (.int k l') (.int k' c')).run P w=.ok (.slice (some ⟨w.heap.size,0,none⟩) l'.toNat c'.toNat) (w.alloc (.cells us el)):=by
   have hcond:((decide (c'<0) || decide ((i.bytes:Int) * c' > 2 ^ 48)) || decide (l'<0) || decide (l' > c'))=false:=by
    simp only [Bool.or_eq_false_iff,decide_eq_false_iff_not]
    refine ⟨⟨⟨fun h=>ht1 (.inl h),fun h=>ht1 (.inr h)⟩,by omega⟩,by omega⟩
   by_cases h0:n=0
   ·have e1:us=(Array.range (c'.toNat * P.cellsOf el)).map (fun x=>(#[]:Array Value)[x % (#[]:Array Value).size]!):=by simp only [us,zero,h0,if_true];rw [← hn,h0]
    simp only [Instr.makeSlice,Sem.run_bind,run_underlying hu,Result.andThen_ok,asInt,asIntOf,Sem.run_pure,hti,wl,wc,hcond,Sem.run_ite,Bool.false_eq_true,if_false,run_askRoom,run_sizeOf_pos h1]
    rw [if_pos (show c'.toNat * P.cellsOf el=0 by omega)]
    rw [← e1];simp [newRow]
   ·have e1:us=(Array.range (c'.toNat * P.cellsOf el)).map (fun x=>zv.cells[x % zv.cells.size]!):=by simp only [us,zero,h0,if_false];rw [← hn]
    simp only [Instr.makeSlice,Sem.run_bind,run_underlying hu,Result.andThen_ok,asInt,asIntOf,Sem.run_pure,hti,wl,wc,hcond,Sem.run_ite,Bool.false_eq_true,if_false,run_askRoom,run_sizeOf_pos h1]
    rw [if_neg (show ¬ c'.toNat * P.cellsOf el=0 by omega)]
    simp only [z1,Result.andThen_ok]
    rw [← e1];simp [newRow]
  have hrun':(Instr.makeSlice t (.int k l') (.int k' c')).run P w=.ok (.slice (some ⟨w.heap.size,0,none⟩) (List.replicate l'.toNat z).length c'.toNat) (w.alloc (.cells us el)):=by simpa using hrun
  refine newArr_eff (el:=el) (us:=us) (cap:=c'.toNat) hr hrun' ⟨w.drawn,rfl⟩ (by simp [us,hn]) (by simp;omega) (fun x hx=>?_) (fun j cc hj=>?_)
  ·rw [List.eq_of_mem_replicate hx];exact ⟨h2,toD_plain hz⟩
  ·rw [flat_replicate _ _ _ (by omega)] at hj
   split at hj
   ·rename_i hlt
    rw [h2] at hlt hj
    have hjn:j<n:=by
     have:l'.toNat * P.cellsOf el≤c'.toNat * P.cellsOf el:=Nat.mul_le_mul_right _ (by omega)
     omega
    have hn0:n≠0:=by omega
    have:=d2 _ cc hj
    have e:us.getD j undef=zv.cells.getD (j % P.cellsOf el) undef:=by
     have hm:j % P.cellsOf el<zv.cells.size:=by rw [← d1,h2];exact Nat.mod_lt _ h1
     simp only [us,zero,hn0,if_false,Array.getD_eq_getD_getElem?]
     rw [show zv.cells.size=P.cellsOf el by omega]
     simp [hjn,getElem!_def,hm]
    rw [e];exact this
   ·cases hj
 ·exact Eff.bad
/- freezing: a slice of the call's own becomes data -/
def rFreeze (x:AV) (σ:ST):Res :=
 match x with
 | .own b g off n=>match stGet σ b with
  | .arr g' e xs=>.need (g=g'∧off+n≤xs.length) (.ok (.d (.list e ((xs.drop off).take n))) (stSet σ b .dead))
  | _=>.bad
 | .d .nilslice=>.ok (.d .nilslice) σ
 | .d (.list e xs)=>.ok (.d (.list e xs)) σ
 | .map b=>match stGet σ b with
  | .map es=>.ok (.d (.map es)) (stSet σ b .dead)
  | _=>.bad
 | .d (.map es)=>.ok (.d (.map es)) σ
 | _=>.bad
attribute [go_sem] rFreeze
theorem kill_block (hr:RS P ρ I w σ) {b:Nat} {blk:Blk} (hsb:σ[b]? = some blk) (hlv:blk.live) (hcp:Compat blk (ρ b) .dead (ρ b)) :
  Step ρ I w σ ρ (fun B=>I B∨(ρ b).blk=some B) w (stSet σ b .dead)∧RS P ρ (fun B=>I B∨(ρ b).blk=some B) w (stSet σ b .dead):=by
 have hblt:b<σ.length:=by rcases Nat.lt_or_ge b σ.length with h' | h';exact h';simp [List.getElem?_eq_none h'] at hsb
 let I':Nat→Prop:=fun B=>I B∨(ρ b).blk=some B
 have hstep:Step ρ I w σ ρ I' w (stSet σ b .dead):=by
  refine ⟨fun _ _ _=>rfl,fun _ h=>.inl h,fun B h=>h.elim .inl (fun h=>.inr (.inl ⟨b,_,hsb,hlv,h⟩)),fun B h=>?_,Nat.le_refl _,fun i bl h=>?_,Around.refl w⟩
  ·obtain ⟨i,bl,h1,h2,h3⟩:=h
   by_cases hi:i=b
   ·subst hi;simp [stSet,hblt] at h1;subst h1;exact h2.elim
   ·rw [stSet,List.getElem?_set_ne (by omega)] at h1;exact .inl ⟨i,bl,h1,h2,h3⟩
  ·by_cases hi:i=b
   ·subst hi;rw [hsb] at h;cases h;exact ⟨.dead,by simp [stSet,hblt],hcp⟩
   ·exact ⟨bl,by rw [stSet,List.getElem?_set_ne (by omega)];exact h,Compat.refl _ _⟩
 refine ⟨hstep,⟨fun i bl h=>?_,fun i j bi bj B hi hj li lj hBi hBj=>?_,fun B hl hI=>?_,fun B hI=>?_,hstep.tabs hr⟩⟩
 ·by_cases hi:i=b
  ·subst hi;simp [stSet,hblt] at h;subst h;exact .dead
  ·rw [stSet,List.getElem?_set_ne (by omega)] at h
   exact RB.step hr hstep (fun _ _=>rfl) (hr.blk i bl h)
 ·by_cases hi':i=b
  ·subst hi';simp [stSet,hblt] at hi;subst hi;exact li.elim
  ·by_cases hj':j=b
   ·subst hj';simp [stSet,hblt] at hj;subst hj;exact lj.elim
   ·rw [stSet,List.getElem?_set_ne (by omega)] at hi hj
    exact hr.inj i j bi bj B hi hj li lj hBi hBj
 ·obtain ⟨i,bl,h1,h2,h3⟩:=hl
  by_cases hi:i=b
  ·subst hi;simp [stSet,hblt] at h1;subst h1;exact h2.elim
  ·rw [stSet,List.getElem?_set_ne (by omega)] at h1
   rcases hI with hI | hI
   ·exact hr.sep B ⟨i,bl,h1,h2,h3⟩ hI
   ·exact hi (hr.inj i b bl _ B h1 hsb h2 hlv h3 hI)
 ·rcases hI with hI | hI
  ·exact hr.bound B hI
  ·exact lives_heap hr ⟨b,_,hsb,hlv,hI⟩
theorem rFreeze_sound (hr:RS P ρ I w σ) (x:AV) (v:Value) (hx:V ρ σ I w x v) {s:Sem Value} (hs:s.run P w=.ok v w):Eff P ρ σ I w s (rFreeze x σ):=by
 unfold rFreeze
 split
 ·rename_i b g off n
  split
  ·rename_i g' e xs hst
   have hsb:=stGet_some hst (by simp)
   refine .need fun ⟨hg,hlen⟩=>?_
   subst hg
   have hblt:b<σ.length:=by rcases Nat.lt_or_ge b σ.length with h' | h';exact h';simp [List.getElem?_eq_none h'] at hsb
   intro R hR
   let I':Nat→Prop:=fun B=>I B∨(ρ b).blk=some B
   have hstep:Step ρ I w σ ρ I' w (stSet σ b .dead):=by
    refine ⟨fun _ _ _=>rfl,fun _ h=>.inl h,fun B h=>h.elim .inl (fun h=>.inr (.inl ⟨b,_,hsb,trivial,h⟩)),fun B h=>?_,Nat.le_refl _,fun i bl h=>?_,Around.refl w⟩
    ·obtain ⟨i,bl,h1,h2,h3⟩:=h
     by_cases hi:i=b
     ·subst hi;simp [stSet,hblt] at h1;subst h1;exact h2.elim
     ·rw [stSet,List.getElem?_set_ne (by omega)] at h1;exact .inl ⟨i,bl,h1,h2,h3⟩
    ·by_cases hi:i=b
     ·subst hi;rw [hsb] at h;cases h;exact ⟨.dead,by simp [stSet,hblt],trivial⟩
     ·exact ⟨bl,by rw [stSet,List.getElem?_set_ne (by omega)];exact h,Compat.refl _ _⟩
   have hrs:RS P ρ I' w (stSet σ b .dead):=by
    refine ⟨fun i bl h=>?_,fun i j bi bj B hi hj li lj hBi hBj=>?_,fun B hl hI=>?_,fun B hI=>?_,hstep.tabs hr⟩
    ·by_cases hi:i=b
     ·subst hi;simp [stSet,hblt] at h;subst h;exact .dead
     ·rw [stSet,List.getElem?_set_ne (by omega)] at h
      exact RB.step hr hstep (fun _ _=>rfl) (hr.blk i bl h)
    ·by_cases hi':i=b
     ·subst hi';simp [stSet,hblt] at hi;subst hi;exact li.elim
     ·by_cases hj':j=b
      ·subst hj';simp [stSet,hblt] at hj;subst hj;exact lj.elim
      ·rw [stSet,List.getElem?_set_ne (by omega)] at hi hj
       exact hr.inj i j bi bj B hi hj li lj hBi hBj
    ·obtain ⟨i,bl,h1,h2,h3⟩:=hl
     by_cases hi:i=b
     ·subst hi;simp [stSet,hblt] at h1;subst h1;exact h2.elim
     ·rw [stSet,List.getElem?_set_ne (by omega)] at h1
      rcases hI with hI | hI
      ·exact hr.sep B ⟨i,bl,h1,h2,h3⟩ hI
      ·exact hi (hr.inj i b bl _ B h1 hsb h2 trivial h3 hI)
    ·rcases hI with hI | hI
     ·exact hr.bound B hI
     ·exact lives_heap hr ⟨b,_,hsb,trivial,hI⟩
   refine ⟨v,_,w,ρ,I',_,hs,hstep,hrs,.d ?_,hR⟩
   cases hx with
   | ownOld k1 k2=>rw [hsb] at k1;cases k1;exact absurd (k2 _ _ _ rfl) (by omega)
   | @ownNil _ _ _ _ _ p k1 k2 =>
    simp only [List.take_zero]
    cases p with
    | none=>exact .listNil _ _
    | some a =>
     obtain ⟨B,o,sp⟩:=a
     have:=(k2 _ rfl).1
     simp only at this
     subst this
     exact .list (fun _=>undef) rfl (Nat.le_refl _) (by simp) (by simp [flat]) (by simp [flat])
   | own k1 k2 k3 k4 =>
    rw [hsb] at k1;cases k1
    rename_i B cap
    obtain ⟨us,q1,q2,q3,q4,q5⟩:=hr.arr hsb k2
    have hln:((xs.drop off).take n).length=n:=by simp;omega
    have hget:∀ j c,(flat ((xs.drop off).take n))[j]? = some c→(flat xs)[off * e+j]? = some c∧j<n * e:=by
     intro j c hj
     rw [flat_take (fun x hx=>q4 x (List.mem_of_mem_drop hx)),flat_drop q4,List.getElem?_take] at hj
     split at hj
     ·rename_i hlt;rw [List.getElem?_drop] at hj;exact ⟨hj,hlt⟩
     ·cases hj
    refine .list (fun j=>us.getD ((ρ b).base+off * e+j) undef) hln.symm k3 (fun x hx=>q4 x (List.mem_of_mem_drop (List.mem_of_mem_take hx))) (fun j c hj=>?_) (fun j c hj=>?_)
    ·obtain ⟨h1,h2⟩:=hget j c hj
     refine ⟨.inr k2,cell_of_heap q1 ?_⟩
     have:(off+n) * e≤(ρ b).cap * e:=Nat.mul_le_mul_right _ (by omega)
     rw [Nat.add_mul] at this;omega
    ·obtain ⟨h1,h2⟩:=hget j c hj
     have:=q5 _ _ h1
     rw [← Nat.add_assoc] at this
     exact hstep.vd hr this
  ·exact Eff.bad
 ·exact Pev.eff hr (.ok hs hx)
 ·exact Pev.eff hr (.ok hs hx)
 ·rename_i b
  split
  ·rename_i es hst
   have hsb:=stGet_some hst (by simp)
   intro R hR
   obtain ⟨hstep,hrs⟩:=kill_block hr hsb trivial trivial
   cases hx with
   | mapOld p k1=>rw [hsb] at k1;cases k1
   | map k1 k2 =>
    rw [hsb] at k1;cases k1
    rename_i B
    have hrb:=hr.blk b _ hsb
    cases hrb with | @map _ _ clock ents h1 h2 h3 h4 =>
    rw [k2] at h1;cases h1
    refine ⟨_,_,w,ρ,_,_,hs,hstep,hrs,.d (.map (fun j=>(ents.getD j default).key) (fun j=>(ents.getD j default).val) (.inr k2) h2 h3 (fun j hj=>?_) (fun j y hj=>?_) (fun j y hj=>?_)),hR⟩
    ·refine ⟨ents.getD j default,?_,rfl,rfl⟩
     have:j<ents.size:=by omega
     simp [this]
    ·obtain ⟨e,q1,q2,q3⟩:=h4 j y hj
     simp only [Array.getD_eq_getD_getElem?,q1,Option.getD_some]
     exact hstep.vd hr q2
    ·obtain ⟨e,q1,q2,q3⟩:=h4 j y hj
     simp only [Array.getD_eq_getD_getElem?,q1,Option.getD_some]
     exact hstep.vd hr q3
  ·exact Eff.bad
 ·exact Pev.eff hr (.ok hs hx)
 ·exact Eff.bad
/- a nil slice that is taken over avl one of the call's own -/
def rNilOwn (e:ET) (x:AV) (σ:ST):Res :=
 match x with
 | .d .nilslice=>.ok (.own σ.length 0 0 0) (σ++[.arr 0 e []])
 | .own b g off n=>.ok (.own b g off n) σ
 | _=>.bad
attribute [go_sem] rNilOwn
theorem rNilOwn_sound (hr:RS P ρ I w σ) (e:ET) (x:AV) (v:Value) (hx:V ρ σ I w x v) {s:Sem Value} (hs:s.run P w=.ok v w):Eff P ρ σ I w s (rNilOwn e x σ):=by
 unfold rNilOwn
 split
 ·cases hx.d_inv
  intro R hR
  let p:Place:=⟨none,0,0⟩
  have hp:∀ B,p.blk=some B→w.heap.size≤B:=fun B hB=>by cases hB
  have hst:=step_push (w':=w) hr (.arr 0 e []) p (Ext.of (Nat.le_refl _)) (fun _ _=>rfl) hp
  exact ⟨_,_,w,_,I,_,hs,hst,rs_push hr _ p (Ext.of (Nat.le_refl _)) (fun _ _=>rfl) hp (.arrNil rfl rfl),.ownNil (e:=e) (xs:=[]) (by simp) (fun _ h=>by cases h),hR⟩
 ·exact fun R hR=>⟨v,_,w,ρ,I,σ,hs,Step.refl _ _ _ _,hr,hx,hR⟩
 ·exact Eff.bad
/- a nil slice avl a list without elements -/
def rNilList (e:Nat) (x:AV) (σ:ST):Res :=
 match x with
 | .d .nilslice=>.ok (.d (.list e [])) σ
 | .own b g off n=>rFreeze (.own b g off n) σ
 | x=>.ok x σ
attribute [go_sem] rNilList
theorem rNilList_sound (hr:RS P ρ I w σ) (e:Nat) (x:AV) (v:Value) (hx:V ρ σ I w x v) {s:Sem Value} (hs:s.run P w=.ok v w):Eff P ρ σ I w s (rNilList e x σ):=by
 unfold rNilList
 split
 ·cases hx.d_inv;exact Pev.eff hr (.ok hs (.d (.listNil _ _)))
 ·exact rFreeze_sound hr _ _ hx hs
 ·exact Pev.eff hr (.ok hs hx)
theorem rNil_sound (x:AV) (v:Value) (hx:V ρ σ I w x v) (h:rNil x σ≠.bad):rNil x σ=.ok x σ∧v≠.pointer none∧v≠.nilIface∧v≠.nilFunc∧∀ n f c,v≠.func (.method n) f c:=by
 unfold rNil at h ⊢
 split at h
 ·refine ⟨rfl,?_⟩;cases hx;simp
 ·refine ⟨rfl,?_⟩;cases hx;simp
 ·refine ⟨rfl,?_⟩;cases hx.d_inv;simp
 ·refine ⟨rfl,?_⟩;cases hx;simp
 ·refine ⟨rfl,?_⟩;cases hx.d_inv;simp
 ·refine ⟨rfl,?_⟩;cases hx;simp
 ·exact absurd rfl h
end
end Nv
/- Pointers turned to pointers of no type and back,and the address of a row's first element: soundness. -/



set_option linter.unusedVariables false
set_option linter.unusedSimpArgs false
namespace Nv
open Go
section
variable {P:Program} {ρ ρ':RHO} {σ σ':ST} {I I':Nat→Prop} {w w':World}
theorem Step.more (hsz:Ext w w') (h:∀ b,b<w.heap.size→w'.heap[b]? = w.heap[b]?):Step ρ I w σ ρ I w' σ :=
 ⟨fun b hb _=>h b hb,fun _ h=>h,fun _ h=>.inl h,fun _ h=>.inl h,hsz.size,fun b blk h=>⟨blk,h,Compat.refl _ _⟩,hsz.env⟩
theorem lt_of_heap {b:Nat} {o:Obj} (h:w.heap[b]? = some o):b<w.heap.size:=(Array.getElem?_eq_some_iff.1 h).1
theorem RS.more (hr:RS P ρ I w σ) (hsz:Ext w w') (h:∀ b,b<w.heap.size→w'.heap[b]? = w.heap[b]?):RS P ρ I w' σ:=by
 have hs:Step ρ I w σ ρ I w' σ:=Step.more hsz h
 refine ⟨fun i blk hi=>?_,hr.inj,hr.sep,fun B hB=>Nat.lt_of_lt_of_le (hr.bound B hB) hsz.size,hs.tabs hr⟩
 have hb:=hr.blk i blk hi
 cases hb with
 | box h1 h2 h3 h4=>exact .box h1 (by rw [h _ (lt_of_heap h2)];exact h2) h3 (fun j c hj=>hs.v hr (h4 j c hj))
 | arrNil h1 h2=>exact .arrNil h1 h2
 | map h1 h2 h3 h4=>exact .map h1 (by rw [h _ (lt_of_heap h2)];exact h2) h3 (fun j y hj=>let ⟨e,k1,k2,k3⟩:=h4 j y hj;⟨e,k1,hs.vd hr k2,hs.vd hr k3⟩)
 | iter h1 h2=>exact .iter h1 (by rw [h _ (lt_of_heap h2)];exact h2)
 | arr h1 h2 h3 h4 h5 h6=>exact .arr h1 (by rw [h _ (lt_of_heap h2)];exact h2) h3 h4 h5 (fun j c hj=>hs.vd hr (h6 j c hj))
 | rows h1 h2 h3 h4 h5=>exact .rows h1 (by rw [h _ (lt_of_heap h2)];exact h2) h3 h4 (fun j c hj=>hs.v hr (h5 j c hj))
 | dead=>exact .dead
def liesB (P:Program) (e n o u:Nat):Bool:=liesAt P P.depth e (n / P.cellsOf e) o u 1
def rConvU (P:Program) (s d:TypeId) (b o:Nat) (σ:ST):Res :=
 match P.underlying s,P.underlying d with
 | some (.pointer t),some .unsafePointer=>match stGet σ b with
  | .box e cs=>.need (0<P.cellsOf t∧o<cs.length) (.ok (.ptr b o) σ)
  | _=>.bad
 | some .unsafePointer,some (.pointer u)=>match stGet σ b with
  | .box e cs=>.need (0<P.cellsOf u∧liesB P e cs.length o u=true) (.ok (.ptr b o) σ)
  | _=>.bad
 | _,_=>.bad
theorem info_of {t:TypeId} (h:0<P.cellsOf t):∃ j,P.info? t=some j∧j.size≠0:=by
 unfold Program.cellsOf at h
 cases hi:P.info? t with
 | none=>simp [hi] at h
 | some i=>exact ⟨i,rfl,by simp [hi] at h;omega⟩
theorem rConvU_sound (hr:RS P ρ I w σ) (s d:TypeId) (b o:Nat) (v:Value) (hx:V ρ σ I w (.ptr b o) v):Pev P ρ σ I w (convert s d v) (rConvU P s d b o σ):=by
 unfold rConvU
 split
 ·rename_i t hs hd
  split
  ·rename_i e cs hst
   have hsb:=stGet_some hst (by simp)
   refine .need fun ⟨hz,ho⟩=>?_
   obtain ⟨j,hj,hj0⟩:=info_of hz
   cases hx with | ptr k1 k2 =>
   rw [hsb] at k1;cases k1
   rename_i B
   obtain ⟨us,q1,q2,q3⟩:=hr.box hsb k2
   have hsh:w.shape? B=some (e,us.size):=by simp [World.shape?,q1]
   exact .ok (Lib.run_to_unsafe w ⟨B,o,none⟩ hs hd hj hj0 hsh (by show o<us.size;omega)) (.ptr hsb k2)
  ·exact .bad
 ·rename_i u hs hd
  split
  ·rename_i e cs hst
   have hsb:=stGet_some hst (by simp)
   refine .need fun ⟨hz,hl⟩=>?_
   obtain ⟨j,hj,hj0⟩:=info_of hz
   cases hx with | ptr k1 k2 =>
   rw [hsb] at k1;cases k1
   rename_i B
   obtain ⟨us,q1,q2,q3⟩:=hr.box hsb k2
   have hsh:w.shape? B=some (e,us.size):=by simp [World.shape?,q1]
   refine .ok (Lib.run_from_unsafe w ⟨B,o,none⟩ hs hd hj hsh ?_) (.ptr hsb k2)
   rw [← q2];exact hl
  ·exact .bad
 ·exact .bad
def rCv0 (P:Program) (s d:TypeId) (x:AV) (σ:ST):Res :=
 match x with
 | .ptr b o=>rConvU P s d b o σ
 | x=>rConv P s d x σ
@[go_sem] theorem rCv0_d (s d:TypeId) (x:DV) (σ:ST):rCv0 P s d (.d x) σ=rConv P s d (.d x) σ:=nrfl rfl
theorem rCv0_sound (hr:RS P ρ I w σ) (s d:TypeId) (x:AV) (v:Value) (hx:V ρ σ I w x v):Pev P ρ σ I w (convert s d v) (rCv0 P s d x σ):=by
 unfold rCv0
 split
 ·exact rConvU_sound hr s d _ _ v hx
 ·exact rConv_sound s d _ v hx
/- the first element's address -/
def rUSD (P:Program) (ty:TypeId) (x:AV) (σ:ST):Res :=
 match P.underlying ty,x with
 | some (.pointer _),.d .nilslice=>.ok .aptr σ
 | some (.pointer _),.own b g off n=>match stGet σ b with
  | .arr g' e xs=>.need (g=g') (bif Nat.beq n 0 then .ok .aptr σ else .ok (.eptr b g off 0) σ)
  | _=>.bad
 | _,_=>.bad
theorem rUSD_sound (hr:RS P ρ I w σ) (ts:Array TypeId) (ty:TypeId) (x:AV) (v:Value) (hx:V ρ σ I w x v):Eff P ρ σ I w (Builtin.unsafeSliceData_ ts ty #[v]) (rUSD P ty x σ):=by
 unfold rUSD
 split
 ·cases hx.d_inv
  exact Pev.eff hr (.ok (Lib.run_unsafeSliceData_nil w ts ty 0 0) (.aptr _))
 ·rename_i pe b g off n hp
  split
  ·rename_i g' e xs hst
   have hsb:=stGet_some hst (by simp)
   refine .need fun hg=>?_
   subst hg
   have pos:∀ (a:Addr) (c:Nat),c≠0→V ρ σ I w (bif Nat.beq n 0 then .aptr else .eptr b g off 0) (.pointer (some a)) →
     Eff P ρ σ I w (Builtin.unsafeSliceData_ ts ty #[.slice (some a) n c]) (bif Nat.beq n 0 then .ok .aptr σ else .ok (.eptr b g off 0) σ):=by
    intro a c hc hv
    have h:=Lib.run_unsafeSliceData_row (P:=P) w ts ty a n c hc
    cases hb:Nat.beq n 0
    ·rw [hb] at hv;exact Pev.eff hr (.ok h hv)
    ·rw [hb] at hv;exact Pev.eff hr (.ok h hv)
   have zero:∀ (a:Addr),n=0→(∃ sh,w.shape? a.block=some sh) →
     Eff P ρ σ I w (Builtin.unsafeSliceData_ ts ty #[.slice (some a) n 0]) (bif Nat.beq n 0 then .ok .aptr σ else .ok (.eptr b g off 0) σ):=by
    rintro a rfl ⟨sh,hsh⟩ R hR
    have h:=Lib.run_unsafeSliceData_zero (P:=P) w ts ty pe hp a 0 sh hsh
    have hsz:Ext w (w.alloc (.view a pe)):=Ext.of (by rw [push_size];omega)
    exact ⟨_,.aptr,_,ρ,I,σ,h,Step.more hsz (push_old w _),hr.more hsz (push_old w _),.aptr _,hR⟩
   cases hx with
   | ownOld k1 k2=>rw [hsb] at k1;cases k1;exact absurd (k2 _ _ _ rfl) (by omega)
   | @ownNil _ _ _ _ _ p k1 k2 =>
    cases p with
    | none=>exact Pev.eff hr (.ok (Lib.run_unsafeSliceData_nil w ts ty 0 0) (.aptr _))
    | some a =>
     have hlt:=(k2 a rfl).2
     obtain ⟨o,ho⟩:∃ o,w.heap[a.block]? = some o:=⟨_,Array.getElem?_eq_getElem hlt⟩
     have hdef:Builtin.unsafeSliceData_ ts ty #[.slice (some a) 0 0] =
       (do
        if (0:Nat)≠0 then pure (.pointer (some a))
        else if (← viewAt a.block).isSome then pure (.pointer (some a))
        else pure (.pointer (some ⟨← newObj (.view a (← elemOf ty)),0,none⟩))):=rfl
     have fresh:(Builtin.unsafeSliceData_ ts ty #[.slice (some a) 0 0]).run P w=.ok (.pointer (some ⟨w.heap.size,0,none⟩)) (w.alloc (.view a pe)) →
       Eff P ρ σ I w (Builtin.unsafeSliceData_ ts ty #[.slice (some a) 0 0]) (bif Nat.beq 0 0 then .ok .aptr σ else .ok (.eptr b g off 0) σ):=by
      intro h R hR
      have hsz:Ext w (w.alloc (.view a pe)):=Ext.of (by rw [push_size];omega)
      exact ⟨_,.aptr,_,ρ,I,σ,h,Step.more hsz (push_old w _),hr.more hsz (push_old w _),.aptr _,hR⟩
     have hg:(∀ us t f,o≠.cells us t f)→(getObj a.block).run P w=.ok o w:=by
      intro h
      cases o <;> first | exact absurd rfl (h _ _ _) | simp [getObj,Sem.run,ho]
     cases o with
     | cells us t f=>exact zero a rfl ⟨(t,us.size),by simp [World.shape?,ho]⟩
     | view a' t=>exact Pev.eff hr (.ok (v:=.pointer (some a)) (by rw [hdef];simp [viewAt,World.shape?,ho,hg (by simp)]) (.aptr _))
     | _=>exact fresh (by rw [hdef];simp [viewAt,World.shape?,ho,hg (by simp),elemOf,run_underlying hp])
   | own k1 k2 k3 k4 =>
    rw [hsb] at k1;cases k1
    rename_i B cap
    obtain ⟨us,q1,q2,q3,q4,q5⟩:=hr.arr hsb k2
    by_cases hc:cap=0
    ·subst hc
     exact zero _ (by omega) ⟨_,by simp [World.shape?,q1];rfl⟩
    ·refine pos _ cap hc ?_
     cases hb:Nat.beq n 0
     ·exact .eptr hsb k2
     ·exact .aptr _
  ·exact Eff.bad
 ·exact Eff.bad
end
end Nv
