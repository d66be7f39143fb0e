/- append, make, copy; slices that are frozen, and nil slices that are taken over: soundness. -/
import Derived.Test.YtebejiilpedlmaaGreatDoorNvH
import Derived.Laws.Append
import Derived.Lib.AppendStr
set_option linter.unusedVariables false
set_option linter.unusedSimpArgs false
namespace Nv
open Go

section
variable {P : Program} {ρ ρ' : RHO} {σ σ' : ST} {I I' : Nat → Prop} {w w' : World}

/-- The elements of a slice. -/
def elems (e : ET) (x : AV) (σ : ST) : Option (List DV) :=
  match x with
  | .d (.list e' xs) => if e' = e.n then some xs else none
  | .d .nilslice => some []
  | .own b g off n => match stGet σ b with
    | .arr g' e' xs => if g = g' ∧ e' = e ∧ off + n ≤ xs.length then some ((xs.drop off).take n) else none
    | _ => none
  | _ => none
@[go_sem] theorem elems_list (e : Nat) (t : Nat) (xs : List DV) (σ : ST) : elems ⟨e, t⟩ (.d (.list e xs)) σ = some xs := by simp [elems]
@[go_sem] theorem elems_nil (e : ET) (σ : ST) : elems e (.d .nilslice) σ = some [] := nrfl rfl
@[go_sem] theorem elems_own (e : ET) (b g off n : Nat) (σ : ST) : elems e (.own b g off n) σ = match stGet σ b with
    | .arr g' e' xs => if g = g' ∧ e' = e ∧ off + n ≤ xs.length then some ((xs.drop off).take n) else none
    | _ => none := nrfl rfl

/-- A slice whose elements are known. -/
structure Elems (P : Program) (I : Nat → Prop) (w : World) (e : Nat) (v : Value) (xs : List DV) where
  sl : ∃ p n cap, v = .slice p n cap ∧ n = xs.length ∧ n ≤ cap
  uni : ∀ x, x ∈ xs → Uni e x
  run : ∃ us : Nat → Value, (∀ (w' : World) (m : Nat), w'.heap = w.heap → m ≤ xs.length → (Builtin.firstCells e m v).run P w' = .ok ((List.range (m * e)).map us).toArray w') ∧ ∀ j c, (flat xs)[j]? = some c → VD I w c (us j)

/-- What is appended: the elements of a slice, or a string's bytes. -/
structure ElemsX (P : Program) (I : Nat → Prop) (w : World) (e : Nat) (v : Value) (xs : List DV) where
  len : ∀ w' : World, (Builtin.lenOf v).run P w' = .ok xs.length w'
  uni : ∀ x, x ∈ xs → Uni e x
  run : ∃ us : Nat → Value, (∀ (w' : World) (m : Nat), w'.heap = w.heap → m = xs.length → (Builtin.firstCells e m v).run P w' = .ok ((List.range (m * e)).map us).toArray w') ∧ ∀ j c, (flat xs)[j]? = some c → VD I w c (us j)

theorem Elems.x {e : Nat} {v : Value} {xs : List DV} (h : Elems P I w e v xs) : ElemsX P I w e v xs := by
  obtain ⟨p, n, cap, rfl, rfl, _⟩ := h.sl
  obtain ⟨us, h1, h2⟩ := h.run
  exact ⟨fun w' => by simp [Builtin.lenOf], h.uni, us, fun w' m hw hm => h1 w' m hw (by omega), h2⟩

theorem cell_heap (h : w'.heap = w.heap) (a : Addr) : w'.cell? a = w.cell? a := by simp [World.cell?, h]

theorem run_firstCells {e m : Nat} {B off n cap : Nat} {us : Nat → Value} (h : ∀ j, j < m * e → w.cell? ⟨B, off + j, none⟩ = some (us j)) :
    (Builtin.firstCells e m (.slice (some ⟨B, off, none⟩) n cap)).run P w = .ok ((List.range (m * e)).map us).toArray w := by
  simp only [Builtin.firstCells, loadCells]
  rw [run_loadCellsFrom B off _ 0 #[] us (fun j hj => by simpa using h j hj)]
  simp

theorem elems_sound (hr : RS P ρ I w σ) {e : ET} {x : AV} {v : Value} {xs : List DV} (hx : V ρ σ I w x v) (h : elems e x σ = some xs) : Elems P I w e v xs := by
  have empty : ∀ p : Option Addr, Elems P I w e (.slice p 0 0) [] := fun p =>
    ⟨⟨p, 0, 0, rfl, rfl, Nat.le_refl _⟩, by simp, fun _ => undef, fun w' m hw hm => by
      simp only [List.length_nil, Nat.le_zero] at hm; subst hm
      cases p <;> simp [Builtin.firstCells, loadCells, loadCellsFrom], by simp [flat]⟩
  unfold elems at h
  split at h
  · split at h <;> try (cases h; done)
    rename_i e' ys he; subst he
    simp only [Option.some.injEq] at h; subst h
    cases hx.d_inv with
    | listNil => exact empty _
    | list us q1 q2 q0 q3 q4 =>
      refine ⟨⟨_, _, _, rfl, q1, q2⟩, q0, us, fun w' m hw hm => run_firstCells (fun j hj => ?_), q4⟩
      rw [cell_heap hw]
      have hlt : j < (flat ys).length := by rw [flat_len q0]; exact Nat.lt_of_lt_of_le hj (Nat.mul_le_mul_right _ hm)
      exact (q3 j _ (List.getElem?_eq_getElem hlt)).2
  · simp only [Option.some.injEq] at h; subst h
    cases hx.d_inv
    exact empty none
  · rename_i b g off n
    split at h <;> try (cases h; done)
    rename_i g' e' ys hst
    split at h <;> try (cases h; done)
    rename_i hc
    obtain ⟨rfl, rfl, hlen⟩ := hc
    simp only [Option.some.injEq] at h; subst h
    have hs := stGet_some hst (by simp)
    cases hx with
    | ownOld k1 k2 => rw [hs] at k1; cases k1; exact absurd (k2 _ _ _ rfl) (by omega)
    | ownNil k1 k2 => simpa using empty _
    | own k1 k2 k3 k4 =>
      rw [hs] at k1; cases k1
      rename_i B cap
      obtain ⟨us, q1, q2, q3, q4, q5⟩ := hr.arr hs k2
      have hmem : ∀ x, x ∈ (ys.drop off).take n → Uni e' x := fun x hx => q4 x (List.mem_of_mem_drop (List.mem_of_mem_take hx))
      have hln : ((ys.drop off).take n).length = n := by simp; omega
      have hcap : (ρ b).base + off * e' + n * e' ≤ us.size := by
        have : (off + n) * e' ≤ (ρ b).cap * e' := Nat.mul_le_mul_right _ (by omega)
        rw [Nat.add_mul] at this; omega
      refine ⟨⟨_, _, _, rfl, hln.symm, k3⟩, hmem, fun j => us.getD ((ρ b).base + off * e' + j) undef, fun w' m hw hm => run_firstCells (fun j hj => ?_), fun j c hj => ?_⟩
      · rw [cell_heap hw]
        have : m * e' ≤ n * e' := Nat.mul_le_mul_right _ (by omega)
        exact cell_of_heap q1 (by omega)
      · rw [flat_take (fun x hx => q4 x (List.mem_of_mem_drop hx)), flat_drop q4, List.getElem?_take] at hj
        split at hj
        · rw [List.getElem?_drop] at hj
          have := q5 _ _ hj
          rwa [← Nat.add_assoc] at this
        · cases hj
  · cases h

/-- The elements of what is appended. -/
def srcElems (d : TypeDesc) (e : ET) (x : AV) (σ : ST) : Option (List DV) :=
  match d with
  | .slice _ => elems e x σ
  | .string => match x with
    | .d (.str s) => if e.n = 1 then some (s.map fun b => .int .u8 (b.toNat : Nat)) else none
    | _ => none
  | _ => none
@[go_sem] theorem srcElems_slice (t : TypeId) (e : ET) (x : AV) (σ : ST) : srcElems (.slice t) e x σ = elems e x σ := nrfl rfl
@[go_sem] theorem srcElems_string (t : Nat) (s : List UInt8) (σ : ST) : srcElems .string ⟨1, t⟩ (.d (.str s)) σ = some (s.map fun b => .int .u8 (b.toNat : Nat)) := nrfl rfl

theorem srcElems_kind {xt : TypeId} {d : TypeDesc} {e : ET} {x : AV} {ys : List DV} (hd : P.underlying xt = some d) (h : srcElems d e x σ = some ys) : ∃ xe, P.underlying xt = some (.slice xe) ∨ P.underlying xt = some .string := by
  cases d <;> simp only [srcElems] at h <;> try (cases h; done)
  · exact ⟨0, .inr hd⟩
  · rename_i xe; exact ⟨xe, .inl hd⟩

theorem srcElems_sound (hr : RS P ρ I w σ) {d : TypeDesc} {e : ET} {x : AV} {v : Value} {xs : List DV} (hx : V ρ σ I w x v) (h : srcElems d e x σ = some xs) : ElemsX P I w e v xs := by
  unfold srcElems at h
  split at h
  · exact (elems_sound (P := P) hr hx h).x
  · split at h <;> try (cases h; done)
    rename_i s
    split at h <;> try (cases h; done)
    rename_i he
    simp only [Option.some.injEq] at h; subst h
    have := hx.d_inv.str_inv; subst this
    have hfl : flat (s.map fun b => DV.int .u8 (b.toNat : Nat)) = s.map fun b => DV.int .u8 (b.toNat : Nat) := by
      simp only [flat]
      clear hx
      induction s with
      | nil => rfl
      | cons b s ih => simp only [List.map_cons, List.flatMap_cons, ih]; rfl
    refine ⟨fun w' => ?_, fun x hx => ?_, fun j => .int .u8 ((s.getD j 0).toNat : Nat), fun w' m hw hm => ?_, fun j c hj => ?_⟩
    · simp [Builtin.lenOf]; rfl
    · obtain ⟨b, _, rfl⟩ := List.mem_map.1 hx
      refine ⟨by rw [he]; rfl, fun c hc => ?_⟩
      simp only [DV.cells, List.mem_singleton] at hc; subst hc; rfl
    · subst hm
      have h1 := Lib.run_firstCells_string (P := P) w' e.n ⟨s.toArray⟩
      have h2 : (⟨s.toArray⟩ : ByteArray).size = (s.map fun b => DV.int .u8 (b.toNat : Nat)).length := by simp; rfl
      rw [h2] at h1
      rw [h1, he]
      congr 1
      simp only [Lib.strCells]
      congr 1
      apply List.ext_getElem
      · simp
      · intro i hi1 hi2
        simp at hi1
        simp [hi1]
    · rw [hfl, List.getElem?_map] at hj
      simp only [Option.map_eq_some_iff] at hj
      obtain ⟨b, hb, rfl⟩ := hj
      have : s.getD j 0 = b := by rw [List.getD_eq_getElem?_getD, hb]; rfl
      show VD I w _ (Value.int .u8 ((s.getD j 0).toNat : Nat))
      rw [this]; exact .int _ _
  · cases h

def rAppend (P : Program) (t xt : TypeId) (s x : AV) (σ : ST) : Res :=
  match P.underlying t, P.underlying xt with
  | some (.slice el), some d => .need (0 < P.cellsOf el ∧ (cellsV (zeroA P el)).map List.length = some (P.cellsOf el)) (match elems ⟨P.cellsOf el, el⟩ s σ, srcElems d ⟨P.cellsOf el, el⟩ x σ with
    | some xs, some ys => .need (0 < P.bytesOf el ∧ (xs.length + ys.length) * P.bytesOf el ≤ 140737488355328) (match s with
      | .d .nilslice => newArr σ (P.cellsOf el) el ys
      | .own b g off n => .ok (.own b (g + 1) 0 (xs.length + ys.length)) (stSet σ b (.arr (g + 1) ⟨P.cellsOf el, el⟩ (xs ++ ys)))
      | _ => .bad)
    | _, _ => .bad)
  | _, _ => .bad

def inPlace (P : Program) (w : World) (p : Option Addr) (o : Nat) (vs : List Value) (r : Value) : Result Value :=
  match p with
  | some a => ((storeCells (a.add o) vs).run P w).andThen fun _ w' => .ok r w'
  | none => .ok r w

theorem VD.oneCell {c : DV} {v : Value} (h : VD I w c v) (ha : c.isAgg = false) : v.oneCell' = true := by
  cases h <;> first | rfl | simp [DV.isAgg] at ha

/-- What an append comes to in the world: in place, or in a new block. -/
theorem run_append {t el xt xe e : Nat} {ts : Array TypeId} {ty : TypeId} (ht : P.underlying t = some (.slice el)) (hxt : P.underlying xt = some (.slice xe) ∨ P.underlying xt = some .string) (hts : ts[0]? = some t) (hts1 : ts[1]? = some xt)
    (he : e = P.cellsOf el) (hz : 0 < e) {zv : Value} (hzv : ∀ w : World, (zeroValue el).run P w = .ok zv w) (hzs : zv.cells.size = e)
    {p : Option Addr} {n cap : Nat} {vx : Value} {xs ys : List DV} (hs : Elems P I w e (.slice p n cap) xs) (hx : ElemsX P I w e vx ys)
    (hby : 0 < P.bytesOf el) (hlim : (xs.length + ys.length) * P.bytesOf el ≤ 140737488355328) :
    (xs.length + ys.length ≤ cap ∧ ∃ us : Nat → Value, (∀ j c, (flat ys)[j]? = some c → VD I w c (us j)) ∧
      (Builtin.append_ ts ty #[.slice p n cap, vx]).run P w = inPlace P w p (n * e) ((List.range (ys.length * e)).map us) (.slice p (xs.length + ys.length) cap)) ∨
    (cap < xs.length + ys.length ∧ ∃ us d ncap, xs.length + ys.length ≤ ncap ∧ us.size = ncap * e ∧ (∀ j c, (flat (xs ++ ys))[j]? = some c → VD I w c (us.getD j undef)) ∧
      (Builtin.append_ ts ty #[.slice p n cap, vx]).run P w = .ok (.slice (some ⟨w.heap.size, 0, none⟩) (xs.length + ys.length) ncap) (({ w with drawn := d } : World).alloc (.cells us el))) := by
  obtain ⟨p', n', cap', e1, hn, hcap⟩ := hs.sl
  cases e1
  have hlx := hx.len
  subst hn
  obtain ⟨us, hus, husv⟩ := hs.run
  obtain ⟨ux, hux, huxv⟩ := hx.run
  have hsz : ∀ w : World, (Go.sizeOf el).run P w = .ok e w := fun w => by rw [he]; exact run_sizeOf_pos (by omega)
  have hinfo : ∃ i, P.info? el = some i ∧ i.bytes = P.bytesOf el := by
    cases hi : P.info? el with
    | none => simp [Program.bytesOf, hi] at hby
    | some i => exact ⟨i, rfl, by simp [Program.bytesOf, hi]⟩
  obtain ⟨i, hi, hib⟩ := hinfo
  have hti : ∀ w : World, (typeInfo el).run P w = .ok i w := fun w => by simp [typeInfo, hi]
  by_cases hle : xs.length + ys.length ≤ cap
  · left
    refine ⟨hle, ux, huxv, ?_⟩
    have hsz' := hsz w
    have hux' := hux w ys.length rfl rfl
    cases p with
    | none => rcases hxt with hxt | hxt <;> simp [inPlace, Builtin.append_, hts, hts1, run_underlying ht, run_underlying hxt, hsz', hlx, hle, hux']
    | some a => rcases hxt with hxt | hxt <;> simp [inPlace, Builtin.append_, hts, hts1, run_underlying ht, run_underlying hxt, hsz', hlx, hle, hux']
  · right
    have hlt : cap < xs.length + ys.length := by omega
    have hgrow := growslice_fits hlt hlim
    have hux' := hux { w with drawn := w.drawn + 1 } ys.length rfl rfl
    have hus' := hus { w with drawn := w.drawn + 1 } xs.length rfl (Nat.le_refl _)
    let q : Question := .appendCap (xs.length + ys.length) cap el
    let ncap := q.cut (w.tape w.drawn q)
    have hnc : xs.length + ys.length ≤ ncap := by simp [ncap, q, Question.cut]
    have hf : q.forced = false := rfl
    let rest := Builtin.zeroCells zv.cells (ncap - (xs.length + ys.length))
    have hrest : rest.size = (ncap - (xs.length + ys.length)) * e := by simp [rest, Builtin.zeroCells, hzs]
    refine ⟨hlt, ((List.range (xs.length * e)).map us).toArray ++ ((List.range (ys.length * e)).map ux).toArray ++ rest, w.drawn + 1, ncap, hnc, ?_, ?_, ?_⟩
    · simp [hrest]; rw [← Nat.add_mul, ← Nat.add_mul]; congr 1; omega
    · intro j c hj
      have hl := flat_len hs.uni
      have hly := flat_len hx.uni
      simp only [flat, List.flatMap_append] at hj hl hly
      simp only [Array.getD_eq_getD_getElem?]
      rcases Nat.lt_or_ge j (xs.length * e) with h | h
      · rw [List.getElem?_append_left (by omega)] at hj
        have := husv j c hj
        rw [Array.append_assoc, Array.getElem?_append_left (by simpa using h)]
        simpa [h] using this
      · rw [List.getElem?_append_right (by omega)] at hj
        rw [hl] at hj
        have hj2 : j - xs.length * e < ys.length * e := by
          rcases Nat.lt_or_ge (j - xs.length * e) (ys.length * e) with h' | h'
          · exact h'
          · rw [List.getElem?_eq_none (by omega)] at hj; cases hj
        have := huxv _ c hj
        rw [Array.append_assoc, Array.getElem?_append_right (by simpa using h), Array.getElem?_append_left (by simpa using hj2)]
        simpa [hj2] using this
    · have hsz' := hsz w
      have hti' := hti w
      have hzv' := hzv { w with drawn := w.drawn + 1 }
      have hti2 := hti { w with drawn := w.drawn + 1 }
      have h0 : ¬ (i.bytes = 0) := by omega
      have hbig : ¬ (Builtin.nextslicecap (xs.length + ys.length) cap * i.bytes > 2 ^ 48) := by rw [hib]; omega
      have hq : (choose q).run P w = .ok ncap { w with drawn := w.drawn + 1 } := by rw [run_choose, hf]; rfl
      rcases hxt with hxt | hxt
      all_goals
       simp [Builtin.append_, hts, hts1, run_underlying ht, run_underlying hxt, hsz', hlx, hle, hti', h0, -run_choose]
       rw [if_neg (by omega)]
       rw [if_neg (show ¬ ((Question.appendCap (xs.length + ys.length) cap el).forced = true) by simp [Question.forced])]
       have a1 : (Builtin.firstCells e xs.length (Value.slice p xs.length cap)).run P w.drew = .ok ((List.range (xs.length * e)).map us).toArray w.drew := hus'
       have a2 : (Builtin.firstCells e ys.length vx).run P w.drew = .ok ((List.range (ys.length * e)).map ux).toArray w.drew := hux'
       rw [hti w.drew, Result.andThen_ok, a1, Result.andThen_ok, a2, Result.andThen_ok, hzv w.drew, Result.andThen_ok]
       simp [newRow, rest, ncap, q]
       rw [← Array.append_assoc]
       simp

/-- The blocks of a slice that is appended to. -/
theorem rAppend_sound (hr : RS P ρ I w σ) (t xt ty : TypeId) (ts : Array TypeId) (s x : AV) (vs vx : Value) (hts : ts[0]? = some t) (hts1 : ts[1]? = some xt) (hs : V ρ σ I w s vs) (hx : V ρ σ I w x vx) :
    Eff P ρ σ I w (Builtin.append_ ts ty #[vs, vx]) (rAppend P t xt s x σ) := by
  unfold rAppend
  split
  · rename_i el dx ht hxd
    refine .need fun ⟨hz, hzc⟩ => ?_
    simp only [Option.map_eq_some_iff] at hzc
    obtain ⟨zcs, hzc1, hzc2⟩ := hzc
    have hzne : zeroA P el ≠ .any := cellsV_any hzc1
    have hzrun : ∃ zv, (∀ w : World, (zeroValue el).run P w = .ok zv w) ∧ zv.cells.size = P.cellsOf el := by
      obtain ⟨zv, z1, z2⟩ := zero_run (P := P) (ρ := ρ) (σ := σ) (I := I) (w := w) hzne
      obtain ⟨c1, _⟩ := cellsV_sound z2 hzc1
      refine ⟨zv, fun w' => ?_, by omega⟩
      obtain ⟨zv', z1', _⟩ := zero_run (P := P) (ρ := ρ) (σ := σ) (I := I) (w := w') hzne
      have : zv' = zv := by
        unfold zeroValue typeInfo at z1 z1'
        cases hi : P.info? el with
        | none => simp [hi] at z1
        | some i => cases hzz : i.zero <;> simp [hi, hzz] at z1 z1'; rw [← z1, ← z1']
      rw [← this]; exact z1'
    obtain ⟨zv, hzv, hzs⟩ := hzrun
    split
    · rename_i xs ys he1 he2
      refine .need fun ⟨hby, hlim⟩ => ?_
      have E1 := elems_sound (P := P) hr hs he1
      have E2 := srcElems_sound (P := P) hr hx he2
      obtain ⟨xe, hxt⟩ := srcElems_kind hxd he2
      split
      · -- a nil slice
        simp only [elems, Option.some.injEq] at he1; subst he1
        cases hs.d_inv
        rcases run_append (ty := ty) ht hxt hts hts1 rfl hz hzv hzs E1 E2 hby hlim with ⟨h1, us, h2, h3⟩ | ⟨h1, us, d, ncap, h2, h3, h4, h5⟩
        · simp only [List.length_nil, Nat.zero_add, Nat.le_zero] at h1
          obtain rfl : ys = [] := List.length_eq_zero_iff.1 h1
          intro R hR
          let p : Place := ⟨none, 0, 0⟩
          have hp : ∀ B, p.blk = some B → w.heap.size ≤ B := fun B hB => by cases hB
          have hst := step_push (w' := w) hr (.arr 0 ⟨P.cellsOf el, el⟩ []) p (Ext.of (Nat.le_refl _)) (fun _ _ => rfl) hp
          refine ⟨_, _, _, _, I, _, h3, hst, rs_push hr _ p (Ext.of (Nat.le_refl _)) (fun _ _ => rfl) hp (.arrNil rfl rfl), ?_, hR⟩
          exact .ownNil (e := ⟨P.cellsOf el, el⟩) (xs := []) (by simp) (fun _ h => by cases h)
        · simp only [List.length_nil, Nat.zero_add, List.nil_append] at *
          exact newArr_eff (el := el) hr h5 ⟨d, rfl⟩ (by omega) h2 E2.uni h4
      · -- a slice of the call's own
        rename_i b g off n
        have he1' := he1
        simp only [elems] at he1
        split at he1 <;> try (cases he1; done)
        rename_i g' e' zs hst
        split at he1 <;> try (cases he1; done)
        rename_i hc
        obtain ⟨rfl, rfl, hlen⟩ := hc
        simp only [Option.some.injEq] at he1
        have hsb := stGet_some hst (by simp)
        intro R hR
        have huni : ∀ y, y ∈ xs ++ ys → Uni (P.cellsOf el) y := fun y hy => by
          rcases List.mem_append.1 hy with h | h
          · exact E1.uni y h
          · exact E2.uni y h
        have hblt : b < σ.length := by rcases Nat.lt_or_ge b σ.length with h' | h'; exact h'; simp [List.getElem?_eq_none h'] at hsb
        have hcmp : ∀ p', Compat (.arr g ⟨P.cellsOf el, el⟩ zs) (ρ b) (.arr (g + 1) ⟨P.cellsOf el, el⟩ (xs ++ ys)) p' := fun p' => .inr (by omega)
        -- a new block, or none
        have fresh : ∀ (w' : World) (p' : Place) (v : Value), Ext w w' → (∀ c, c < w.heap.size → (ρ b).blk ≠ some c → w'.heap[c]? = w.heap[c]?) →
            (∀ B', p'.blk = some B' → (ρ b).blk = some B' ∨ w.heap.size ≤ B') →
            (Step ρ I w σ (updR ρ b p') I w' (stSet σ b (.arr (g + 1) ⟨P.cellsOf el, el⟩ (xs ++ ys))) → RB (updR ρ b p') (stSet σ b (.arr (g + 1) ⟨P.cellsOf el, el⟩ (xs ++ ys))) I w' p' (.arr (g + 1) ⟨P.cellsOf el, el⟩ (xs ++ ys))) →
            (V (updR ρ b p') (stSet σ b (.arr (g + 1) ⟨P.cellsOf el, el⟩ (xs ++ ys))) I w' (.own b (g + 1) 0 (xs.length + ys.length)) v) →
            (Builtin.append_ ts ty #[vs, vx]).run P w = .ok v w' → ∃ v av w' ρ' I' σ', (Builtin.append_ ts ty #[vs, vx]).run P w = .ok v w' ∧ Step ρ I w σ ρ' I' w' σ' ∧ RS P ρ' I' w' σ' ∧ V ρ' σ' I' w' av v ∧ R av σ' := by
          intro w' p' v hsz hold hp hrb hv hrun
          have hstep := step_updG (w' := w') hr hsb trivial p' (hcmp p') hsz hold hp
          exact ⟨v, _, w', _, I, _, hrun, hstep, rs_updG hr hsb trivial p' (hcmp p') hsz hold hp (hrb hstep), hv, hR⟩
        have hset : (stSet σ b (.arr (g + 1) ⟨P.cellsOf el, el⟩ (xs ++ ys)))[b]? = some (.arr (g + 1) ⟨P.cellsOf el, el⟩ (xs ++ ys)) := by simp [stSet, hblt]
        obtain ⟨p, m, cap, hvs, hm, hcap⟩ := E1.sl
        subst hvs
        rcases run_append (ty := ty) ht hxt hts hts1 rfl hz hzv hzs E1 E2 hby hlim with ⟨h1, us, h2, h3⟩ | ⟨h1, us, d, ncap, h2, h3, h4, h5⟩
        · -- in place
          have hnil : ∀ q : Option Addr, (∀ a, q = some a → a.spot = none ∧ a.block < w.heap.size) → xs.length + ys.length = 0 → cap = 0 → (Builtin.append_ ts ty #[.slice p m cap, vx]).run P w = .ok (.slice q 0 0) w →
              ∃ v av w' ρ' I' σ', (Builtin.append_ ts ty #[.slice p m cap, vx]).run P w = .ok v w' ∧ Step ρ I w σ ρ' I' w' σ' ∧ RS P ρ' I' w' σ' ∧ V ρ' σ' I' w' av v ∧ R av σ' := by
            intro q hq h0 hc0 hrun
            have hx0 : xs = [] := List.length_eq_zero_iff.1 (by omega)
            have hy0 : ys = [] := List.length_eq_zero_iff.1 (by omega)
            refine fresh w ⟨none, 0, 0⟩ (.slice q 0 0) (Ext.of (Nat.le_refl _)) (fun _ _ _ => rfl) (fun B h => by cases h) (fun _ => by rw [hx0, hy0]; exact .arrNil rfl rfl) ?_ hrun
            rw [h0]; exact .ownNil hset hq
          cases hs with
          | ownOld k1 k2 => rw [hsb] at k1; cases k1; exact absurd (k2 _ _ _ rfl) (by omega)
          | ownNil k1 k2 =>
            have h0 : xs.length + ys.length = 0 := by omega
            have hy0 : ys = [] := List.length_eq_zero_iff.1 (by omega)
            subst hy0
            refine hnil p k2 h0 rfl ?_
            rw [h3]
            cases p with
            | none => simp only [inPlace, h0]
            | some a => rw [h0]; simp [inPlace, storeCells]
          | own k1 k2 k3 k4 =>
            rw [hsb] at k1; cases k1
            rename_i B
            obtain ⟨vs, q1, q2, q3, q4, q5⟩ := hr.arr hsb k2
            have hxs : xs.length = n := by omega
            have hys := flat_len E2.uni
            dsimp only at q2 hys
            have hyl : ((List.range (ys.length * P.cellsOf el)).map us).length = ys.length * P.cellsOf el := by simp
            have hbound : (ρ b).base + off * P.cellsOf el + cap * P.cellsOf el ≤ vs.size := by
              have : (off + cap) * P.cellsOf el ≤ (ρ b).cap * P.cellsOf el := Nat.mul_le_mul_right _ (by omega)
              rw [Nat.add_mul] at this; omega
            have hfit : n * P.cellsOf el + ys.length * P.cellsOf el ≤ cap * P.cellsOf el := by
              rw [← Nat.add_mul]; exact Nat.mul_le_mul_right _ (by omega)
            have hone : ∀ v, v ∈ (List.range (ys.length * P.cellsOf el)).map us → v.oneCell' = true := by
              intro v hv
              obtain ⟨j, hj, rfl⟩ := List.mem_map.1 hv
              simp only [List.mem_range] at hj
              have hlt : j < (flat ys).length := by omega
              obtain ⟨c, hcc⟩ : ∃ c, (flat ys)[j]? = some c := ⟨_, List.getElem?_eq_getElem hlt⟩
              have hmem := List.mem_of_getElem? hcc
              simp only [flat, List.mem_flatMap] at hmem
              obtain ⟨y, hy, hc⟩ := hmem
              exact (h2 j c hcc).oneCell ((E2.uni y hy).2 c hc)
            obtain ⟨w', r1, r2, r3, us', r4, r5, r6⟩ := run_storeCells (P := P) (B := B) ((List.range (ys.length * P.cellsOf el)).map us) ((ρ b).base + off * P.cellsOf el + n * P.cellsOf el) 0 vs w q1 (by rw [hyl]; omega) hone
            simp only [inPlace, Addr.add_lit, r1, Result.andThen_ok] at h3
            refine fresh w' ⟨some B, (ρ b).base + off * P.cellsOf el, cap⟩ _ (Ext.of (Nat.le_of_eq r2.1.symm) r2.2) (fun c hc hne => r3 c (fun h => hne (h ▸ k2))) (fun B' h => by cases h; exact .inl k2) (fun hstep => ?_) ?_ h3
            · refine .arr rfl r4 (by show (ρ b).base + off * P.cellsOf el + cap * P.cellsOf el ≤ us'.size; omega) (by simpa using h1) huni (fun j c hj => ?_)
              show VD I w' c (us'.getD ((ρ b).base + off * P.cellsOf el + j) undef)
              rw [r6, hyl]
              simp only [flat, List.flatMap_append] at hj
              have hxl := flat_len E1.uni
              dsimp only at hxl
              simp only [flat] at hxl hys
              rcases Nat.lt_or_ge j (xs.length * P.cellsOf el) with hj1 | hj1
              · rw [List.getElem?_append_left (by omega)] at hj
                rw [if_neg (by rw [hxs] at hj1; omega)]
                have hfl : (flat zs)[off * P.cellsOf el + j]? = some c := by
                  rw [← he1] at hj
                  have hf : flat ((zs.drop off).take n) = ((flat zs).drop (off * P.cellsOf el)).take (n * P.cellsOf el) := by
                    rw [flat_take (fun x hx => q4 x (List.mem_of_mem_drop hx)), flat_drop q4]
                  simp only [flat] at hf hj ⊢
                  rw [hf, List.getElem?_take] at hj
                  split at hj
                  · rwa [List.getElem?_drop] at hj
                  · cases hj
                have := q5 _ c hfl
                rw [← Nat.add_assoc] at this
                exact hstep.vd hr this
              · rw [List.getElem?_append_right (by omega)] at hj
                have hj2 : j - xs.length * P.cellsOf el < ys.length * P.cellsOf el := by
                  rcases Nat.lt_or_ge (j - xs.length * P.cellsOf el) (ys.length * P.cellsOf el) with h' | h'
                  · exact h'
                  · rw [List.getElem?_eq_none (by omega)] at hj; cases hj
                rw [hxl] at hj
                rw [if_pos (by rw [hxs] at hj1 hj2; omega)]
                have := h2 _ c hj
                have e1 : (ρ b).base + off * P.cellsOf el + j - ((ρ b).base + off * P.cellsOf el + n * P.cellsOf el + 0) = j - xs.length * P.cellsOf el := by rw [hxs]; omega
                rw [e1]
                have : VD I w c (((List.range (ys.length * P.cellsOf el)).map us).getD (j - xs.length * P.cellsOf el) undef) := by
                  simpa [List.getD_eq_getElem?_getD, hj2] using this
                exact hstep.vd hr this
            · have := V.own (ρ := updR ρ b ⟨some B, (ρ b).base + off * P.cellsOf el, cap⟩) (I := I) (w := w') (off := 0) (n := xs.length + ys.length) (B := B) (cap := cap) hset (by simp) h1 (by simp)
              simpa using this
        · -- in a new block
          refine fresh (({ w with drawn := d } : World).alloc (.cells us el)) ⟨some w.heap.size, 0, ncap⟩ _ (Ext.of (by rw [push_size]; simp)) (fun c hc _ => push_old _ _ c hc) (fun B h => by cases h; exact .inr (Nat.le_refl _)) (fun hstep => ?_) ?_ h5
          · exact .arr rfl (push_new ({ w with drawn := d } : World) _) (by simp [h3]) (by simp; omega) huni (fun j c hj => hstep.vd hr (by simpa using h4 j c hj))
          · have := V.own (ρ := updR ρ b ⟨some w.heap.size, 0, ncap⟩) (I := I) (w := ({ w with drawn := d } : World).alloc (.cells us el)) (off := 0) (n := xs.length + ys.length) (B := w.heap.size) (cap := ncap) hset (by simp) h2 (by simp)
            simpa using this
      · exact Eff.bad
    · exact Eff.bad
  · exact Eff.bad
end
end Nv
