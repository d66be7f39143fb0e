/- Part of a proof about the functions of this seat. -/
import Derived.Test.YtebejiilpedlmaaGreatDoorNvHI
import Derived.Lib.Builder
import Derived.Lib.UnsafeStr
import Derived.Laws.IdiomStrings
import Derived.Laws.RangeString
import Derived.MapKept
/- make, copy, freezing; min and max; the table of all operations: soundness. -/

set_option linter.unusedVariables false
set_option linter.unusedSimpArgs false
namespace Nv
open Go

section
variable {P : Program} {ρ ρ' : RHO} {σ σ' : ST} {I I' : Nat → Prop} {w w' : World}

/- make -/
def rMake (P : Program) (t : TypeId) (l c : AV) (σ : ST) : Res :=
  match P.underlying t, l, c, toD (match P.underlying t with | some (.slice el) => zeroA P el | _ => .any) with
  | some (.slice el), .d (.int _ l), .d (.int _ c), some z =>
    .need (0 < P.cellsOf el ∧ z.cells.length = P.cellsOf el ∧ 0 < P.bytesOf el) (.need (0 ≤ l ∧ l ≤ c ∧ c * P.bytesOf el ≤ 140737488355328) (newArr σ (P.cellsOf el) el (List.replicate l.toNat z)))
  | _, _, _, _ => .bad
theorem rMake_eq {t el : Nat} (h : P.underlying t = some (.slice el)) (k k' : IntKind) (l c : Int) (σ : ST) : rMake P t (.d (.int k l)) (.d (.int k' c)) σ =
    match toD (zeroA P el) with
    | some z => .need (0 < P.cellsOf el ∧ z.cells.length = P.cellsOf el ∧ 0 < P.bytesOf el) (.need (0 ≤ l ∧ l ≤ c ∧ c * P.bytesOf el ≤ 140737488355328) (newArr σ (P.cellsOf el) el (List.replicate l.toNat z)))
    | none => .bad := by unfold rMake; simp only [h]; cases toD (zeroA P el) <;> rfl

theorem wrap_id {n : Int} (h1 : -9223372036854775808 ≤ n) (h2 : n < 9223372036854775808) : IntKind.i64.wrap n = n := by
  have e1 : (2 : Int) ^ 64 = 18446744073709551616 := by decide
  have e2 : (2 : Int) ^ (64 - 1) = 9223372036854775808 := by decide
  simp only [IntKind.wrap, IntKind.bits, IntKind.signed, Bool.true_and, e1, e2, decide_eq_true_eq, ge_iff_le]
  split <;> omega

theorem flat_replicate (n : Nat) (z : DV) (j : Nat) (h : 0 < z.cells.length) : (flat (List.replicate n z))[j]? = if j < n * z.cells.length then z.cells[j % z.cells.length]? else none := by
  induction n generalizing j with
  | zero => simp [flat]
  | succ n ih =>
    simp only [flat, List.replicate_succ, List.flatMap_cons] at ih ⊢
    have e : (n + 1) * z.cells.length = z.cells.length + n * z.cells.length := by rw [Nat.add_mul]; omega
    rcases Nat.lt_or_ge j z.cells.length with hj | hj
    · rw [List.getElem?_append_left hj, if_pos (by omega), Nat.mod_eq_of_lt hj]
    · rw [List.getElem?_append_right hj, ih]
      have e2 : j % z.cells.length = (j - z.cells.length) % z.cells.length := by
        rw [Nat.mod_eq_sub_mod hj]
      by_cases hc : j - z.cells.length < n * z.cells.length
      · rw [if_pos hc, if_pos (by omega), e2]
      · rw [if_neg hc, if_neg (by omega)]

theorem rMake_sound (hr : RS P ρ I w σ) (t : TypeId) (l c : AV) (vl vc : Value) (hl : V ρ σ I w l vl) (hc : V ρ σ I w c vc) : Eff P ρ σ I w (Instr.makeSlice t vl vc) (rMake P t l c σ) := by
  unfold rMake
  split
  · rename_i el k l' k' c' z hu hz
    simp only [hu] at hz
    rw [hl.d_inv.int_inv, hc.d_inv.int_inv]
    refine .need fun ⟨h1, h2, h3⟩ => .need fun ⟨h4, h5, h6⟩ => ?_
    have hza : zeroA P el ≠ .any := by intro h; rw [h] at hz; simp [toD] at hz
    obtain ⟨zv, z1, z2⟩ := zero_run (P := P) (ρ := ρ) (σ := σ) (I := I) (w := w) hza
    obtain ⟨d1, d2, d3⟩ := toD_cells z2 hz
    have hinfo : ∃ i, P.info? el = some i ∧ i.bytes = P.bytesOf el := by
      cases hi : P.info? el with
      | none => simp [Program.bytesOf, hi] at h3
      | some i => exact ⟨i, rfl, by simp [Program.bytesOf, hi]⟩
    obtain ⟨i, hi, hib⟩ := hinfo
    have hti : (typeInfo el).run P w = .ok i w := by simp [typeInfo, hi]
    have hcb : c' ≤ c' * (P.bytesOf el : Int) := by
      have : c' * 1 ≤ c' * (P.bytesOf el : Int) := Int.mul_le_mul_of_nonneg_left (by omega) (by omega)
      omega
    have wl : IntKind.i64.wrap l' = l' := wrap_id (by omega) (by omega)
    have wc : IntKind.i64.wrap c' = c' := wrap_id (by omega) (by omega)
    have ht1 : ¬ (c' < 0 ∨ (2 : Int) ^ 48 < (i.bytes : Int) * c') := by
      rw [hib, Int.mul_comm]; omega
    obtain ⟨n, hn⟩ : ∃ n, n = c'.toNat * P.cellsOf el := ⟨_, rfl⟩
    let zero : Array Value := if n = 0 then #[] else zv.cells
    let us : Array Value := (Array.range n).map (zero[· % zero.size]!)
    have hrun : (Instr.makeSlice t (.int k l') (.int k' c')).run P w = .ok (.slice (some ⟨w.heap.size, 0, none⟩) l'.toNat c'.toNat) (w.alloc (.cells us el)) := by
      have hcond : ((decide (c' < 0) || decide ((i.bytes : Int) * c' > 2 ^ 48)) || decide (l' < 0) || decide (l' > c')) = false := by
        simp only [Bool.or_eq_false_iff, decide_eq_false_iff_not]
        refine ⟨⟨⟨fun h => ht1 (.inl h), fun h => ht1 (.inr h)⟩, by omega⟩, by omega⟩
      by_cases h0 : n = 0
      · have e1 : us = (Array.range (c'.toNat * P.cellsOf el)).map (fun x => (#[] : Array Value)[x % (#[] : Array Value).size]!) := by simp only [us, zero, h0, if_true]; rw [← hn, h0]
        simp only [Instr.makeSlice, Sem.run_bind, run_underlying hu, Result.andThen_ok, asInt, asIntOf, Sem.run_pure, hti, wl, wc, hcond, Sem.run_ite, Bool.false_eq_true, if_false, run_askRoom, run_sizeOf_pos h1]
        rw [if_pos (show c'.toNat * P.cellsOf el = 0 by omega)]
        rw [← e1]; simp [newRow]
      · have e1 : us = (Array.range (c'.toNat * P.cellsOf el)).map (fun x => zv.cells[x % zv.cells.size]!) := by simp only [us, zero, h0, if_false]; rw [← hn]
        simp only [Instr.makeSlice, Sem.run_bind, run_underlying hu, Result.andThen_ok, asInt, asIntOf, Sem.run_pure, hti, wl, wc, hcond, Sem.run_ite, Bool.false_eq_true, if_false, run_askRoom, run_sizeOf_pos h1]
        rw [if_neg (show ¬ c'.toNat * P.cellsOf el = 0 by omega)]
        simp only [z1, Result.andThen_ok]
        rw [← e1]; simp [newRow]
    have hrun' : (Instr.makeSlice t (.int k l') (.int k' c')).run P w = .ok (.slice (some ⟨w.heap.size, 0, none⟩) (List.replicate l'.toNat z).length c'.toNat) (w.alloc (.cells us el)) := by simpa using hrun
    refine newArr_eff (el := el) (us := us) (cap := c'.toNat) hr hrun' ⟨w.drawn, rfl⟩ (by simp [us, hn]) (by simp; omega) (fun x hx => ?_) (fun j cc hj => ?_)
    · rw [List.eq_of_mem_replicate hx]; exact ⟨h2, toD_plain hz⟩
    · rw [flat_replicate _ _ _ (by omega)] at hj
      split at hj
      · rename_i hlt
        rw [h2] at hlt hj
        have hjn : j < n := by
          have : l'.toNat * P.cellsOf el ≤ c'.toNat * P.cellsOf el := Nat.mul_le_mul_right _ (by omega)
          omega
        have hn0 : n ≠ 0 := by omega
        have := d2 _ cc hj
        have e : us.getD j undef = zv.cells.getD (j % P.cellsOf el) undef := by
          have hm : j % P.cellsOf el < zv.cells.size := by rw [← d1, h2]; exact Nat.mod_lt _ h1
          simp only [us, zero, hn0, if_false, Array.getD_eq_getD_getElem?]
          rw [show zv.cells.size = P.cellsOf el by omega]
          simp [hjn, getElem!_def, hm]
        rw [e]; exact this
      · cases hj
  · exact Eff.bad

/- freezing: a slice of the call's own becomes data -/
def rFreeze (x : AV) (σ : ST) : Res :=
  match x with
  | .own b g off n => match stGet σ b with
    | .arr g' e xs => .need (g = g' ∧ off + n ≤ xs.length) (.ok (.d (.list e ((xs.drop off).take n))) (stSet σ b .dead))
    | _ => .bad
  | .d .nilslice => .ok (.d .nilslice) σ
  | .d (.list e xs) => .ok (.d (.list e xs)) σ
  | _ => .bad
attribute [go_sem] rFreeze

theorem rFreeze_sound (hr : RS P ρ I w σ) (x : AV) (v : Value) (hx : V ρ σ I w x v) {s : Sem Value} (hs : s.run P w = .ok v w) : Eff P ρ σ I w s (rFreeze x σ) := by
  unfold rFreeze
  split
  · rename_i b g off n
    split
    · rename_i g' e xs hst
      have hsb := stGet_some hst (by simp)
      refine .need fun ⟨hg, hlen⟩ => ?_
      subst hg
      have hblt : b < σ.length := by rcases Nat.lt_or_ge b σ.length with h' | h'; exact h'; simp [List.getElem?_eq_none h'] at hsb
      intro R hR
      let I' : Nat → Prop := fun B => I B ∨ (ρ b).blk = some B
      have hstep : Step ρ I w σ ρ I' w (stSet σ b .dead) := by
        refine ⟨fun _ _ _ => rfl, fun _ h => .inl h, fun B h => h.elim .inl (fun h => .inr (.inl ⟨b, _, hsb, trivial, h⟩)), fun B h => ?_, Nat.le_refl _, fun i bl h => ?_, Around.refl w⟩
        · obtain ⟨i, bl, h1, h2, h3⟩ := h
          by_cases hi : i = b
          · subst hi; simp [stSet, hblt] at h1; subst h1; exact h2.elim
          · rw [stSet, List.getElem?_set_ne (by omega)] at h1; exact .inl ⟨i, bl, h1, h2, h3⟩
        · by_cases hi : i = b
          · subst hi; rw [hsb] at h; cases h; exact ⟨.dead, by simp [stSet, hblt], trivial⟩
          · exact ⟨bl, by rw [stSet, List.getElem?_set_ne (by omega)]; exact h, Compat.refl _ _⟩
      have hrs : RS P ρ I' w (stSet σ b .dead) := by
        refine ⟨fun i bl h => ?_, fun i j bi bj B hi hj li lj hBi hBj => ?_, fun B hl hI => ?_, fun B hI => ?_, hstep.tabs hr⟩
        · by_cases hi : i = b
          · subst hi; simp [stSet, hblt] at h; subst h; exact .dead
          · rw [stSet, List.getElem?_set_ne (by omega)] at h
            exact RB.step hr hstep (fun _ _ => rfl) (hr.blk i bl h)
        · by_cases hi' : i = b
          · subst hi'; simp [stSet, hblt] at hi; subst hi; exact li.elim
          · by_cases hj' : j = b
            · subst hj'; simp [stSet, hblt] at hj; subst hj; exact lj.elim
            · rw [stSet, List.getElem?_set_ne (by omega)] at hi hj
              exact hr.inj i j bi bj B hi hj li lj hBi hBj
        · obtain ⟨i, bl, h1, h2, h3⟩ := hl
          by_cases hi : i = b
          · subst hi; simp [stSet, hblt] at h1; subst h1; exact h2.elim
          · rw [stSet, List.getElem?_set_ne (by omega)] at h1
            rcases hI with hI | hI
            · exact hr.sep B ⟨i, bl, h1, h2, h3⟩ hI
            · exact hi (hr.inj i b bl _ B h1 hsb h2 trivial h3 hI)
        · rcases hI with hI | hI
          · exact hr.bound B hI
          · exact lives_heap hr ⟨b, _, hsb, trivial, hI⟩
      refine ⟨v, _, w, ρ, I', _, hs, hstep, hrs, .d ?_, hR⟩
      cases hx with
      | ownOld k1 k2 => rw [hsb] at k1; cases k1; exact absurd (k2 _ _ _ rfl) (by omega)
      | @ownNil _ _ _ _ _ p k1 k2 =>
        simp only [List.take_zero]
        cases p with
        | none => exact .listNil _ _
        | some a =>
          obtain ⟨B, o, sp⟩ := a
          have := (k2 _ rfl).1
          simp only at this
          subst this
          exact .list (fun _ => undef) rfl (Nat.le_refl _) (by simp) (by simp [flat]) (by simp [flat])
      | own k1 k2 k3 k4 =>
        rw [hsb] at k1; cases k1
        rename_i B cap
        obtain ⟨us, q1, q2, q3, q4, q5⟩ := hr.arr hsb k2
        have hln : ((xs.drop off).take n).length = n := by simp; omega
        have hget : ∀ j c, (flat ((xs.drop off).take n))[j]? = some c → (flat xs)[off * e + j]? = some c ∧ j < n * e := by
          intro j c hj
          rw [flat_take (fun x hx => q4 x (List.mem_of_mem_drop hx)), flat_drop q4, List.getElem?_take] at hj
          split at hj
          · rename_i hlt; rw [List.getElem?_drop] at hj; exact ⟨hj, hlt⟩
          · cases hj
        refine .list (fun j => us.getD ((ρ b).base + off * e + j) undef) hln.symm k3 (fun x hx => q4 x (List.mem_of_mem_drop (List.mem_of_mem_take hx))) (fun j c hj => ?_) (fun j c hj => ?_)
        · obtain ⟨h1, h2⟩ := hget j c hj
          refine ⟨.inr k2, cell_of_heap q1 ?_⟩
          have : (off + n) * e ≤ (ρ b).cap * e := Nat.mul_le_mul_right _ (by omega)
          rw [Nat.add_mul] at this; omega
        · obtain ⟨h1, h2⟩ := hget j c hj
          have := q5 _ _ h1
          rw [← Nat.add_assoc] at this
          exact hstep.vd hr this
    · exact Eff.bad
  · exact Pev.eff hr (.ok hs hx)
  · exact Pev.eff hr (.ok hs hx)
  · exact Eff.bad

/- a nil slice that is taken over avl one of the call's own -/
def rNilOwn (e : ET) (x : AV) (σ : ST) : Res :=
  match x with
  | .d .nilslice => .ok (.own σ.length 0 0 0) (σ ++ [.arr 0 e []])
  | .own b g off n => .ok (.own b g off n) σ
  | _ => .bad
attribute [go_sem] rNilOwn
theorem rNilOwn_sound (hr : RS P ρ I w σ) (e : ET) (x : AV) (v : Value) (hx : V ρ σ I w x v) {s : Sem Value} (hs : s.run P w = .ok v w) : Eff P ρ σ I w s (rNilOwn e x σ) := by
  unfold rNilOwn
  split
  · cases hx.d_inv
    intro R hR
    let p : Place := ⟨none, 0, 0⟩
    have hp : ∀ B, p.blk = some B → w.heap.size ≤ B := fun B hB => by cases hB
    have hst := step_push (w' := w) hr (.arr 0 e []) p (Ext.of (Nat.le_refl _)) (fun _ _ => rfl) hp
    exact ⟨_, _, w, _, I, _, hs, hst, rs_push hr _ p (Ext.of (Nat.le_refl _)) (fun _ _ => rfl) hp (.arrNil rfl rfl), .ownNil (e := e) (xs := []) (by simp) (fun _ h => by cases h), hR⟩
  · exact fun R hR => ⟨v, _, w, ρ, I, σ, hs, Step.refl _ _ _ _, hr, hx, hR⟩
  · exact Eff.bad

/- a nil slice avl a list without elements -/
def rNilList (e : Nat) (x : AV) (σ : ST) : Res :=
  match x with
  | .d .nilslice => .ok (.d (.list e [])) σ
  | .own b g off n => rFreeze (.own b g off n) σ
  | x => .ok x σ
attribute [go_sem] rNilList
theorem rNilList_sound (hr : RS P ρ I w σ) (e : Nat) (x : AV) (v : Value) (hx : V ρ σ I w x v) {s : Sem Value} (hs : s.run P w = .ok v w) : Eff P ρ σ I w s (rNilList e x σ) := by
  unfold rNilList
  split
  · cases hx.d_inv; exact Pev.eff hr (.ok hs (.d (.listNil _ _)))
  · exact rFreeze_sound hr _ _ hx hs
  · exact Pev.eff hr (.ok hs hx)

theorem rNil_sound (x : AV) (v : Value) (hx : V ρ σ I w x v) (h : rNil x σ ≠ .bad) : rNil x σ = .ok x σ ∧ v ≠ .pointer none ∧ v ≠ .nilIface ∧ v ≠ .nilFunc ∧ ∀ n f c, v ≠ .func (.method n) f c := by
  unfold rNil at h ⊢
  split at h
  · refine ⟨rfl, ?_⟩; cases hx; simp
  · refine ⟨rfl, ?_⟩; cases hx; simp
  · refine ⟨rfl, ?_⟩; cases hx.d_inv; simp
  · refine ⟨rfl, ?_⟩; cases hx; simp
  · refine ⟨rfl, ?_⟩; cases hx.d_inv; simp
  · refine ⟨rfl, ?_⟩; cases hx; simp
  · exact absurd rfl h
end
end Nv
/- Pointers turned to pointers of no type and back, and the address of a row's first element: soundness. -/



set_option linter.unusedVariables false
set_option linter.unusedSimpArgs false
namespace Nv
open Go

section
variable {P : Program} {ρ ρ' : RHO} {σ σ' : ST} {I I' : Nat → Prop} {w w' : World}

theorem Step.more (hsz : Ext w w') (h : ∀ b, b < w.heap.size → w'.heap[b]? = w.heap[b]?) : Step ρ I w σ ρ I w' σ :=
  ⟨fun b hb _ => h b hb, fun _ h => h, fun _ h => .inl h, fun _ h => .inl h, hsz.size, fun b blk h => ⟨blk, h, Compat.refl _ _⟩, hsz.env⟩

theorem lt_of_heap {b : Nat} {o : Obj} (h : w.heap[b]? = some o) : b < w.heap.size := (Array.getElem?_eq_some_iff.1 h).1

theorem RS.more (hr : RS P ρ I w σ) (hsz : Ext w w') (h : ∀ b, b < w.heap.size → w'.heap[b]? = w.heap[b]?) : RS P ρ I w' σ := by
  have hs : Step ρ I w σ ρ I w' σ := Step.more hsz h
  refine ⟨fun i blk hi => ?_, hr.inj, hr.sep, fun B hB => Nat.lt_of_lt_of_le (hr.bound B hB) hsz.size, hs.tabs hr⟩
  have hb := hr.blk i blk hi
  cases hb with
  | box h1 h2 h3 h4 => exact .box h1 (by rw [h _ (lt_of_heap h2)]; exact h2) h3 (fun j c hj => hs.v hr (h4 j c hj))
  | arrNil h1 h2 => exact .arrNil h1 h2
  | map h1 h2 h3 h4 => exact .map h1 (by rw [h _ (lt_of_heap h2)]; exact h2) h3 (fun j y hj => let ⟨e, k1, k2, k3⟩ := h4 j y hj; ⟨e, k1, hs.vd hr k2, hs.vd hr k3⟩)
  | iter h1 h2 => exact .iter h1 (by rw [h _ (lt_of_heap h2)]; exact h2)
  | arr h1 h2 h3 h4 h5 h6 => exact .arr h1 (by rw [h _ (lt_of_heap h2)]; exact h2) h3 h4 h5 (fun j c hj => hs.vd hr (h6 j c hj))
  | dead => exact .dead

/-- Whether a variable of a type lies at a place of a box. -/
def liesB (P : Program) (e n o u : Nat) : Bool := liesAt P P.depth e (n / P.cellsOf e) o u 1

def rConvU (P : Program) (s d : TypeId) (b o : Nat) (σ : ST) : Res :=
  match P.underlying s, P.underlying d with
  | some (.pointer t), some .unsafePointer => match stGet σ b with
    | .box e cs => .need (0 < P.cellsOf t ∧ o < cs.length) (.ok (.ptr b o) σ)
    | _ => .bad
  | some .unsafePointer, some (.pointer u) => match stGet σ b with
    | .box e cs => .need (0 < P.cellsOf u ∧ liesB P e cs.length o u = true) (.ok (.ptr b o) σ)
    | _ => .bad
  | _, _ => .bad

theorem info_of {t : TypeId} (h : 0 < P.cellsOf t) : ∃ j, P.info? t = some j ∧ j.size ≠ 0 := by
  unfold Program.cellsOf at h
  cases hi : P.info? t with
  | none => simp [hi] at h
  | some i => exact ⟨i, rfl, by simp [hi] at h; omega⟩

theorem rConvU_sound (hr : RS P ρ I w σ) (s d : TypeId) (b o : Nat) (v : Value) (hx : V ρ σ I w (.ptr b o) v) : Pev P ρ σ I w (convert s d v) (rConvU P s d b o σ) := by
  unfold rConvU
  split
  · rename_i t hs hd
    split
    · rename_i e cs hst
      have hsb := stGet_some hst (by simp)
      refine .need fun ⟨hz, ho⟩ => ?_
      obtain ⟨j, hj, hj0⟩ := info_of hz
      cases hx with | ptr k1 k2 =>
      rw [hsb] at k1; cases k1
      rename_i B
      obtain ⟨us, q1, q2, q3⟩ := hr.box hsb k2
      have hsh : w.shape? B = some (e, us.size) := by simp [World.shape?, q1]
      exact .ok (Lib.run_to_unsafe w ⟨B, o, none⟩ hs hd hj hj0 hsh (by show o < us.size; omega)) (.ptr hsb k2)
    · exact .bad
  · rename_i u hs hd
    split
    · rename_i e cs hst
      have hsb := stGet_some hst (by simp)
      refine .need fun ⟨hz, hl⟩ => ?_
      obtain ⟨j, hj, hj0⟩ := info_of hz
      cases hx with | ptr k1 k2 =>
      rw [hsb] at k1; cases k1
      rename_i B
      obtain ⟨us, q1, q2, q3⟩ := hr.box hsb k2
      have hsh : w.shape? B = some (e, us.size) := by simp [World.shape?, q1]
      refine .ok (Lib.run_from_unsafe w ⟨B, o, none⟩ hs hd hj hsh ?_) (.ptr hsb k2)
      rw [← q2]; exact hl
    · exact .bad
  · exact .bad

/-- A conversion. -/
def rCv (P : Program) (s d : TypeId) (x : AV) (σ : ST) : Res :=
  match x with
  | .ptr b o => rConvU P s d b o σ
  | x => rConv P s d x σ
@[go_sem] theorem rCv_ptr (s d : TypeId) (b o : Nat) (σ : ST) : rCv P s d (.ptr b o) σ = rConvU P s d b o σ := nrfl rfl
@[go_sem] theorem rCv_d (s d : TypeId) (x : DV) (σ : ST) : rCv P s d (.d x) σ = rConv P s d (.d x) σ := nrfl rfl
theorem rCv_sound (hr : RS P ρ I w σ) (s d : TypeId) (x : AV) (v : Value) (hx : V ρ σ I w x v) : Pev P ρ σ I w (convert s d v) (rCv P s d x σ) := by
  unfold rCv
  split
  · exact rConvU_sound hr s d _ _ v hx
  · exact rConv_sound s d _ v hx

/- the first element's address -/
def rUSD (P : Program) (ty : TypeId) (x : AV) (σ : ST) : Res :=
  match P.underlying ty, x with
  | some (.pointer _), .d .nilslice => .ok .aptr σ
  | some (.pointer _), .own b g off n => match stGet σ b with
    | .arr g' e xs => .need (g = g') (bif Nat.beq n 0 then .ok .aptr σ else .ok (.eptr b g off 0) σ)
    | _ => .bad
  | _, _ => .bad

theorem rUSD_sound (hr : RS P ρ I w σ) (ts : Array TypeId) (ty : TypeId) (x : AV) (v : Value) (hx : V ρ σ I w x v) : Eff P ρ σ I w (Builtin.unsafeSliceData_ ts ty #[v]) (rUSD P ty x σ) := by
  unfold rUSD
  split
  · cases hx.d_inv
    exact Pev.eff hr (.ok (Lib.run_unsafeSliceData_nil w ts ty 0 0) (.aptr _))
  · rename_i pe b g off n hp
    split
    · rename_i g' e xs hst
      have hsb := stGet_some hst (by simp)
      refine .need fun hg => ?_
      subst hg
      have pos : ∀ (a : Addr) (c : Nat), c ≠ 0 → V ρ σ I w (bif Nat.beq n 0 then .aptr else .eptr b g off 0) (.pointer (some a)) →
          Eff P ρ σ I w (Builtin.unsafeSliceData_ ts ty #[.slice (some a) n c]) (bif Nat.beq n 0 then .ok .aptr σ else .ok (.eptr b g off 0) σ) := by
        intro a c hc hv
        have h := Lib.run_unsafeSliceData_row (P := P) w ts ty a n c hc
        cases hb : Nat.beq n 0
        · rw [hb] at hv; exact Pev.eff hr (.ok h hv)
        · rw [hb] at hv; exact Pev.eff hr (.ok h hv)
      have zero : ∀ (a : Addr), n = 0 → (∃ sh, w.shape? a.block = some sh) →
          Eff P ρ σ I w (Builtin.unsafeSliceData_ ts ty #[.slice (some a) n 0]) (bif Nat.beq n 0 then .ok .aptr σ else .ok (.eptr b g off 0) σ) := by
        rintro a rfl ⟨sh, hsh⟩ R hR
        have h := Lib.run_unsafeSliceData_zero (P := P) w ts ty pe hp a 0 sh hsh
        have hsz : Ext w (w.alloc (.view a pe)) := Ext.of (by rw [push_size]; omega)
        exact ⟨_, .aptr, _, ρ, I, σ, h, Step.more hsz (push_old w _), hr.more hsz (push_old w _), .aptr _, hR⟩
      cases hx with
      | ownOld k1 k2 => rw [hsb] at k1; cases k1; exact absurd (k2 _ _ _ rfl) (by omega)
      | @ownNil _ _ _ _ _ p k1 k2 =>
        cases p with
        | none => exact Pev.eff hr (.ok (Lib.run_unsafeSliceData_nil w ts ty 0 0) (.aptr _))
        | some a =>
          have hlt := (k2 a rfl).2
          obtain ⟨o, ho⟩ : ∃ o, w.heap[a.block]? = some o := ⟨_, Array.getElem?_eq_getElem hlt⟩
          have hdef : Builtin.unsafeSliceData_ ts ty #[.slice (some a) 0 0] =
              (do
                if (0 : Nat) ≠ 0 then pure (.pointer (some a))
                else if (← viewAt a.block).isSome then pure (.pointer (some a))
                else pure (.pointer (some ⟨← newObj (.view a (← elemOf ty)), 0, none⟩))) := rfl
          have fresh : (Builtin.unsafeSliceData_ ts ty #[.slice (some a) 0 0]).run P w = .ok (.pointer (some ⟨w.heap.size, 0, none⟩)) (w.alloc (.view a pe)) →
              Eff P ρ σ I w (Builtin.unsafeSliceData_ ts ty #[.slice (some a) 0 0]) (bif Nat.beq 0 0 then .ok .aptr σ else .ok (.eptr b g off 0) σ) := by
            intro h R hR
            have hsz : Ext w (w.alloc (.view a pe)) := Ext.of (by rw [push_size]; omega)
            exact ⟨_, .aptr, _, ρ, I, σ, h, Step.more hsz (push_old w _), hr.more hsz (push_old w _), .aptr _, hR⟩
          have hg : (∀ us t f, o ≠ .cells us t f) → (getObj a.block).run P w = .ok o w := by
            intro h
            cases o <;> first | exact absurd rfl (h _ _ _) | simp [getObj, Sem.run, ho]
          cases o with
          | cells us t f => exact zero a rfl ⟨(t, us.size), by simp [World.shape?, ho]⟩
          | view a' t => exact Pev.eff hr (.ok (v := .pointer (some a)) (by rw [hdef]; simp [viewAt, World.shape?, ho, hg (by simp)]) (.aptr _))
          | _ => exact fresh (by rw [hdef]; simp [viewAt, World.shape?, ho, hg (by simp), elemOf, run_underlying hp])
      | own k1 k2 k3 k4 =>
        rw [hsb] at k1; cases k1
        rename_i B cap
        obtain ⟨us, q1, q2, q3, q4, q5⟩ := hr.arr hsb k2
        by_cases hc : cap = 0
        · subst hc
          exact zero _ (by omega) ⟨_, by simp [World.shape?, q1]; rfl⟩
        · refine pos _ cap hc ?_
          cases hb : Nat.beq n 0
          · exact .eptr hsb k2
          · exact .aptr _
    · exact Eff.bad
  · exact Eff.bad

end
end Nv
/- A string over a row of the call's own: soundness. -/

set_option linter.unusedVariables false
set_option linter.unusedSimpArgs false
namespace Nv
open Go

section
variable {P : Program} {ρ ρ' : RHO} {σ σ' : ST} {I I' : Nat → Prop} {w w' : World}

/- bytes -/
def isB : DV → Bool
  | .int .u8 n => decide (0 ≤ n ∧ n < 256)
  | _ => false
def ofB : DV → UInt8
  | .int _ n => n.toNat.toUInt8
  | _ => 0
@[go_sem] theorem isB_u8 (b : UInt8) : isB (.int .u8 (b.toNat : Nat)) = true := by
  have := b.toNat_lt
  simp [isB]; omega
@[go_sem] theorem ofB_u8 (b : UInt8) : ofB (.int .u8 (b.toNat : Nat)) = b := by simp [ofB]
theorem isB_cell {x : DV} (h : isB x = true) : x = .int .u8 ((ofB x).toNat : Nat) := by
  cases x <;> simp [isB] at h
  rename_i k n
  cases k <;> simp [isB] at h
  simp only [ofB, UInt8.toNat_ofNat']
  congr 1
  omega

def rUStr (P : Program) (t : TypeId) (x n : AV) (σ : ST) : Res :=
  match P.underlying t, x, n with
  | some (.pointer _), .aptr, .d (.int .i64 n) => .need (n = 0) (.ok (.d (.str [])) σ)
  | some (.pointer el), .eptr b g i o, .d (.int .i64 n) => match stGet σ b with
    | .arr g' e xs => .need (g = g' ∧ o = 0 ∧ e.n = 1 ∧ e.t = el ∧ P.cellsOf el = 1 ∧ 0 < n ∧ i + n.toNat ≤ xs.length ∧ n ≤ 9223372036854775807 ∧ ((xs.drop i).take n.toNat).all isB = true)
        (.ok (.d (.str (((xs.drop i).take n.toNat).map ofB))) (stSet σ b .dead))
    | _ => .bad
  | _, _, _ => .bad

theorem liesAt_bytes_at {e : TypeId} (hc : P.cellsOf e = 1) (count off n : Nat) (hn : off + n ≤ count) : liesAt P P.depth e count off e n = true := by
  have hd : P.depth = (2 * (P.types.size + Made.depth) + 1) + 1 := rfl
  rw [hd]
  simp only [liesAt, Bool.or_eq_true]
  left
  rw [hd]
  simp [rowAt, hc, hn, sameLayout, Nat.mod_one]

theorem run_unsafeString_at (ts : Array TypeId) (pt ty e : TypeId) (ht : ts[0]? = some pt) (hp : P.underlying pt = some (.pointer e)) (hc : P.cellsOf e = 1) (g off cells : Nat) (hsh : w.shape? g = some (e, cells)) (l : List UInt8) (h0 : l ≠ []) (hn : off + l.length ≤ cells) (h63 : l.length ≤ 9223372036854775807)
    (hcell : ∀ j x, l[j]? = some x → w.cell? ((⟨g, off, none⟩ : Addr).add j) = some (.int .u8 x.toNat)) :
    (Builtin.unsafeString_ ts ty #[.pointer (some ⟨g, off, none⟩), .int .i64 l.length]).run P w = .ok (.string ⟨l.toArray⟩) (w.freeze ⟨g, off, none⟩ l.length) := by
  have hl : l.length ≠ 0 := by simpa using h0
  have hlb := Lib.run_loadBytes (P := P) w l ⟨g, off, none⟩ .empty hcell
  have hlies := liesAt_bytes_at (P := P) hc (cells / P.cellsOf e) off l.length (by rw [hc]; simpa using hn)
  have h63' : ¬ (9223372036854775807 : Int) < (l.length : Int) := by omega
  obtain ⟨s1, s2, s3, s4, hdef⟩ : ∃ s1 s2 s3 s4 : String, Builtin.unsafeString_ ts ty #[.pointer (some ⟨g, off, none⟩), .int .i64 l.length] =
      (do
        let n ← asInt (.int .i64 l.length)
        let some pt := ts[0]? | stuck s1
        if n < 0 then runtimePanic (.error s2)
        if n > IntKind.i64.max then unsupported (.unsafePointer s3)
        if n = 0 then pure (.string .empty)
        else if ← variablesAt ⟨g, off, none⟩ (← elemOf pt) n.toNat then do
          let s ← loadBytes ⟨g, off, none⟩ .empty n.toNat
          freeze ⟨g, off, none⟩ n.toNat
          pure (.string s)
        else unsupported (.unsafePointer s4)) := ⟨_, _, _, _, rfl⟩
  rw [hdef]
  have hmax : IntKind.i64.max = 9223372036854775807 := rfl
  have hneg : ¬ (l.length : Int) < 0 := by omega
  simp [asInt, asIntOf, hmax, h63', hneg, hl, variablesAt, hsh, elemOf, run_underlying hp, hlies, hlb, ht]

theorem run_unsafeString_no (ts : Array TypeId) (pt ty : TypeId) (ht : ts[0]? = some pt) (p : Option Addr) : (Builtin.unsafeString_ ts ty #[.pointer p, .int .i64 0]).run P w = .ok (.string .empty) w := by
  have hmax : IntKind.i64.max = 9223372036854775807 := rfl
  cases p with
  | none =>
    obtain ⟨s1, s2, s3, s4, hdef⟩ : ∃ s1 s2 s3 s4 : String, Builtin.unsafeString_ ts ty #[.pointer none, .int .i64 0] =
        (do
          let n ← asInt (.int .i64 0)
          let some pt := ts[0]? | stuck s1
          if n < 0 then runtimePanic (.error s2)
          if n > IntKind.i64.max then unsupported (.unsafePointer s3)
          if n = 0 then pure (.string .empty)
          else runtimePanic (.error s4)) := ⟨_, _, _, _, rfl⟩
    rw [hdef]
    simp [asInt, asIntOf, hmax, ht]
  | some a =>
    obtain ⟨s1, s2, s3, s4, hdef⟩ : ∃ s1 s2 s3 s4 : String, Builtin.unsafeString_ ts ty #[.pointer (some a), .int .i64 0] =
        (do
          let n ← asInt (.int .i64 0)
          let some pt := ts[0]? | stuck s1
          if n < 0 then runtimePanic (.error s2)
          if n > IntKind.i64.max then unsupported (.unsafePointer s3)
          if n = 0 then pure (.string .empty)
          else if ← variablesAt a (← elemOf pt) n.toNat then do
            let s ← loadBytes a .empty n.toNat
            freeze a n.toNat
            pure (.string s)
          else unsupported (.unsafePointer s4)) := ⟨_, _, _, _, rfl⟩
    rw [hdef]
    simp [asInt, asIntOf, hmax, ht]

theorem rUStr_sound (hr : RS P ρ I w σ) (t ty : TypeId) (ts : Array TypeId) (x n : AV) (v u : Value) (ht : ts[0]? = some t) (hx : V ρ σ I w x v) (hn : V ρ σ I w n u) :
    Eff P ρ σ I w (Builtin.unsafeString_ ts ty #[v, u]) (rUStr P t x n σ) := by
  unfold rUStr
  split
  · rename_i pe n hp
    cases hn.d_inv.int_inv
    cases hx with | aptr p =>
    refine Eff.need fun h0 => ?_
    subst h0
    exact Pev.eff hr (.ok (run_unsafeString_no ts t ty ht p) (.d (.str [])))
  · rename_i el b g i o n hp
    cases hn.d_inv.int_inv
    split
    · rename_i g' e xs hst
      have hsb := stGet_some hst (by simp)
      have hblt : b < σ.length := by rcases Nat.lt_or_ge b σ.length with h' | h'; exact h'; simp [List.getElem?_eq_none h'] at hsb
      refine Eff.need fun ⟨hg, ho, he1, het, hc, hn0, hin, hnm, hall⟩ => ?_
      subst hg ho het
      cases hx with
      | eptrOld k1 k2 => rw [hsb] at k1; cases k1; exact absurd (k2 _ _ _ rfl) (by omega)
      | eptr k1 k2 =>
        rw [hsb] at k1; cases k1
        rename_i B
        obtain ⟨us, q1, q2, q3, q4, q5⟩ := hr.arr hsb k2
        rw [he1, Nat.mul_one] at q2
        rw [he1, Nat.mul_one, Nat.add_zero]
        have hcl : ∀ ys : List DV, (∀ y ∈ ys, isB y = true) → flat ys = ys := by
          intro ys h
          induction ys with
          | nil => rfl
          | cons y ys ih =>
            have h1 : y.cells = [y] := by rw [isB_cell (h y (by simp))]; rfl
            show y.cells ++ flat ys = _
            rw [h1, ih (fun z hz => h z (by simp [hz]))]; rfl
        have hall' : ∀ y ∈ (xs.drop i).take n.toNat, isB y = true := by simpa using hall
        have hlen : ((xs.drop i).take n.toNat).length = n.toNat := by simp; omega
        have hflat : ∀ j x, ((xs.drop i).take n.toNat)[j]? = some x → (flat xs)[i + j]? = some x := by
          intro j x hj
          have h1 : (flat ((xs.drop i).take n.toNat))[j]? = some x := by rw [hcl _ hall']; exact hj
          rw [flat_take (fun x hx => q4 x (List.mem_of_mem_drop hx)), flat_drop q4, he1, Nat.mul_one, Nat.mul_one, List.getElem?_take] at h1
          split at h1
          · rwa [List.getElem?_drop] at h1
          · cases h1
        obtain ⟨l, hl⟩ : ∃ l, l = ((xs.drop i).take n.toNat).map ofB := ⟨_, rfl⟩
        rw [← hl]
        have hll : l.length = n.toNat := by rw [hl, List.length_map, hlen]
        have hrun := run_unsafeString_at (P := P) (w := w) ts t ty e.t ht hp hc B ((ρ b).base + i) us.size (by simp [World.shape?, q1]) l (by intro h; rw [h] at hll; simp at hll; omega) (by rw [hll]; omega) (by rw [hll]; omega) (by
          intro j x hj
          simp only [hl, List.getElem?_map, Option.map_eq_some_iff] at hj
          obtain ⟨y, hy, rfl⟩ := hj
          have hy' := hflat j y hy
          have hyB : isB y = true := hall' y (List.mem_of_getElem? hy)
          have hvd := q5 _ _ hy'
          rw [isB_cell hyB] at hvd
          have hv := hvd.int_inv
          have hj' : j < n.toNat := by
            rcases Nat.lt_or_ge j n.toNat with h | h
            · exact h
            · rw [List.getElem?_eq_none (by omega)] at hy; cases hy
          have : (ρ b).base + i + j < us.size := by omega
          rw [Addr.add_lit]
          rw [← Nat.add_assoc] at hv
          rw [cell_of_heap q1 this, hv])
        have hnn : ((n.toNat : Nat) : Int) = n := by omega
        rw [hll, hnn] at hrun
        intro R hR
        have hfz : ∀ B', B' ≠ B → (w.freeze ⟨B, (ρ b).base + i, none⟩ n.toNat).heap[B']? = w.heap[B']? := by
          intro B' hne
          unfold World.freeze
          split
          · rfl
          · simp only [Array.getElem?_modify]; rw [if_neg (by omega)]
        have hfs : (w.freeze ⟨B, (ρ b).base + i, none⟩ n.toNat).heap.size = w.heap.size := by
          unfold World.freeze
          split
          · rfl
          · simp
        have hfe : Around w (w.freeze ⟨B, (ρ b).base + i, none⟩ n.toNat) := by
          unfold World.freeze
          split
          · exact Around.refl w
          · exact ⟨rfl, rfl, rfl⟩
        generalize hw' : w.freeze ⟨B, (ρ b).base + i, none⟩ n.toNat = w' at *
        have hstep : Step ρ I w σ ρ I w' (stSet σ b .dead) := by
          refine ⟨fun B' _ hl => hfz B' (fun h => hl (by subst h; exact ⟨b, _, hsb, trivial, k2⟩)), fun _ h => h, fun B h => .inl h, fun B h => ?_, Nat.le_of_eq hfs.symm, fun i bl h => ?_, hfe⟩
          · obtain ⟨i, bl, h1, h2, h3⟩ := h
            by_cases hi : i = b
            · subst hi; simp [stSet, hblt] at h1; subst h1; exact h2.elim
            · rw [stSet, List.getElem?_set_ne (by omega)] at h1; exact .inl ⟨i, bl, h1, h2, h3⟩
          · by_cases hi : i = b
            · subst hi; rw [hsb] at h; cases h; exact ⟨.dead, by simp [stSet, hblt], trivial⟩
            · exact ⟨bl, by rw [stSet, List.getElem?_set_ne (by omega)]; exact h, Compat.refl _ _⟩
        have hrs : RS P ρ I w' (stSet σ b .dead) := by
          refine ⟨fun i bl h => ?_, fun i j bi bj B hi hj li lj hBi hBj => ?_, fun B hl hI => ?_, fun B hI => hfs ▸ hr.bound B hI, hstep.tabs hr⟩
          · by_cases hi : i = b
            · subst hi; simp [stSet, hblt] at h; subst h; exact .dead
            · rw [stSet, List.getElem?_set_ne (by omega)] at h
              by_cases hlive : bl.live
              · exact RB.step hr hstep (fun B' hB' => hfz B' (fun he => hi (hr.inj i b bl _ B h hsb hlive trivial (by rw [hB', he]) k2))) (hr.blk i bl h)
              · cases bl <;> first | exact .dead | exact absurd trivial hlive
          · by_cases hi' : i = b
            · subst hi'; simp [stSet, hblt] at hi; subst hi; exact li.elim
            · by_cases hj' : j = b
              · subst hj'; simp [stSet, hblt] at hj; subst hj; exact lj.elim
              · rw [stSet, List.getElem?_set_ne (by omega)] at hi hj
                exact hr.inj i j bi bj B hi hj li lj hBi hBj
          · obtain ⟨i, bl, h1, h2, h3⟩ := hl
            by_cases hi : i = b
            · subst hi; simp [stSet, hblt] at h1; subst h1; exact h2.elim
            · rw [stSet, List.getElem?_set_ne (by omega)] at h1
              exact hr.sep B ⟨i, bl, h1, h2, h3⟩ hI
        refine ⟨.string ⟨l.toArray⟩, .d (.str l), w', ρ, I, stSet σ b .dead, ?_, hstep, hrs, .d (.str l), ?_⟩
        · exact hrun
        · exact hR
    · exact Eff.bad
  · exact Eff.bad
end
end Nv
/- A string turned to its runes: soundness. -/


set_option linter.unusedVariables false
set_option linter.unusedSimpArgs false
namespace Nv
open Go

section
variable {P : Program} {ρ ρ' : RHO} {σ σ' : ST} {I I' : Nat → Prop} {w w' : World}

def valD : Value → DV
  | .int k n => .int k n
  | _ => default

def runesD (s : List UInt8) : List DV := (Conv.runesFrom ⟨s.toArray⟩ s.length 0 #[]).toList.map valD

theorem runes_ints (s : ByteArray) : ∀ (bound i : Nat) (acc : Array Value), (∀ v, v ∈ acc → ∃ n, v = .int .i32 n) → ∀ v, v ∈ Conv.runesFrom s bound i acc → ∃ n, v = .int .i32 n
  | 0, _, acc, h => by simpa [Conv.runesFrom] using h
  | bound + 1, i, acc, h => by
    unfold Conv.runesFrom
    split
    · refine runes_ints s bound _ _ (fun v hv => ?_)
      rcases Array.mem_push.1 hv with hv | hv
      · exact h v hv
      · exact ⟨_, hv⟩
    · exact h

def rRunes (P : Program) (el : TypeId) (s : List UInt8) (σ : ST) : Res :=
  match P.underlying el with
  | some (.int .i32) => .need (P.cellsOf el = 1 ∧ s.length ≤ 70368744177664) (newArr σ 1 el (runesD s))
  | _ => .bad

theorem rRunes_sound (hr : RS P ρ I w σ) (src dst el : TypeId) (s : List UInt8) (hs : P.underlying src = some .string) (hd : P.underlying dst = some (.slice el)) :
    Eff P ρ σ I w (convert src dst (.string ⟨s.toArray⟩)) (rRunes P el s σ) := by
  unfold rRunes
  split
  · rename_i he
    refine Eff.need fun ⟨hc, hlim⟩ => ?_
    have hsz : (⟨s.toArray⟩ : ByteArray).size = s.length := by simp [ByteArray.size]
    have hle := size_runesFrom ⟨s.toArray⟩ s.length 0 #[]
    simp only [List.size_toArray, List.length_nil, Nat.zero_add] at hle
    have hrun := run_runes_of_string (P := P) w src dst el ⟨s.toArray⟩ hs hd he (by rw [hsz]; omega)
    rw [hsz] at hrun
    generalize hR : Conv.runesFrom ⟨s.toArray⟩ s.length 0 #[] = R at *
    have hints : ∀ v, v ∈ R → ∃ n, v = .int .i32 n := by rw [← hR]; exact runes_ints _ _ _ _ (by simp)
    have hx : runesD s = R.toList.map valD := by unfold runesD; rw [hR]
    have hxl : (runesD s).length = R.size := by rw [hx]; simp
    have hge := grownCap_ge w R.size 0 el
    have hflat : flat (runesD s) = runesD s := by
      rw [hx]
      have : ∀ l : List Value, (∀ v, v ∈ l → ∃ n, v = .int .i32 n) → flat (l.map valD) = l.map valD := by
        intro l
        induction l with
        | nil => intro _; rfl
        | cons v l ih =>
          intro h
          obtain ⟨n, rfl⟩ := h v (by simp)
          show DV.cells (valD _) ++ flat (l.map valD) = _
          rw [ih (fun u hu => h u (by simp [hu]))]; rfl
      exact this _ (fun v hv => hints v (by simpa using hv))
    rw [← hxl] at hrun
    refine newArr_eff hr (cap := grownCap w R.size 0 el) (us := R ++ Array.replicate (grownCap w R.size 0 el - R.size) (.int .i32 0)) (e := 1) (w' := _) ?_ ⟨w.drawn + 1, rfl⟩ (by simp; omega) (by rw [hxl]; exact hge) (fun x hm => ?_) (fun j c hj => ?_)
    · rw [hxl] at hrun ⊢; exact hrun
    · rw [hx] at hm
      obtain ⟨v, hv, rfl⟩ := List.mem_map.1 hm
      obtain ⟨n, rfl⟩ := hints v (by simpa using hv)
      exact ⟨rfl, by simp [valD, DV.isAgg]⟩
    · rw [hflat, hx, List.getElem?_map, Option.map_eq_some_iff] at hj
      obtain ⟨v, hv, rfl⟩ := hj
      have hv' : R[j]? = some v := by simpa using hv
      have hjl : j < R.size := (Array.getElem?_eq_some_iff.1 hv').1
      obtain ⟨n, rfl⟩ := hints v (Array.mem_of_getElem? hv')
      rw [Array.getD_eq_getD_getElem?, Array.getElem?_append_left hjl, hv']
      exact .int _ _
  · exact Eff.bad

/-- A conversion that may make memory. -/
def rCvA (P : Program) (s d : TypeId) (x : AV) (σ : ST) : Res :=
  match P.underlying s, P.underlying d, x with
  | some .string, some (.slice el), .d (.str t) => rRunes P el t σ
  | _, _, x => rCv P s d x σ

theorem rCvA_sound (hr : RS P ρ I w σ) (s d : TypeId) (x : AV) (v : Value) (hx : V ρ σ I w x v) : Eff P ρ σ I w (convert s d v) (rCvA P s d x σ) := by
  unfold rCvA
  split
  · rename_i el t hs hd
    cases hx.d_inv.str_inv
    exact rRunes_sound hr s d el t hs hd
  · exact Pev.eff hr (rCv_sound hr s d _ v hx)

/-- Where the conversion that makes no memory comes to something, it is this one. -/
theorem rCvA_of {s d : TypeId} {x : AV} (h : rCv P s d x σ ≠ .bad) : rCvA P s d x σ = rCv P s d x σ := by
  unfold rCvA
  split
  · rename_i el t hs hd
    exact absurd (by simp [rCv, rConv, hs, hd]) h
  · rfl
end
end Nv
/- Ranging over a string: soundness. -/


set_option linter.unusedVariables false
set_option linter.unusedSimpArgs false
namespace Nv
open Go

section
variable {P : Program} {ρ ρ' : RHO} {σ σ' : ST} {I I' : Nat → Prop} {w w' : World}

def rRange (P : Program) (t : TypeId) (x : AV) (σ : ST) : Res :=
  match P.underlying t, x with
  | some .string, .d (.str s) => .ok (.itr σ.length) (σ ++ [.iter s 0])
  | _, _ => .bad

theorem rRange_sound (hr : RS P ρ I w σ) (t : TypeId) (x : AV) (v : Value) (hx : V ρ σ I w x v) : Eff P ρ σ I w (Instr.range t v) (rRange P t x σ) := by
  unfold rRange
  split
  · rename_i s ht
    cases hx.d_inv.str_inv
    intro R hR
    let p : Place := ⟨some w.heap.size, 0, 0⟩
    have hp : ∀ B, p.blk = some B → w.heap.size ≤ B := fun B hB => by cases hB; exact Nat.le_refl _
    have hsz : Ext w (World.alloc w (.stringIter ⟨s.toArray⟩ 0)) := Ext.of (by rw [push_size]; omega)
    have hst := step_push hr (.iter s 0) p hsz (push_old w _) hp
    have hrun : (Instr.range t (.string ⟨s.toArray⟩)).run P w = .ok (.pointer (some ⟨w.heap.size, 0, none⟩)) (World.alloc w (.stringIter ⟨s.toArray⟩ 0)) := by
      simp [Instr.range, run_underlying ht]
    have hnew : (World.alloc w (.stringIter ⟨s.toArray⟩ 0)).heap[w.heap.size]? = some (.stringIter ⟨s.toArray⟩ 0) := by
      show (w.heap.push _)[w.heap.size]? = _
      simp
    refine ⟨_, .itr σ.length, _, _, I, _, hrun, hst, rs_push hr (.iter s 0) p hsz (push_old w _) hp (.iter rfl hnew), .itr (s := s) (pos := 0) (by simp) (by rw [updR_same]), hR⟩
  · exact Eff.bad

def rNext (x : AV) (str : Bool) (σ : ST) : Res :=
  match x, str with
  | .itr b, true => match stGet σ b with
    | .iter s pos => bif Nat.blt pos s.length then
        .ok (.tuple [.d (.bool true), .d (.int .i64 (pos : Nat)), .d (.int .i32 ((Utf8.decode ⟨s.toArray⟩ pos).1 : Nat))]) (stSet σ b (.iter s (pos + (Utf8.decode ⟨s.toArray⟩ pos).2)))
      else .ok (.tuple [.d (.bool false)]) σ
    | _ => .bad
  | _, _ => .bad

theorem rNext_sound (hr : RS P ρ I w σ) (x : AV) (v : Value) (str : Bool) (ty : TypeId) (hx : V ρ σ I w x v) : Eff P ρ σ I w (Instr.next v str ty) (rNext x str σ) := by
  unfold rNext
  split
  · rename_i b
    split
    · rename_i s pos hst
      have hsb := stGet_some hst (by simp)
      cases hx with | itr k1 k2 =>
      rw [hsb] at k1; cases k1
      rename_i B
      have hrb := hr.blk b _ hsb
      cases hrb with | iter h1 h2 =>
      rw [k2] at h1; cases h1
      have hg : (getObj B).run P w = .ok (.stringIter ⟨s.toArray⟩ pos) w := by simp [getObj, Sem.run, h2]
      have hsl : (⟨s.toArray⟩ : ByteArray).size = s.length := by simp [ByteArray.size]
      cases hlt : Nat.blt pos s.length
      · have hn : ¬ pos < (⟨s.toArray⟩ : ByteArray).size := by
          rw [hsl]; intro h; rw [show Nat.blt pos s.length = true by simpa using h] at hlt; cases hlt
        refine Pev.eff hr (.ok (v := .tuple #[.bool false]) ?_ (.tuple rfl (fun j c hj => ?_)))
        · simp only [Instr.next, Sem.run_bind, hg, Result.andThen_ok, hn, if_false, Sem.run_pure]
        · cases j with
          | zero => simp at hj; subst hj; exact .d (.bool false)
          | succ j => simp at hj
      · have hn : pos < (⟨s.toArray⟩ : ByteArray).size := by rw [hsl]; simpa using hlt
        intro R hR
        obtain ⟨c, wd, hdec⟩ : ∃ c wd, Utf8.decode ⟨s.toArray⟩ pos = (c, wd) := ⟨_, _, rfl⟩
        rw [hdec] at hR
        have hB : B < w.heap.size := (Array.getElem?_eq_some_iff.1 h2).1
        let w' : World := { w with heap := w.heap.set! B (.stringIter ⟨s.toArray⟩ (pos + wd)) }
        have hset : (setObj B (.stringIter ⟨s.toArray⟩ (pos + wd))).run P w = .ok () w' := by simp [setObj, Sem.run, h2, w']
        have hrun : (Instr.next (.pointer (some ⟨B, 0, none⟩)) true ty).run P w = .ok (.tuple #[.bool true, .int .i64 pos, .int .i32 c]) w' := by
          simp only [Instr.next, Sem.run_bind, hg, Result.andThen_ok, hn, if_true, hdec, hset, Sem.run_pure]
          rfl
        have hnew : w'.heap[B]? = some (.stringIter ⟨s.toArray⟩ (pos + wd)) := by
          show (w.heap.set! B _)[B]? = _
          simp [hB]
        have hold : ∀ c, c < w.heap.size → c ≠ B → w'.heap[c]? = w.heap[c]? := fun c _ hc => by
          show (w.heap.set! B _)[c]? = _
          simp [Ne.symm hc]
        have hsz : Ext w w' := Ext.of (by show w.heap.size ≤ (w.heap.set! B _).size; simp)
        have hp : ∀ B', (ρ b).blk = some B' → B' = B ∨ w.heap.size ≤ B' := fun B' h => by rw [k2] at h; cases h; exact .inl rfl
        have hcmp : Compat (.iter s pos) (ρ b) (.iter s (pos + wd)) (ρ b) := ⟨rfl, rfl⟩
        have hstep := step_upd (w' := w') hr hsb k2 trivial (ρ b) hcmp hsz hold hp
        refine ⟨_, .tuple [.d (.bool true), .d (.int .i64 (pos : Nat)), .d (.int .i32 (c : Nat))], w', _, I, _, hrun, hstep, rs_upd hr hsb k2 trivial (ρ b) hcmp hsz hold hp (.iter k2 hnew), .tuple rfl (fun j x hj => ?_), hR⟩
        match j, hj with
        | 0, hj => simp at hj; subst hj; exact .d (.bool true)
        | 1, hj => simp at hj; subst hj; exact .d (.int _ _)
        | 2, hj => simp at hj; subst hj; exact .d (.int _ _)
    · exact Eff.bad
  · exact Eff.bad
end
end Nv
/- Maps keyed by strings: soundness. -/


set_option linter.unusedVariables false
set_option linter.unusedSimpArgs false
namespace Nv
open Go

section
variable {P : Program} {ρ ρ' : RHO} {σ σ' : ST} {I I' : Nat → Prop} {w w' : World}

def rMakeMap (σ : ST) : Res := .ok (.map σ.length) (σ ++ [.map []])

theorem rMakeMap_sound (hr : RS P ρ I w σ) (t : TypeId) : Eff P ρ σ I w (Instr.makeMap t none) (rMakeMap σ) := by
  unfold rMakeMap
  intro R hR
  let p : Place := ⟨some w.heap.size, 0, 0⟩
  have hp : ∀ B, p.blk = some B → w.heap.size ≤ B := fun B hB => by cases hB; exact Nat.le_refl _
  have hsz : Ext w (World.alloc w (.map #[] 0)) := Ext.of (by rw [push_size]; omega)
  have hst := step_push hr (.map []) p hsz (push_old w _) hp
  exact ⟨_, .map σ.length, _, _, I, _, RowKit.run_makeMap t w, hst, rs_push hr (.map []) p hsz (push_old w _) hp (.map rfl (push_new w _) rfl (by simp)), .map (es := []) (by simp) (by rw [updR_same]), hR⟩

/-- The place of a key. -/
def keyAt (s : List UInt8) : List (DV × DV) → Nat → Option (Option Nat)
  | [], _ => some none
  | (.str t, _) :: es, i => bif decide (s = t) then some (some i) else keyAt s es (i + 1)
  | _ :: _, _ => none

theorem keyAt_spec (s : List UInt8) : ∀ (es : List (DV × DV)) (l : List MapEntry) (i : Nat) (a : Option Nat), keyAt s es i = some a → l.length = es.length →
    (∀ (j : Nat) (y : DV × DV), es[j]? = some y → ∃ e : MapEntry, l[j]? = some e ∧ VD I w y.1 e.key ∧ VD I w y.2 e.val) →
    ∃ r, Instr.findNow .string (.string ⟨s.toArray⟩) l i = some r ∧ (match a with | none => r = none | some j => i ≤ j ∧ j - i < es.length ∧ ∃ e : MapEntry, l[j - i]? = some e ∧ r = some (j, e.val) ∧ e.key = .string ⟨s.toArray⟩)
  | [], l, i, a, h, hl, _ => by
    simp only [keyAt, Option.some.injEq] at h
    obtain rfl : l = [] := List.length_eq_zero_iff.1 hl
    subst h
    exact ⟨none, rfl, rfl⟩
  | (k, x) :: es, [], i, a, h, hl, _ => by simp at hl
  | (k, x) :: es, e :: l, i, a, h, hl, hv => by
    obtain ⟨e', h1, h2, h3⟩ := hv 0 (k, x) rfl
    simp only [List.getElem?_cons_zero, Option.some.injEq] at h1
    subst h1
    cases k <;> simp only [keyAt] at h <;> try (cases h; done)
    rename_i t
    have hk := h2.str_inv
    have hcmp : ((⟨s.toArray⟩ : ByteArray) == ⟨t.toArray⟩) = decide (s = t) := by
      show (s.toArray == t.toArray) = _
      rw [Bool.eq_iff_iff]; simp
    cases hd : decide (s = t)
    · rw [hd] at h
      simp only [cond_false] at h
      obtain ⟨r, g1, g2⟩ := keyAt_spec s es l (i + 1) a h (by simpa using hl) (fun j y hj => hv (j + 1) y (by simpa using hj))
      refine ⟨r, ?_, ?_⟩
      · simp only [Instr.findNow, Instr.sameNow, hk, hcmp, hd]; exact g1
      · cases a with
        | none => exact g2
        | some j =>
          obtain ⟨c1, c2, e', c3, c4, c5⟩ := g2
          refine ⟨by omega, by simp only [List.length_cons]; omega, e', ?_, c4, c5⟩
          rw [show j - i = (j - (i + 1)) + 1 by omega]; simpa using c3
    · rw [hd] at h
      simp only [cond_true, Option.some.injEq] at h
      subst h
      have hst : s = t := of_decide_eq_true hd
      refine ⟨some (i, e.val), ?_, Nat.le_refl _, by simp, e, by simp, rfl, by rw [hk, hst]⟩
      simp only [Instr.findNow, Instr.sameNow, hk, hcmp, hd]

def lookV (ok : Bool) (v : AV) (b : Bool) (σ : ST) : Res := .ok (bif ok then .tuple [v, .d (.bool b)] else v) σ

def rLookup (P : Program) (t : TypeId) (x k : AV) (ok : Bool) (σ : ST) : Res :=
  match P.underlying t, x, k with
  | some (.map kt et), .map b, .d (.str s) => match P.underlying kt, stGet σ b with
    | some .string, .map es => match keyAt s es 0 with
      | some (some j) => lookV ok (.d (es.getD j default).2) true σ
      | some none => .need (zeroA P et ≠ .any) (lookV ok (zeroA P et) false σ)
      | none => .bad
    | _, _ => .bad
  | _, _, _ => .bad

theorem rLookup_sound (hr : RS P ρ I w σ) (t : TypeId) (x k : AV) (vx vk : Value) (ok : Bool) (hx : V ρ σ I w x vx) (hk : V ρ σ I w k vk) : Pev P ρ σ I w (Instr.lookup t vx vk ok) (rLookup P t x k ok σ) := by
  unfold rLookup
  split
  · rename_i kt et b s ht
    split
    · rename_i es hkt hst
      have hsb := stGet_some hst (by simp)
      cases hk.d_inv.str_inv
      cases hx with | map k1 k2 =>
      rw [hsb] at k1; cases k1
      rename_i B
      have hrb := hr.blk b _ hsb
      cases hrb with | @map _ _ clock ents h1 h2 h3 h4 =>
      rw [k2] at h1; cases h1
      have hg : (getObj B).run P w = .ok (.map ents clock) w := by simp [getObj, Sem.run, h2]
      have hck := MapKept.run_checkKey (P := P) (w := w) (k := .string ⟨s.toArray⟩) hkt (by trivial) ents.isEmpty 9999
      have hents : ∀ (j : Nat) (y : DV × DV), es[j]? = some y → ∃ e : MapEntry, ents.toList[j]? = some e ∧ VD I w y.1 e.key ∧ VD I w y.2 e.val := fun j y hj => by
        obtain ⟨e, q1, q2, q3⟩ := h4 j y hj
        exact ⟨e, by simpa using q1, q2, q3⟩
      have tup : ∀ {a : AV} {u : Value} {bb : Bool}, V ρ σ I w a u → V ρ σ I w (bif ok then .tuple [a, .d (.bool bb)] else a) (if ok then .tuple #[u, .bool bb] else u) := by
        intro a u bb ha
        cases ok
        · exact ha
        · refine .tuple rfl (fun j c hj => ?_)
          match j, hj with
          | 0, hj => simp at hj; subst hj; exact ha
          | 1, hj => simp at hj; subst hj; exact .d (.bool bb)
      split
      · rename_i j hj
        obtain ⟨r, g1, c1, c2, e, c3, rfl, c5⟩ := keyAt_spec s es ents.toList 0 _ hj (by simpa using h3) hents
        have hf := MapKept.run_findKey (P := P) (w := w) hkt g1
        simp only [Nat.sub_zero] at c2 c3
        have hy : es[j]? = some (es.getD j default) := by rw [List.getD_eq_getElem?_getD, List.getElem?_eq_getElem c2]; rfl
        obtain ⟨e', q1, q2, q3⟩ := hents j _ hy
        rw [c3] at q1
        simp only [Option.some.injEq] at q1; subst q1
        refine .ok (v := if ok then .tuple #[e.val, .bool true] else e.val) ?_ (tup (.d q3))
        simp [Instr.lookup, run_underlying ht, hg, hck, hf]
      · rename_i hj
        obtain ⟨r, g1, rfl⟩ := keyAt_spec s es ents.toList 0 _ hj (by simpa using h3) hents
        have hf := MapKept.run_findKey (P := P) (w := w) hkt g1
        refine .need fun hz => ?_
        obtain ⟨z, z1, z2⟩ := zero_run (P := P) (ρ := ρ) (σ := σ) (I := I) (w := w) hz
        refine .ok (v := if ok then .tuple #[z, .bool false] else z) ?_ (tup z2)
        simp [Instr.lookup, run_underlying ht, hg, hck, hf, z1]
      · exact .bad
    · exact .bad
  · exact .bad

def rMapUpdate (P : Program) (t : TypeId) (m k x : AV) (σ : ST) : Res :=
  match P.underlying t, m, k, x with
  | some (.map kt _), .map b, .d (.str s), .d y => match P.underlying kt, stGet σ b with
    | some .string, .map es => match keyAt s es 0 with
      | some (some j) => .ok .any (stSet σ b (.map (es.set j (.str s, y))))
      | some none => .ok .any (stSet σ b (.map (es ++ [(.str s, y)])))
      | none => .bad
    | _, _ => .bad
  | _, _, _, _ => .bad

theorem rMapUpdate_sound (hr : RS P ρ I w σ) (t : TypeId) (m k x : AV) (vm vk vx : Value) (hm : V ρ σ I w m vm) (hk : V ρ σ I w k vk) (hx : V ρ σ I w x vx) : EffU P ρ σ I w (Instr.mapUpdate t vm vk vx) (rMapUpdate P t m k x σ) := by
  unfold rMapUpdate
  split
  · rename_i kt et b s y ht
    split
    · rename_i es hkt hst
      have hsb := stGet_some hst (by simp)
      cases hk.d_inv.str_inv
      have hyv : VD I w y vx := hx.d_inv
      cases hm with | map k1 k2 =>
      rw [hsb] at k1; cases k1
      rename_i B
      have hrb := hr.blk b _ hsb
      cases hrb with | @map _ _ clock ents h1 h2 h3 h4 =>
      rw [k2] at h1; cases h1
      have hB : B < w.heap.size := (Array.getElem?_eq_some_iff.1 h2).1
      have hg : (getObj B).run P w = .ok (.map ents clock) w := by simp [getObj, Sem.run, h2]
      have hck := MapKept.run_checkKey (P := P) (w := w) (k := .string ⟨s.toArray⟩) hkt (by trivial) false 9999
      have hents : ∀ (j : Nat) (y : DV × DV), es[j]? = some y → ∃ e : MapEntry, ents.toList[j]? = some e ∧ VD I w y.1 e.key ∧ VD I w y.2 e.val := fun j y hj => by
        obtain ⟨e, q1, q2, q3⟩ := h4 j y hj
        exact ⟨e, by simpa using q1, q2, q3⟩
      -- a new map in the old one's place
      have put : ∀ (ents' : Array MapEntry) (clock' : Nat) (es' : List (DV × DV)), ents'.size = es'.length →
          (∀ (j : Nat) (y : DV × DV), es'[j]? = some y → ∃ e : MapEntry, ents'[j]? = some e ∧ VD I w y.1 e.key ∧ VD I w y.2 e.val) →
          (Instr.mapUpdate t (.map (some B)) (.string ⟨s.toArray⟩) vx).run P w = .ok () { w with heap := w.heap.set! B (.map ents' clock') } →
          EffU P ρ σ I w (Instr.mapUpdate t (.map (some B)) (.string ⟨s.toArray⟩) vx) (.ok .any (stSet σ b (.map es'))) := by
        intro ents' clock' es' hl hv hrun R hR
        let w' : World := { w with heap := w.heap.set! B (.map ents' clock') }
        have hnew : w'.heap[B]? = some (.map ents' clock') := by
          show (w.heap.set! B _)[B]? = _
          simp [hB]
        have hold : ∀ c, c < w.heap.size → c ≠ B → w'.heap[c]? = w.heap[c]? := fun c _ hc => by
          show (w.heap.set! B _)[c]? = _
          simp [Ne.symm hc]
        have hsz : Ext w w' := Ext.of (by show w.heap.size ≤ (w.heap.set! B _).size; simp)
        have hp : ∀ B', (ρ b).blk = some B' → B' = B ∨ w.heap.size ≤ B' := fun B' h => by rw [k2] at h; cases h; exact .inl rfl
        have hcmp : Compat (.map es) (ρ b) (.map es') (ρ b) := rfl
        have hstep := step_upd (w' := w') hr hsb k2 trivial (ρ b) hcmp hsz hold hp
        exact ⟨.any, w', _, I, _, hrun, hstep, rs_upd hr hsb k2 trivial (ρ b) hcmp hsz hold hp (.map k2 hnew hl (fun j y hj => let ⟨e, q1, q2, q3⟩ := hv j y hj; ⟨e, q1, hstep.vd hr q2, hstep.vd hr q3⟩)), .any _, hR⟩
      split
      · rename_i j hj
        obtain ⟨r, g1, c1, c2, e, c3, rfl, c5⟩ := keyAt_spec s es ents.toList 0 _ hj (by simpa using h3) hents
        have hf := MapKept.run_findKey (P := P) (w := w) hkt g1
        simp only [Nat.sub_zero] at c2 c3
        have hj2 : j < ents.size := by omega
        have hej : ents[j]? = some e := by simpa using c3
        have hstay : (Instr.keyThatStays e.key (.string ⟨s.toArray⟩)).run P w = .ok (.string ⟨s.toArray⟩) w := by
          have : Instr.sameBits 10000 e.key (.string ⟨s.toArray⟩) = true := by
            rw [c5]
            show ((⟨s.toArray⟩ : ByteArray) == ⟨s.toArray⟩) = true
            show (s.toArray == s.toArray) = true
            simp
          simp only [Instr.keyThatStays, this, if_true, Sem.run_pure]
        refine put (ents.modify j fun e => { e with key := .string ⟨s.toArray⟩, val := vx }) clock _ (by simp [h3]) (fun i z hz => ?_) ?_
        · rw [Array.getElem?_modify]
          by_cases hij : j = i
          · subst hij
            rw [List.getElem?_set_self c2] at hz
            cases hz
            exact ⟨_, by rw [if_pos rfl, hej]; rfl, .str s, hyv⟩
          · rw [List.getElem?_set_ne hij] at hz
            obtain ⟨e', q1, q2, q3⟩ := h4 i z hz
            exact ⟨e', by rw [if_neg hij]; exact q1, q2, q3⟩
        · have hset : (setObj B (.map (ents.modify j fun e => { e with key := .string ⟨s.toArray⟩, val := vx }) clock)).run P w = .ok () { w with heap := w.heap.set! B (.map (ents.modify j fun e => { e with key := .string ⟨s.toArray⟩, val := vx }) clock) } := by
            simp [setObj, Sem.run, h2]
          simp only [Instr.mapUpdate, Sem.run_bind, run_underlying ht, Result.andThen_ok, hg, hck, hf, hej, Option.map_some, Option.getD_some, hstay, hset]
      · rename_i hj
        obtain ⟨r, g1, rfl⟩ := keyAt_spec s es ents.toList 0 _ hj (by simpa using h3) hents
        have hf := MapKept.run_findKey (P := P) (w := w) hkt g1
        refine put (ents.push { key := .string ⟨s.toArray⟩, val := vx, born := clock }) (clock + 1) _ (by simp [h3]) (fun i z hz => ?_) ?_
        · rcases Nat.lt_or_ge i es.length with hlt | hge
          · rw [List.getElem?_append_left hlt] at hz
            obtain ⟨e', q1, q2, q3⟩ := h4 i z hz
            exact ⟨e', by rw [Array.getElem?_push, if_neg (by omega)]; exact q1, q2, q3⟩
          · rw [List.getElem?_append_right hge] at hz
            have hi : i = es.length := by
              rcases Nat.eq_zero_or_pos (i - es.length) with h | h
              · omega
              · rw [List.getElem?_eq_none (by simp only [List.length_cons, List.length_nil]; omega)] at hz; cases hz
            subst hi
            simp at hz; subst hz
            exact ⟨_, by rw [Array.getElem?_push, if_pos h3.symm], .str s, hyv⟩
        · have hset : (setObj B (.map (ents.push { key := .string ⟨s.toArray⟩, val := vx, born := clock }) (clock + 1))).run P w = .ok () { w with heap := w.heap.set! B (.map (ents.push { key := .string ⟨s.toArray⟩, val := vx, born := clock }) (clock + 1)) } := by
            simp [setObj, Sem.run, h2]
          simp only [Instr.mapUpdate, Sem.run_bind, run_underlying ht, Result.andThen_ok, hg, hck, hf, hset]
      · exact fun _ h => h.elim
    · exact fun _ h => h.elim
  · exact fun _ h => h.elim
end
end Nv
/- copy: into a slice of the call's own. -/

set_option linter.unusedVariables false
set_option linter.unusedSimpArgs false
namespace Nv
open Go

section
variable {P : Program} {ρ ρ' : RHO} {σ σ' : ST} {I I' : Nat → Prop} {w w' : World}

def rCopy (P : Program) (t : TypeId) (s x : AV) (σ : ST) : Res :=
  match P.underlying t, s with
  | some (.slice el), .own b g off n => match stGet σ b, elems ⟨P.cellsOf el, el⟩ x σ with
    | .arr g' e' zs, some ys => .need (g = g' ∧ e' = ⟨P.cellsOf el, el⟩ ∧ off + n ≤ zs.length ∧ 0 < P.cellsOf el)
        (.ok (.d (.int .i64 (min ys.length n : Nat))) (stSet σ b (.arr g' e' (splice zs off (ys.take (min ys.length n))))))
    | _, _ => .bad
  | _, _ => .bad

theorem flat_splice {e : Nat} {zs ys : List DV} {o : Nat} (h : ∀ x, x ∈ zs → Uni e x) (hy : ∀ x, x ∈ ys → Uni e x) : flat (splice zs o ys) = splice (flat zs) (o * e) (flat ys) := by
  have h1 := flat_len hy
  have e1 : flat (zs.take o ++ ys ++ zs.drop (o + ys.length)) = flat (zs.take o) ++ flat ys ++ flat (zs.drop (o + ys.length)) := by simp [flat]
  rw [splice, splice, e1, flat_take h, flat_drop h, h1, Nat.add_mul]

theorem inPlace_nil {p : Option Addr} {o : Nat} {r : Value} : inPlace P w p o [] r = .ok r w := by cases p <;> simp [inPlace, storeCells]

theorem splice_nil {α : Type} (zs : List α) (o : Nat) : splice zs o [] = zs := by simp [splice]

theorem rCopy_sound (hr : RS P ρ I w σ) (t ty : TypeId) (ts : Array TypeId) (s x : AV) (vs vx : Value) (hts : ts[0]? = some t) (hs : V ρ σ I w s vs) (hx : V ρ σ I w x vx) :
    Eff P ρ σ I w (Builtin.copy_ ts ty #[vs, vx]) (rCopy P t s x σ) := by
  unfold rCopy
  split
  · rename_i el b g off n ht
    split
    · rename_i g' e' zs ys hst he
      refine .need fun ⟨hg, he', hlen, hz⟩ => ?_
      subst hg he'
      have E1 := elems_sound (P := P) hr hx he
      have hsb := stGet_some hst (by simp)
      obtain ⟨p, m, cap, hvx, hm, hcap⟩ := E1.sl
      subst hvx hm
      obtain ⟨us, hus, husv⟩ := E1.run
      have hmin : min ys.length n ≤ ys.length := Nat.min_le_left _ _
      have hk := hus w (min ys.length n) rfl (Nat.min_le_left _ _)
      have hsz : (Go.sizeOf el).run P w = .ok (P.cellsOf el) w := run_sizeOf_pos hz
      have hmn : min ys.length n ≤ n := Nat.min_le_right _ _
      have hyl : (ys.take (min ys.length n)).length = min ys.length n := by rw [List.length_take]; omega
      intro R hR
      have hrun : ∀ base dcap, vs = .slice base n dcap → ((Builtin.copy_ ts ty #[vs, .slice p ys.length cap]).run P w) = inPlace P w base 0 ((List.range (min ys.length n * P.cellsOf el)).map us) (.int .i64 (min ys.length n : Nat)) := by
        intro base dcap hv
        subst hv
        have hk' := hk
        simp only [show min ys.length n = ys.length.min n from rfl] at hk'
        cases base with
        | none => simp [inPlace, Builtin.copy_, hts, run_underlying ht, hsz, Builtin.lenOf, goInt]; rw [hk']; simp
        | some a => simp [inPlace, Builtin.copy_, hts, run_underlying ht, hsz, Builtin.lenOf, goInt, Addr.add]; rw [hk']; simp
      cases hs with
      | ownOld k1 k2 => rw [hsb] at k1; cases k1; exact absurd (k2 _ _ _ rfl) (by omega)
      | ownNil k1 k2 =>
        have h0 : min ys.length 0 = 0 := by omega
        have hr' := hrun _ _ rfl
        rw [h0] at hr'
        have hσ : stSet σ b (.arr g ⟨P.cellsOf el, el⟩ (splice zs off (ys.take (min ys.length 0)))) = σ := by
          rw [h0, List.take_zero, splice_nil]
          unfold stSet
          apply List.ext_getElem?
          intro i
          rw [List.getElem?_set]
          split
          · rename_i hi; subst hi; split
            · exact hsb.symm
            · rename_i hlt; rw [List.getElem?_eq_none (by omega)]
          · rfl
        refine ⟨.int .i64 0, _, w, ρ, I, _, ?_, ?_, ?_, ?_, hR⟩
        · rw [hr', Nat.zero_mul, List.range_zero, List.map_nil]; exact inPlace_nil
        · rw [hσ]; exact Step.refl _ _ _ _
        · rw [hσ]; exact hr
        · rw [h0]; exact .d (.int _ _)
      | own k1 k2 k3 k4 =>
        rw [hsb] at k1; cases k1
        rename_i B dcap
        obtain ⟨vs, q1, q2, q3, q4, q5⟩ := hr.arr hsb k2
        dsimp only at q2
        have hr' := hrun _ _ rfl
        have hfit : min ys.length n * P.cellsOf el ≤ n * P.cellsOf el := Nat.mul_le_mul_right _ hmn
        have hbound : (ρ b).base + off * P.cellsOf el + n * P.cellsOf el ≤ vs.size := by
          have : (off + n) * P.cellsOf el ≤ (ρ b).cap * P.cellsOf el := Nat.mul_le_mul_right _ (by omega)
          rw [Nat.add_mul] at this; omega
        have hul : ((List.range (min ys.length n * P.cellsOf el)).map us).length = min ys.length n * P.cellsOf el := by simp
        have hyu : ∀ y, y ∈ ys.take (min ys.length n) → Uni (P.cellsOf el) y := fun y hy => E1.uni y (List.mem_of_mem_take hy)
        have hft : flat (ys.take (min ys.length n)) = (flat ys).take (min ys.length n * P.cellsOf el) := flat_take (e := P.cellsOf el) E1.uni _
        have hfy := flat_len E1.uni
        have hfyt := flat_len hyu
        rw [hyl] at hfyt
        dsimp only at hfy hfyt hft
        have hle : min ys.length n * P.cellsOf el ≤ ys.length * P.cellsOf el := Nat.mul_le_mul_right _ hmin
        have hone : ∀ v, v ∈ (List.range (min ys.length n * P.cellsOf el)).map us → v.oneCell' = true := by
          intro v hv
          obtain ⟨j, hj, rfl⟩ := List.mem_map.1 hv
          simp only [List.mem_range] at hj
          have hlt : j < (flat ys).length := by omega
          obtain ⟨c, hcc⟩ : ∃ c, (flat ys)[j]? = some c := ⟨_, List.getElem?_eq_getElem hlt⟩
          have hmem := List.mem_of_getElem? hcc
          simp only [flat, List.mem_flatMap] at hmem
          obtain ⟨y, hy, hc⟩ := hmem
          exact (husv j c hcc).oneCell ((E1.uni y hy).2 c hc)
        obtain ⟨w', r1, r2, r3, us', r4, r5, r6⟩ := run_storeCells (P := P) (B := B) ((List.range (min ys.length n * P.cellsOf el)).map us) ((ρ b).base + off * P.cellsOf el) 0 vs w q1 (by rw [hul]; omega) hone
        simp only [inPlace, Addr.add_lit, Nat.zero_mul, Nat.add_zero, r1, Result.andThen_ok] at hr'
        have hsl : (splice zs off (ys.take (min ys.length n))).length = zs.length := splice_len (by rw [hyl]; omega)
        have hcmp : Compat (.arr g ⟨P.cellsOf el, el⟩ zs) (ρ b) (.arr g ⟨P.cellsOf el, el⟩ (splice zs off (ys.take (min ys.length n)))) (ρ b) := .inl ⟨rfl, rfl, rfl, hsl⟩
        have hold : ∀ c, c < w.heap.size → c ≠ B → w'.heap[c]? = w.heap[c]? := fun c _ hc => r3 c hc
        have hp : ∀ B', (ρ b).blk = some B' → B' = B ∨ w.heap.size ≤ B' := fun B' h => by rw [k2] at h; cases h; exact .inl rfl
        have hstep := step_upd (w' := w') hr hsb k2 trivial (ρ b) hcmp (Ext.of (Nat.le_of_eq r2.1.symm) r2.2) hold hp
        refine ⟨_, _, w', _, I, _, hr', hstep, rs_upd hr hsb k2 trivial (ρ b) hcmp (Ext.of (Nat.le_of_eq r2.1.symm) r2.2) hold hp ?_, .d (.int _ _), hR⟩
        refine .arr k2 r4 (by show (ρ b).base + (ρ b).cap * P.cellsOf el ≤ us'.size; rw [r5]; exact q2) (by rw [hsl]; exact q3) (fun y hy => ?_) (fun j c hj => ?_)
        · simp only [splice, List.mem_append] at hy
          rcases hy with (hy | hy) | hy
          · exact q4 y (List.mem_of_mem_take hy)
          · exact hyu y hy
          · exact q4 y (List.mem_of_mem_drop hy)
        · have hfz := flat_len q4
          have hzl : off * P.cellsOf el + min ys.length n * P.cellsOf el ≤ zs.length * P.cellsOf el := by
            rw [← Nat.add_mul]; exact Nat.mul_le_mul_right _ (by omega)
          dsimp only at hfz
          rw [flat_splice (e := P.cellsOf el) q4 hyu, splice_get (by rw [hfyt, hfz]; exact hzl)] at hj
          rw [r6, hul]
          rw [hfyt] at hj
          split at hj
          · rename_i hin
            rw [if_pos (by omega)]
            rw [hft, List.getElem?_take, if_pos (by omega)] at hj
            have := husv _ c hj
            rw [show (ρ b).base + j - ((ρ b).base + off * P.cellsOf el + 0) = j - off * P.cellsOf el by omega]
            have : VD I w c (((List.range (min ys.length n * P.cellsOf el)).map us).getD (j - off * P.cellsOf el) undef) := by
              rw [List.getD_eq_getElem?_getD, List.getElem?_map, List.getElem?_range (by omega)]
              exact this
            exact hstep.vd hr this
          · rename_i hin
            rw [if_neg (by omega)]
            exact hstep.vd hr (q5 j c hj)
    · exact Eff.bad
  · exact Eff.bad
end
end Nv
/- Type assertions with comma-ok, at a type that is no interface. -/

set_option linter.unusedVariables false
set_option linter.unusedSimpArgs false
namespace Nv
open Go

section
variable {P : Program} {ρ ρ' : RHO} {σ σ' : ST} {I I' : Nat → Prop} {w w' : World}

def isIf : Option TypeDesc → Bool
  | none => true
  | some (.interface _) => true
  | _ => false

def rAssert (P : Program) (t : TypeId) (x : AV) (ok : Bool) (σ : ST) : Res :=
  bif ok && !isIf (P.underlying t) then match x with
    | .iface u y => bif decide (u = t) then .ok (.tuple [y, .d (.bool true)]) σ else .need (zeroA P t ≠ .any) (.ok (.tuple [zeroA P t, .d (.bool false)]) σ)
    | .d (.iface u y) => bif decide (u = t) then .ok (.tuple [.d y, .d (.bool true)]) σ else .need (zeroA P t ≠ .any) (.ok (.tuple [zeroA P t, .d (.bool false)]) σ)
    | _ => .bad
  else .bad

theorem tup2 {a : AV} {u : Value} {b : Bool} (ha : V ρ σ I w a u) : V ρ σ I w (.tuple [a, .d (.bool b)]) (.tuple #[u, .bool b]) := by
  refine .tuple rfl (fun j c hj => ?_)
  match j, hj with
  | 0, hj => simp at hj; subst hj; exact ha
  | 1, hj => simp at hj; subst hj; exact .d (.bool b)

theorem run_assert {u t xT : TypeId} {v : Value} {d : TypeDesc} (hd : P.underlying t = some d) (hi : isIf (some d) = false) :
    (Instr.typeAssert (.iface u v) xT t true).run P w = if u = t then .ok (.tuple #[v, .bool true]) w else (zeroValue t >>= fun z => pure (Value.tuple #[z, .bool false])).run P w := by
  unfold Instr.typeAssert
  rw [Sem.run_bind, run_underlying hd]
  cases d <;> first | (simp [isIf] at hi; done) | (simp only [Result.andThen_ok, if_true]; split <;> rfl)

theorem rAssert_sound (xT t : TypeId) (x : AV) (vx : Value) (ok : Bool) (hx : V ρ σ I w x vx) : Pev P ρ σ I w (Instr.typeAssert vx xT t ok) (rAssert P t x ok σ) := by
  unfold rAssert
  rw [cond_eq_ite]
  split
  · rename_i h0
    simp only [Bool.and_eq_true, Bool.not_eq_true'] at h0
    obtain ⟨rfl, hi⟩ := h0
    cases hu : P.underlying t with
    | none => rw [hu] at hi; cases hi
    | some d =>
      rw [hu] at hi
      have fin : ∀ (u : TypeId) (v : Value) (a : AV), V ρ σ I w a v → Pev P ρ σ I w (Instr.typeAssert (.iface u v) xT t true)
          (bif decide (u = t) then .ok (.tuple [a, .d (.bool true)]) σ else .need (zeroA P t ≠ .any) (.ok (.tuple [zeroA P t, .d (.bool false)]) σ)) := by
        intro u v a ha
        by_cases h : u = t
        · simp only [h, decide_true, cond_true]
          exact .ok (v := .tuple #[v, .bool true]) (by rw [run_assert hu hi, if_pos rfl]) (tup2 ha)
        · simp only [h, decide_false, cond_false]
          refine .need fun hz => ?_
          obtain ⟨z, z1, z2⟩ := zero_run (P := P) (ρ := ρ) (σ := σ) (I := I) (w := w) hz
          exact .ok (v := .tuple #[z, .bool false]) (by rw [run_assert hu hi, if_neg h]; simp [z1]) (tup2 z2)
      split
      · cases hx with
        | iface u h => exact fin _ _ _ h
      · cases hx.d_inv with
        | iface u h => exact fin _ _ _ (.d h)
      · exact .bad
  · exact .bad
end
end Nv
