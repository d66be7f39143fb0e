/- make, copy, freezing; min and max; the table of all operations: soundness. -/
import Derived.Test.YtebejiilpedlmaaGreatDoorNvI
set_option linter.unusedVariables false
set_option linter.unusedSimpArgs false
namespace Nv
open Go

section
variable {P : Program} {ρ ρ' : RHO} {σ σ' : ST} {I I' : Nat → Prop} {w w' : World}

/- make -/
def rMake (P : Program) (t : TypeId) (l c : AV) (σ : ST) : Res :=
  match P.underlying t, l, c, toD (match P.underlying t with | some (.slice el) => zeroA P el | _ => .any) with
  | some (.slice el), .d (.int _ l), .d (.int _ c), some z =>
    .need (0 < P.cellsOf el ∧ z.cells.length = P.cellsOf el ∧ 0 < P.bytesOf el) (.need (0 ≤ l ∧ l ≤ c ∧ c * P.bytesOf el ≤ 140737488355328) (newArr σ (P.cellsOf el) el (List.replicate l.toNat z)))
  | _, _, _, _ => .bad
theorem rMake_eq {t el : Nat} (h : P.underlying t = some (.slice el)) (k k' : IntKind) (l c : Int) (σ : ST) : rMake P t (.d (.int k l)) (.d (.int k' c)) σ =
    match toD (zeroA P el) with
    | some z => .need (0 < P.cellsOf el ∧ z.cells.length = P.cellsOf el ∧ 0 < P.bytesOf el) (.need (0 ≤ l ∧ l ≤ c ∧ c * P.bytesOf el ≤ 140737488355328) (newArr σ (P.cellsOf el) el (List.replicate l.toNat z)))
    | none => .bad := by unfold rMake; simp only [h]; cases toD (zeroA P el) <;> rfl

theorem wrap_id {n : Int} (h1 : -9223372036854775808 ≤ n) (h2 : n < 9223372036854775808) : IntKind.i64.wrap n = n := by
  have e1 : (2 : Int) ^ 64 = 18446744073709551616 := by decide
  have e2 : (2 : Int) ^ (64 - 1) = 9223372036854775808 := by decide
  simp only [IntKind.wrap, IntKind.bits, IntKind.signed, Bool.true_and, e1, e2, decide_eq_true_eq, ge_iff_le]
  split <;> omega

theorem flat_replicate (n : Nat) (z : DV) (j : Nat) (h : 0 < z.cells.length) : (flat (List.replicate n z))[j]? = if j < n * z.cells.length then z.cells[j % z.cells.length]? else none := by
  induction n generalizing j with
  | zero => simp [flat]
  | succ n ih =>
    simp only [flat, List.replicate_succ, List.flatMap_cons] at ih ⊢
    have e : (n + 1) * z.cells.length = z.cells.length + n * z.cells.length := by rw [Nat.add_mul]; omega
    rcases Nat.lt_or_ge j z.cells.length with hj | hj
    · rw [List.getElem?_append_left hj, if_pos (by omega), Nat.mod_eq_of_lt hj]
    · rw [List.getElem?_append_right hj, ih]
      have e2 : j % z.cells.length = (j - z.cells.length) % z.cells.length := by
        rw [Nat.mod_eq_sub_mod hj]
      by_cases hc : j - z.cells.length < n * z.cells.length
      · rw [if_pos hc, if_pos (by omega), e2]
      · rw [if_neg hc, if_neg (by omega)]

theorem rMake_sound (hr : RS P ρ I w σ) (t : TypeId) (l c : AV) (vl vc : Value) (hl : V ρ σ I w l vl) (hc : V ρ σ I w c vc) : Eff P ρ σ I w (Instr.makeSlice t vl vc) (rMake P t l c σ) := by
  unfold rMake
  split
  · rename_i el k l' k' c' z hu hz
    simp only [hu] at hz
    rw [hl.d_inv.int_inv, hc.d_inv.int_inv]
    refine .need fun ⟨h1, h2, h3⟩ => .need fun ⟨h4, h5, h6⟩ => ?_
    have hza : zeroA P el ≠ .any := by intro h; rw [h] at hz; simp [toD] at hz
    obtain ⟨zv, z1, z2⟩ := zero_run (P := P) (ρ := ρ) (σ := σ) (I := I) (w := w) hza
    obtain ⟨d1, d2, d3⟩ := toD_cells z2 hz
    have hinfo : ∃ i, P.info? el = some i ∧ i.bytes = P.bytesOf el := by
      cases hi : P.info? el with
      | none => simp [Program.bytesOf, hi] at h3
      | some i => exact ⟨i, rfl, by simp [Program.bytesOf, hi]⟩
    obtain ⟨i, hi, hib⟩ := hinfo
    have hti : (typeInfo el).run P w = .ok i w := by simp [typeInfo, hi]
    have hcb : c' ≤ c' * (P.bytesOf el : Int) := by
      have : c' * 1 ≤ c' * (P.bytesOf el : Int) := Int.mul_le_mul_of_nonneg_left (by omega) (by omega)
      omega
    have wl : IntKind.i64.wrap l' = l' := wrap_id (by omega) (by omega)
    have wc : IntKind.i64.wrap c' = c' := wrap_id (by omega) (by omega)
    have ht1 : ¬ (c' < 0 ∨ (2 : Int) ^ 48 < (i.bytes : Int) * c') := by
      rw [hib, Int.mul_comm]; omega
    obtain ⟨n, hn⟩ : ∃ n, n = c'.toNat * P.cellsOf el := ⟨_, rfl⟩
    let zero : Array Value := if n = 0 then #[] else zv.cells
    let us : Array Value := (Array.range n).map (zero[· % zero.size]!)
    have hrun : (Instr.makeSlice t (.int k l') (.int k' c')).run P w = .ok (.slice (some ⟨w.heap.size, 0, none⟩) l'.toNat c'.toNat) (w.alloc (.cells us el)) := by
      have hcond : ((decide (c' < 0) || decide ((i.bytes : Int) * c' > 2 ^ 48)) || decide (l' < 0) || decide (l' > c')) = false := by
        simp only [Bool.or_eq_false_iff, decide_eq_false_iff_not]
        refine ⟨⟨⟨fun h => ht1 (.inl h), fun h => ht1 (.inr h)⟩, by omega⟩, by omega⟩
      by_cases h0 : n = 0
      · have e1 : us = (Array.range (c'.toNat * P.cellsOf el)).map (fun x => (#[] : Array Value)[x % (#[] : Array Value).size]!) := by simp only [us, zero, h0, if_true]; rw [← hn, h0]
        simp only [Instr.makeSlice, Sem.run_bind, run_underlying hu, Result.andThen_ok, asInt, asIntOf, Sem.run_pure, hti, wl, wc, hcond, Sem.run_ite, Bool.false_eq_true, if_false, run_askRoom, run_sizeOf_pos h1]
        rw [if_pos (show c'.toNat * P.cellsOf el = 0 by omega)]
        rw [← e1]; simp [newRow]
      · have e1 : us = (Array.range (c'.toNat * P.cellsOf el)).map (fun x => zv.cells[x % zv.cells.size]!) := by simp only [us, zero, h0, if_false]; rw [← hn]
        simp only [Instr.makeSlice, Sem.run_bind, run_underlying hu, Result.andThen_ok, asInt, asIntOf, Sem.run_pure, hti, wl, wc, hcond, Sem.run_ite, Bool.false_eq_true, if_false, run_askRoom, run_sizeOf_pos h1]
        rw [if_neg (show ¬ c'.toNat * P.cellsOf el = 0 by omega)]
        simp only [z1, Result.andThen_ok]
        rw [← e1]; simp [newRow]
    have hrun' : (Instr.makeSlice t (.int k l') (.int k' c')).run P w = .ok (.slice (some ⟨w.heap.size, 0, none⟩) (List.replicate l'.toNat z).length c'.toNat) (w.alloc (.cells us el)) := by simpa using hrun
    refine newArr_eff (el := el) (us := us) (cap := c'.toNat) hr hrun' ⟨w.drawn, rfl⟩ (by simp [us, hn]) (by simp; omega) (fun x hx => ?_) (fun j cc hj => ?_)
    · rw [List.eq_of_mem_replicate hx]; exact ⟨h2, toD_plain hz⟩
    · rw [flat_replicate _ _ _ (by omega)] at hj
      split at hj
      · rename_i hlt
        rw [h2] at hlt hj
        have hjn : j < n := by
          have : l'.toNat * P.cellsOf el ≤ c'.toNat * P.cellsOf el := Nat.mul_le_mul_right _ (by omega)
          omega
        have hn0 : n ≠ 0 := by omega
        have := d2 _ cc hj
        have e : us.getD j undef = zv.cells.getD (j % P.cellsOf el) undef := by
          have hm : j % P.cellsOf el < zv.cells.size := by rw [← d1, h2]; exact Nat.mod_lt _ h1
          simp only [us, zero, hn0, if_false, Array.getD_eq_getD_getElem?]
          rw [show zv.cells.size = P.cellsOf el by omega]
          simp [hjn, getElem!_def, hm]
        rw [e]; exact this
      · cases hj
  · exact Eff.bad

/- freezing: a slice of the call's own becomes data -/
def rFreeze (x : AV) (σ : ST) : Res :=
  match x with
  | .own b g off n => match stGet σ b with
    | .arr g' e xs => .need (g = g' ∧ off + n ≤ xs.length) (.ok (.d (.list e ((xs.drop off).take n))) (stSet σ b .dead))
    | _ => .bad
  | .d .nilslice => .ok (.d .nilslice) σ
  | .d (.list e xs) => .ok (.d (.list e xs)) σ
  | _ => .bad
attribute [go_sem] rFreeze

theorem rFreeze_sound (hr : RS P ρ I w σ) (x : AV) (v : Value) (hx : V ρ σ I w x v) {s : Sem Value} (hs : s.run P w = .ok v w) : Eff P ρ σ I w s (rFreeze x σ) := by
  unfold rFreeze
  split
  · rename_i b g off n
    split
    · rename_i g' e xs hst
      have hsb := stGet_some hst (by simp)
      refine .need fun ⟨hg, hlen⟩ => ?_
      subst hg
      have hblt : b < σ.length := by rcases Nat.lt_or_ge b σ.length with h' | h'; exact h'; simp [List.getElem?_eq_none h'] at hsb
      intro R hR
      let I' : Nat → Prop := fun B => I B ∨ (ρ b).blk = some B
      have hstep : Step ρ I w σ ρ I' w (stSet σ b .dead) := by
        refine ⟨fun _ _ _ => rfl, fun _ h => .inl h, fun B h => h.elim .inl (fun h => .inr (.inl ⟨b, _, hsb, trivial, h⟩)), fun B h => ?_, Nat.le_refl _, fun i bl h => ?_, Around.refl w⟩
        · obtain ⟨i, bl, h1, h2, h3⟩ := h
          by_cases hi : i = b
          · subst hi; simp [stSet, hblt] at h1; subst h1; exact h2.elim
          · rw [stSet, List.getElem?_set_ne (by omega)] at h1; exact .inl ⟨i, bl, h1, h2, h3⟩
        · by_cases hi : i = b
          · subst hi; rw [hsb] at h; cases h; exact ⟨.dead, by simp [stSet, hblt], trivial⟩
          · exact ⟨bl, by rw [stSet, List.getElem?_set_ne (by omega)]; exact h, Compat.refl _ _⟩
      have hrs : RS P ρ I' w (stSet σ b .dead) := by
        refine ⟨fun i bl h => ?_, fun i j bi bj B hi hj li lj hBi hBj => ?_, fun B hl hI => ?_, fun B hI => ?_, hstep.tabs hr⟩
        · by_cases hi : i = b
          · subst hi; simp [stSet, hblt] at h; subst h; exact .dead
          · rw [stSet, List.getElem?_set_ne (by omega)] at h
            exact RB.step hr hstep (fun _ _ => rfl) (hr.blk i bl h)
        · by_cases hi' : i = b
          · subst hi'; simp [stSet, hblt] at hi; subst hi; exact li.elim
          · by_cases hj' : j = b
            · subst hj'; simp [stSet, hblt] at hj; subst hj; exact lj.elim
            · rw [stSet, List.getElem?_set_ne (by omega)] at hi hj
              exact hr.inj i j bi bj B hi hj li lj hBi hBj
        · obtain ⟨i, bl, h1, h2, h3⟩ := hl
          by_cases hi : i = b
          · subst hi; simp [stSet, hblt] at h1; subst h1; exact h2.elim
          · rw [stSet, List.getElem?_set_ne (by omega)] at h1
            rcases hI with hI | hI
            · exact hr.sep B ⟨i, bl, h1, h2, h3⟩ hI
            · exact hi (hr.inj i b bl _ B h1 hsb h2 trivial h3 hI)
        · rcases hI with hI | hI
          · exact hr.bound B hI
          · exact lives_heap hr ⟨b, _, hsb, trivial, hI⟩
      refine ⟨v, _, w, ρ, I', _, hs, hstep, hrs, .d ?_, hR⟩
      cases hx with
      | ownOld k1 k2 => rw [hsb] at k1; cases k1; exact absurd (k2 _ _ _ rfl) (by omega)
      | @ownNil _ _ _ _ _ p k1 k2 =>
        simp only [List.take_zero]
        cases p with
        | none => exact .listNil _ _
        | some a =>
          obtain ⟨B, o, sp⟩ := a
          have := (k2 _ rfl).1
          simp only at this
          subst this
          exact .list (fun _ => undef) rfl (Nat.le_refl _) (by simp) (by simp [flat]) (by simp [flat])
      | own k1 k2 k3 k4 =>
        rw [hsb] at k1; cases k1
        rename_i B cap
        obtain ⟨us, q1, q2, q3, q4, q5⟩ := hr.arr hsb k2
        have hln : ((xs.drop off).take n).length = n := by simp; omega
        have hget : ∀ j c, (flat ((xs.drop off).take n))[j]? = some c → (flat xs)[off * e + j]? = some c ∧ j < n * e := by
          intro j c hj
          rw [flat_take (fun x hx => q4 x (List.mem_of_mem_drop hx)), flat_drop q4, List.getElem?_take] at hj
          split at hj
          · rename_i hlt; rw [List.getElem?_drop] at hj; exact ⟨hj, hlt⟩
          · cases hj
        refine .list (fun j => us.getD ((ρ b).base + off * e + j) undef) hln.symm k3 (fun x hx => q4 x (List.mem_of_mem_drop (List.mem_of_mem_take hx))) (fun j c hj => ?_) (fun j c hj => ?_)
        · obtain ⟨h1, h2⟩ := hget j c hj
          refine ⟨.inr k2, cell_of_heap q1 ?_⟩
          have : (off + n) * e ≤ (ρ b).cap * e := Nat.mul_le_mul_right _ (by omega)
          rw [Nat.add_mul] at this; omega
        · obtain ⟨h1, h2⟩ := hget j c hj
          have := q5 _ _ h1
          rw [← Nat.add_assoc] at this
          exact hstep.vd hr this
    · exact Eff.bad
  · exact Pev.eff hr (.ok hs hx)
  · exact Pev.eff hr (.ok hs hx)
  · exact Eff.bad

/- a nil slice that is taken over as one of the call's own -/
def rNilOwn (e : ET) (x : AV) (σ : ST) : Res :=
  match x with
  | .d .nilslice => .ok (.own σ.length 0 0 0) (σ ++ [.arr 0 e []])
  | .own b g off n => .ok (.own b g off n) σ
  | _ => .bad
attribute [go_sem] rNilOwn
theorem rNilOwn_sound (hr : RS P ρ I w σ) (e : ET) (x : AV) (v : Value) (hx : V ρ σ I w x v) {s : Sem Value} (hs : s.run P w = .ok v w) : Eff P ρ σ I w s (rNilOwn e x σ) := by
  unfold rNilOwn
  split
  · cases hx.d_inv
    intro R hR
    let p : Place := ⟨none, 0, 0⟩
    have hp : ∀ B, p.blk = some B → w.heap.size ≤ B := fun B hB => by cases hB
    have hst := step_push (w' := w) hr (.arr 0 e []) p (Ext.of (Nat.le_refl _)) (fun _ _ => rfl) hp
    exact ⟨_, _, w, _, I, _, hs, hst, rs_push hr _ p (Ext.of (Nat.le_refl _)) (fun _ _ => rfl) hp (.arrNil rfl rfl), .ownNil (e := e) (xs := []) (by simp) (fun _ h => by cases h), hR⟩
  · exact fun R hR => ⟨v, _, w, ρ, I, σ, hs, Step.refl _ _ _ _, hr, hx, hR⟩
  · exact Eff.bad

/- a nil slice as a list without elements -/
def rNilList (e : Nat) (x : AV) (σ : ST) : Res :=
  match x with
  | .d .nilslice => .ok (.d (.list e [])) σ
  | .own b g off n => rFreeze (.own b g off n) σ
  | x => .ok x σ
attribute [go_sem] rNilList
theorem rNilList_sound (hr : RS P ρ I w σ) (e : Nat) (x : AV) (v : Value) (hx : V ρ σ I w x v) {s : Sem Value} (hs : s.run P w = .ok v w) : Eff P ρ σ I w s (rNilList e x σ) := by
  unfold rNilList
  split
  · cases hx.d_inv; exact Pev.eff hr (.ok hs (.d (.listNil _ _)))
  · exact rFreeze_sound hr _ _ hx hs
  · exact Pev.eff hr (.ok hs hx)

theorem rNil_sound (x : AV) (v : Value) (hx : V ρ σ I w x v) (h : rNil x σ ≠ .bad) : rNil x σ = .ok x σ ∧ v ≠ .pointer none ∧ v ≠ .nilIface ∧ v ≠ .nilFunc ∧ ∀ n f c, v ≠ .func (.method n) f c := by
  unfold rNil at h ⊢
  split at h
  · refine ⟨rfl, ?_⟩; cases hx; simp
  · refine ⟨rfl, ?_⟩; cases hx; simp
  · refine ⟨rfl, ?_⟩; cases hx.d_inv; simp
  · refine ⟨rfl, ?_⟩; cases hx; simp
  · refine ⟨rfl, ?_⟩; cases hx.d_inv; simp
  · refine ⟨rfl, ?_⟩; cases hx; simp
  · exact absurd rfl h
end
end Nv
