/- Part of a proof about the functions of this seat. -/
import Derived.Test.YtjgbdlaecpkmhaaGreatDoorG03NvI
import Derived.Lib.Builder
import Derived.Lib.UnsafeStr
import Derived.Laws.IdiomStrings
import Derived.Laws.RangeString
/- make, copy, freezing; min and max; the table of all operations: soundness. -/

set_option linter.unusedVariables false
set_option linter.unusedSimpArgs false
namespace Nv
open Go

section
variable {P : Program} {ρ ρ' : RHO} {σ σ' : ST} {I I' : Nat → Prop} {w w' : World}

/- make -/
def rMake (P : Program) (t : TypeId) (l c : AV) (σ : ST) : Res :=
  match P.underlying t, l, c, toD (match P.underlying t with | some (.slice el) => zeroA P el | _ => .any) with
  | some (.slice el), .d (.int _ l), .d (.int _ c), some z =>
    .need (0 < P.cellsOf el ∧ z.cells.length = P.cellsOf el ∧ 0 < P.bytesOf el) (.need (0 ≤ l ∧ l ≤ c ∧ c * P.bytesOf el ≤ 140737488355328) (newArr σ (P.cellsOf el) el (List.replicate l.toNat z)))
  | _, _, _, _ => .bad
theorem rMake_eq {t el : Nat} (h : P.underlying t = some (.slice el)) (k k' : IntKind) (l c : Int) (σ : ST) : rMake P t (.d (.int k l)) (.d (.int k' c)) σ =
    match toD (zeroA P el) with
    | some z => .need (0 < P.cellsOf el ∧ z.cells.length = P.cellsOf el ∧ 0 < P.bytesOf el) (.need (0 ≤ l ∧ l ≤ c ∧ c * P.bytesOf el ≤ 140737488355328) (newArr σ (P.cellsOf el) el (List.replicate l.toNat z)))
    | none => .bad := by unfold rMake; simp only [h]; cases toD (zeroA P el) <;> rfl

theorem wrap_id {n : Int} (h1 : -9223372036854775808 ≤ n) (h2 : n < 9223372036854775808) : IntKind.i64.wrap n = n := by
  have e1 : (2 : Int) ^ 64 = 18446744073709551616 := by decide
  have e2 : (2 : Int) ^ (64 - 1) = 9223372036854775808 := by decide
  simp only [IntKind.wrap, IntKind.bits, IntKind.signed, Bool.true_and, e1, e2, decide_eq_true_eq, ge_iff_le]
  split <;> omega

theorem flat_replicate (n : Nat) (z : DV) (j : Nat) (h : 0 < z.cells.length) : (flat (List.replicate n z))[j]? = if j < n * z.cells.length then z.cells[j % z.cells.length]? else none := by
  induction n generalizing j with
  | zero => simp [flat]
  | succ n ih =>
    simp only [flat, List.replicate_succ, List.flatMap_cons] at ih ⊢
    have e : (n + 1) * z.cells.length = z.cells.length + n * z.cells.length := by rw [Nat.add_mul]; omega
    rcases Nat.lt_or_ge j z.cells.length with hj | hj
    · rw [List.getElem?_append_left hj, if_pos (by omega), Nat.mod_eq_of_lt hj]
    · rw [List.getElem?_append_right hj, ih]
      have e2 : j % z.cells.length = (j - z.cells.length) % z.cells.length := by
        rw [Nat.mod_eq_sub_mod hj]
      by_cases hc : j - z.cells.length < n * z.cells.length
      · rw [if_pos hc, if_pos (by omega), e2]
      · rw [if_neg hc, if_neg (by omega)]

theorem rMake_sound (hr : RS P ρ I w σ) (t : TypeId) (l c : AV) (vl vc : Value) (hl : V ρ σ I w l vl) (hc : V ρ σ I w c vc) : Eff P ρ σ I w (Instr.makeSlice t vl vc) (rMake P t l c σ) := by
  unfold rMake
  split
  · rename_i el k l' k' c' z hu hz
    simp only [hu] at hz
    rw [hl.d_inv.int_inv, hc.d_inv.int_inv]
    refine .need fun ⟨h1, h2, h3⟩ => .need fun ⟨h4, h5, h6⟩ => ?_
    have hza : zeroA P el ≠ .any := by intro h; rw [h] at hz; simp [toD] at hz
    obtain ⟨zv, z1, z2⟩ := zero_run (P := P) (ρ := ρ) (σ := σ) (I := I) (w := w) hza
    obtain ⟨d1, d2, d3⟩ := toD_cells z2 hz
    have hinfo : ∃ i, P.info? el = some i ∧ i.bytes = P.bytesOf el := by
      cases hi : P.info? el with
      | none => simp [Program.bytesOf, hi] at h3
      | some i => exact ⟨i, rfl, by simp [Program.bytesOf, hi]⟩
    obtain ⟨i, hi, hib⟩ := hinfo
    have hti : (typeInfo el).run P w = .ok i w := by simp [typeInfo, hi]
    have hcb : c' ≤ c' * (P.bytesOf el : Int) := by
      have : c' * 1 ≤ c' * (P.bytesOf el : Int) := Int.mul_le_mul_of_nonneg_left (by omega) (by omega)
      omega
    have wl : IntKind.i64.wrap l' = l' := wrap_id (by omega) (by omega)
    have wc : IntKind.i64.wrap c' = c' := wrap_id (by omega) (by omega)
    have ht1 : ¬ (c' < 0 ∨ (2 : Int) ^ 48 < (i.bytes : Int) * c') := by
      rw [hib, Int.mul_comm]; omega
    obtain ⟨n, hn⟩ : ∃ n, n = c'.toNat * P.cellsOf el := ⟨_, rfl⟩
    let zero : Array Value := if n = 0 then #[] else zv.cells
    let us : Array Value := (Array.range n).map (zero[· % zero.size]!)
    have hrun : (Instr.makeSlice t (.int k l') (.int k' c')).run P w = .ok (.slice (some ⟨w.heap.size, 0, none⟩) l'.toNat c'.toNat) (w.alloc (.cells us el)) := by
      have hcond : ((decide (c' < 0) || decide ((i.bytes : Int) * c' > 2 ^ 48)) || decide (l' < 0) || decide (l' > c')) = false := by
        simp only [Bool.or_eq_false_iff, decide_eq_false_iff_not]
        refine ⟨⟨⟨fun h => ht1 (.inl h), fun h => ht1 (.inr h)⟩, by omega⟩, by omega⟩
      by_cases h0 : n = 0
      · have e1 : us = (Array.range (c'.toNat * P.cellsOf el)).map (fun x => (#[] : Array Value)[x % (#[] : Array Value).size]!) := by simp only [us, zero, h0, if_true]; rw [← hn, h0]
        simp only [Instr.makeSlice, Sem.run_bind, run_underlying hu, Result.andThen_ok, asInt, asIntOf, Sem.run_pure, hti, wl, wc, hcond, Sem.run_ite, Bool.false_eq_true, if_false, run_askRoom, run_sizeOf_pos h1]
        rw [if_pos (show c'.toNat * P.cellsOf el = 0 by omega)]
        rw [← e1]; simp [newRow]
      · have e1 : us = (Array.range (c'.toNat * P.cellsOf el)).map (fun x => zv.cells[x % zv.cells.size]!) := by simp only [us, zero, h0, if_false]; rw [← hn]
        simp only [Instr.makeSlice, Sem.run_bind, run_underlying hu, Result.andThen_ok, asInt, asIntOf, Sem.run_pure, hti, wl, wc, hcond, Sem.run_ite, Bool.false_eq_true, if_false, run_askRoom, run_sizeOf_pos h1]
        rw [if_neg (show ¬ c'.toNat * P.cellsOf el = 0 by omega)]
        simp only [z1, Result.andThen_ok]
        rw [← e1]; simp [newRow]
    have hrun' : (Instr.makeSlice t (.int k l') (.int k' c')).run P w = .ok (.slice (some ⟨w.heap.size, 0, none⟩) (List.replicate l'.toNat z).length c'.toNat) (w.alloc (.cells us el)) := by simpa using hrun
    refine newArr_eff (el := el) (us := us) (cap := c'.toNat) hr hrun' ⟨w.drawn, rfl⟩ (by simp [us, hn]) (by simp; omega) (fun x hx => ?_) (fun j cc hj => ?_)
    · rw [List.eq_of_mem_replicate hx]; exact ⟨h2, toD_plain hz⟩
    · rw [flat_replicate _ _ _ (by omega)] at hj
      split at hj
      · rename_i hlt
        rw [h2] at hlt hj
        have hjn : j < n := by
          have : l'.toNat * P.cellsOf el ≤ c'.toNat * P.cellsOf el := Nat.mul_le_mul_right _ (by omega)
          omega
        have hn0 : n ≠ 0 := by omega
        have := d2 _ cc hj
        have e : us.getD j undef = zv.cells.getD (j % P.cellsOf el) undef := by
          have hm : j % P.cellsOf el < zv.cells.size := by rw [← d1, h2]; exact Nat.mod_lt _ h1
          simp only [us, zero, hn0, if_false, Array.getD_eq_getD_getElem?]
          rw [show zv.cells.size = P.cellsOf el by omega]
          simp [hjn, getElem!_def, hm]
        rw [e]; exact this
      · cases hj
  · exact Eff.bad

/- freezing: a slice of the call's own becomes data -/
def rFreeze (x : AV) (σ : ST) : Res :=
  match x with
  | .own b g off n => match stGet σ b with
    | .arr g' e xs => .need (g = g' ∧ off + n ≤ xs.length) (.ok (.d (.list e ((xs.drop off).take n))) (stSet σ b .dead))
    | _ => .bad
  | .d .nilslice => .ok (.d .nilslice) σ
  | .d (.list e xs) => .ok (.d (.list e xs)) σ
  | .map b => match stGet σ b with
    | .map es => .ok (.d (.map es)) (stSet σ b .dead)
    | _ => .bad
  | .d (.map es) => .ok (.d (.map es)) σ
  | _ => .bad
attribute [go_sem] rFreeze

/-- A block that is given up becomes data. -/
theorem kill_block (hr : RS P ρ I w σ) {b : Nat} {blk : Blk} (hsb : σ[b]? = some blk) (hlv : blk.live) (hcp : Compat blk (ρ b) .dead (ρ b)) :
    Step ρ I w σ ρ (fun B => I B ∨ (ρ b).blk = some B) w (stSet σ b .dead) ∧ RS P ρ (fun B => I B ∨ (ρ b).blk = some B) w (stSet σ b .dead) := by
  have hblt : b < σ.length := by rcases Nat.lt_or_ge b σ.length with h' | h'; exact h'; simp [List.getElem?_eq_none h'] at hsb
  let I' : Nat → Prop := fun B => I B ∨ (ρ b).blk = some B
  have hstep : Step ρ I w σ ρ I' w (stSet σ b .dead) := by
    refine ⟨fun _ _ _ => rfl, fun _ h => .inl h, fun B h => h.elim .inl (fun h => .inr (.inl ⟨b, _, hsb, hlv, h⟩)), fun B h => ?_, Nat.le_refl _, fun i bl h => ?_, Around.refl w⟩
    · obtain ⟨i, bl, h1, h2, h3⟩ := h
      by_cases hi : i = b
      · subst hi; simp [stSet, hblt] at h1; subst h1; exact h2.elim
      · rw [stSet, List.getElem?_set_ne (by omega)] at h1; exact .inl ⟨i, bl, h1, h2, h3⟩
    · by_cases hi : i = b
      · subst hi; rw [hsb] at h; cases h; exact ⟨.dead, by simp [stSet, hblt], hcp⟩
      · exact ⟨bl, by rw [stSet, List.getElem?_set_ne (by omega)]; exact h, Compat.refl _ _⟩
  refine ⟨hstep, ⟨fun i bl h => ?_, fun i j bi bj B hi hj li lj hBi hBj => ?_, fun B hl hI => ?_, fun B hI => ?_, hstep.tabs hr⟩⟩
  · by_cases hi : i = b
    · subst hi; simp [stSet, hblt] at h; subst h; exact .dead
    · rw [stSet, List.getElem?_set_ne (by omega)] at h
      exact RB.step hr hstep (fun _ _ => rfl) (hr.blk i bl h)
  · by_cases hi' : i = b
    · subst hi'; simp [stSet, hblt] at hi; subst hi; exact li.elim
    · by_cases hj' : j = b
      · subst hj'; simp [stSet, hblt] at hj; subst hj; exact lj.elim
      · rw [stSet, List.getElem?_set_ne (by omega)] at hi hj
        exact hr.inj i j bi bj B hi hj li lj hBi hBj
  · obtain ⟨i, bl, h1, h2, h3⟩ := hl
    by_cases hi : i = b
    · subst hi; simp [stSet, hblt] at h1; subst h1; exact h2.elim
    · rw [stSet, List.getElem?_set_ne (by omega)] at h1
      rcases hI with hI | hI
      · exact hr.sep B ⟨i, bl, h1, h2, h3⟩ hI
      · exact hi (hr.inj i b bl _ B h1 hsb h2 hlv h3 hI)
  · rcases hI with hI | hI
    · exact hr.bound B hI
    · exact lives_heap hr ⟨b, _, hsb, hlv, hI⟩

theorem rFreeze_sound (hr : RS P ρ I w σ) (x : AV) (v : Value) (hx : V ρ σ I w x v) {s : Sem Value} (hs : s.run P w = .ok v w) : Eff P ρ σ I w s (rFreeze x σ) := by
  unfold rFreeze
  split
  · rename_i b g off n
    split
    · rename_i g' e xs hst
      have hsb := stGet_some hst (by simp)
      refine .need fun ⟨hg, hlen⟩ => ?_
      subst hg
      have hblt : b < σ.length := by rcases Nat.lt_or_ge b σ.length with h' | h'; exact h'; simp [List.getElem?_eq_none h'] at hsb
      intro R hR
      let I' : Nat → Prop := fun B => I B ∨ (ρ b).blk = some B
      have hstep : Step ρ I w σ ρ I' w (stSet σ b .dead) := by
        refine ⟨fun _ _ _ => rfl, fun _ h => .inl h, fun B h => h.elim .inl (fun h => .inr (.inl ⟨b, _, hsb, trivial, h⟩)), fun B h => ?_, Nat.le_refl _, fun i bl h => ?_, Around.refl w⟩
        · obtain ⟨i, bl, h1, h2, h3⟩ := h
          by_cases hi : i = b
          · subst hi; simp [stSet, hblt] at h1; subst h1; exact h2.elim
          · rw [stSet, List.getElem?_set_ne (by omega)] at h1; exact .inl ⟨i, bl, h1, h2, h3⟩
        · by_cases hi : i = b
          · subst hi; rw [hsb] at h; cases h; exact ⟨.dead, by simp [stSet, hblt], trivial⟩
          · exact ⟨bl, by rw [stSet, List.getElem?_set_ne (by omega)]; exact h, Compat.refl _ _⟩
      have hrs : RS P ρ I' w (stSet σ b .dead) := by
        refine ⟨fun i bl h => ?_, fun i j bi bj B hi hj li lj hBi hBj => ?_, fun B hl hI => ?_, fun B hI => ?_, hstep.tabs hr⟩
        · by_cases hi : i = b
          · subst hi; simp [stSet, hblt] at h; subst h; exact .dead
          · rw [stSet, List.getElem?_set_ne (by omega)] at h
            exact RB.step hr hstep (fun _ _ => rfl) (hr.blk i bl h)
        · by_cases hi' : i = b
          · subst hi'; simp [stSet, hblt] at hi; subst hi; exact li.elim
          · by_cases hj' : j = b
            · subst hj'; simp [stSet, hblt] at hj; subst hj; exact lj.elim
            · rw [stSet, List.getElem?_set_ne (by omega)] at hi hj
              exact hr.inj i j bi bj B hi hj li lj hBi hBj
        · obtain ⟨i, bl, h1, h2, h3⟩ := hl
          by_cases hi : i = b
          · subst hi; simp [stSet, hblt] at h1; subst h1; exact h2.elim
          · rw [stSet, List.getElem?_set_ne (by omega)] at h1
            rcases hI with hI | hI
            · exact hr.sep B ⟨i, bl, h1, h2, h3⟩ hI
            · exact hi (hr.inj i b bl _ B h1 hsb h2 trivial h3 hI)
        · rcases hI with hI | hI
          · exact hr.bound B hI
          · exact lives_heap hr ⟨b, _, hsb, trivial, hI⟩
      refine ⟨v, _, w, ρ, I', _, hs, hstep, hrs, .d ?_, hR⟩
      cases hx with
      | ownOld k1 k2 => rw [hsb] at k1; cases k1; exact absurd (k2 _ _ _ rfl) (by omega)
      | @ownNil _ _ _ _ _ p k1 k2 =>
        simp only [List.take_zero]
        cases p with
        | none => exact .listNil _ _
        | some a =>
          obtain ⟨B, o, sp⟩ := a
          have := (k2 _ rfl).1
          simp only at this
          subst this
          exact .list (fun _ => undef) rfl (Nat.le_refl _) (by simp) (by simp [flat]) (by simp [flat])
      | own k1 k2 k3 k4 =>
        rw [hsb] at k1; cases k1
        rename_i B cap
        obtain ⟨us, q1, q2, q3, q4, q5⟩ := hr.arr hsb k2
        have hln : ((xs.drop off).take n).length = n := by simp; omega
        have hget : ∀ j c, (flat ((xs.drop off).take n))[j]? = some c → (flat xs)[off * e + j]? = some c ∧ j < n * e := by
          intro j c hj
          rw [flat_take (fun x hx => q4 x (List.mem_of_mem_drop hx)), flat_drop q4, List.getElem?_take] at hj
          split at hj
          · rename_i hlt; rw [List.getElem?_drop] at hj; exact ⟨hj, hlt⟩
          · cases hj
        refine .list (fun j => us.getD ((ρ b).base + off * e + j) undef) hln.symm k3 (fun x hx => q4 x (List.mem_of_mem_drop (List.mem_of_mem_take hx))) (fun j c hj => ?_) (fun j c hj => ?_)
        · obtain ⟨h1, h2⟩ := hget j c hj
          refine ⟨.inr k2, cell_of_heap q1 ?_⟩
          have : (off + n) * e ≤ (ρ b).cap * e := Nat.mul_le_mul_right _ (by omega)
          rw [Nat.add_mul] at this; omega
        · obtain ⟨h1, h2⟩ := hget j c hj
          have := q5 _ _ h1
          rw [← Nat.add_assoc] at this
          exact hstep.vd hr this
    · exact Eff.bad
  · exact Pev.eff hr (.ok hs hx)
  · exact Pev.eff hr (.ok hs hx)
  · rename_i b
    split
    · rename_i es hst
      have hsb := stGet_some hst (by simp)
      intro R hR
      obtain ⟨hstep, hrs⟩ := kill_block hr hsb trivial trivial
      cases hx with
      | mapOld p k1 => rw [hsb] at k1; cases k1
      | map k1 k2 =>
        rw [hsb] at k1; cases k1
        rename_i B
        have hrb := hr.blk b _ hsb
        cases hrb with | @map _ _ clock ents h1 h2 h3 h4 =>
        rw [k2] at h1; cases h1
        refine ⟨_, _, w, ρ, _, _, hs, hstep, hrs, .d (.map (fun j => (ents.getD j default).key) (fun j => (ents.getD j default).val) (.inr k2) h2 h3 (fun j hj => ?_) (fun j y hj => ?_) (fun j y hj => ?_)), hR⟩
        · refine ⟨ents.getD j default, ?_, rfl, rfl⟩
          have : j < ents.size := by omega
          simp [this]
        · obtain ⟨e, q1, q2, q3⟩ := h4 j y hj
          simp only [Array.getD_eq_getD_getElem?, q1, Option.getD_some]
          exact hstep.vd hr q2
        · obtain ⟨e, q1, q2, q3⟩ := h4 j y hj
          simp only [Array.getD_eq_getD_getElem?, q1, Option.getD_some]
          exact hstep.vd hr q3
    · exact Eff.bad
  · exact Pev.eff hr (.ok hs hx)
  · exact Eff.bad

/- a nil slice that is taken over avl one of the call's own -/
def rNilOwn (e : ET) (x : AV) (σ : ST) : Res :=
  match x with
  | .d .nilslice => .ok (.own σ.length 0 0 0) (σ ++ [.arr 0 e []])
  | .own b g off n => .ok (.own b g off n) σ
  | _ => .bad
attribute [go_sem] rNilOwn
theorem rNilOwn_sound (hr : RS P ρ I w σ) (e : ET) (x : AV) (v : Value) (hx : V ρ σ I w x v) {s : Sem Value} (hs : s.run P w = .ok v w) : Eff P ρ σ I w s (rNilOwn e x σ) := by
  unfold rNilOwn
  split
  · cases hx.d_inv
    intro R hR
    let p : Place := ⟨none, 0, 0⟩
    have hp : ∀ B, p.blk = some B → w.heap.size ≤ B := fun B hB => by cases hB
    have hst := step_push (w' := w) hr (.arr 0 e []) p (Ext.of (Nat.le_refl _)) (fun _ _ => rfl) hp
    exact ⟨_, _, w, _, I, _, hs, hst, rs_push hr _ p (Ext.of (Nat.le_refl _)) (fun _ _ => rfl) hp (.arrNil rfl rfl), .ownNil (e := e) (xs := []) (by simp) (fun _ h => by cases h), hR⟩
  · exact fun R hR => ⟨v, _, w, ρ, I, σ, hs, Step.refl _ _ _ _, hr, hx, hR⟩
  · exact Eff.bad

/- a nil slice avl a list without elements -/
def rNilList (e : Nat) (x : AV) (σ : ST) : Res :=
  match x with
  | .d .nilslice => .ok (.d (.list e [])) σ
  | .own b g off n => rFreeze (.own b g off n) σ
  | x => .ok x σ
attribute [go_sem] rNilList
theorem rNilList_sound (hr : RS P ρ I w σ) (e : Nat) (x : AV) (v : Value) (hx : V ρ σ I w x v) {s : Sem Value} (hs : s.run P w = .ok v w) : Eff P ρ σ I w s (rNilList e x σ) := by
  unfold rNilList
  split
  · cases hx.d_inv; exact Pev.eff hr (.ok hs (.d (.listNil _ _)))
  · exact rFreeze_sound hr _ _ hx hs
  · exact Pev.eff hr (.ok hs hx)

theorem rNil_sound (x : AV) (v : Value) (hx : V ρ σ I w x v) (h : rNil x σ ≠ .bad) : rNil x σ = .ok x σ ∧ v ≠ .pointer none ∧ v ≠ .nilIface ∧ v ≠ .nilFunc ∧ ∀ n f c, v ≠ .func (.method n) f c := by
  unfold rNil at h ⊢
  split at h
  · refine ⟨rfl, ?_⟩; cases hx; simp
  · refine ⟨rfl, ?_⟩; cases hx; simp
  · refine ⟨rfl, ?_⟩; cases hx.d_inv; simp
  · refine ⟨rfl, ?_⟩; cases hx; simp
  · refine ⟨rfl, ?_⟩; cases hx.d_inv; simp
  · refine ⟨rfl, ?_⟩; cases hx; simp
  · exact absurd rfl h
end
end Nv
/- Pointers turned to pointers of no type and back, and the address of a row's first element: soundness. -/



set_option linter.unusedVariables false
set_option linter.unusedSimpArgs false
namespace Nv
open Go

section
variable {P : Program} {ρ ρ' : RHO} {σ σ' : ST} {I I' : Nat → Prop} {w w' : World}

theorem Step.more (hsz : Ext w w') (h : ∀ b, b < w.heap.size → w'.heap[b]? = w.heap[b]?) : Step ρ I w σ ρ I w' σ :=
  ⟨fun b hb _ => h b hb, fun _ h => h, fun _ h => .inl h, fun _ h => .inl h, hsz.size, fun b blk h => ⟨blk, h, Compat.refl _ _⟩, hsz.env⟩

theorem lt_of_heap {b : Nat} {o : Obj} (h : w.heap[b]? = some o) : b < w.heap.size := (Array.getElem?_eq_some_iff.1 h).1

theorem RS.more (hr : RS P ρ I w σ) (hsz : Ext w w') (h : ∀ b, b < w.heap.size → w'.heap[b]? = w.heap[b]?) : RS P ρ I w' σ := by
  have hs : Step ρ I w σ ρ I w' σ := Step.more hsz h
  refine ⟨fun i blk hi => ?_, hr.inj, hr.sep, fun B hB => Nat.lt_of_lt_of_le (hr.bound B hB) hsz.size, hs.tabs hr⟩
  have hb := hr.blk i blk hi
  cases hb with
  | box h1 h2 h3 h4 => exact .box h1 (by rw [h _ (lt_of_heap h2)]; exact h2) h3 (fun j c hj => hs.v hr (h4 j c hj))
  | arrNil h1 h2 => exact .arrNil h1 h2
  | map h1 h2 h3 h4 => exact .map h1 (by rw [h _ (lt_of_heap h2)]; exact h2) h3 (fun j y hj => let ⟨e, k1, k2, k3⟩ := h4 j y hj; ⟨e, k1, hs.vd hr k2, hs.vd hr k3⟩)
  | iter h1 h2 => exact .iter h1 (by rw [h _ (lt_of_heap h2)]; exact h2)
  | arr h1 h2 h3 h4 h5 h6 => exact .arr h1 (by rw [h _ (lt_of_heap h2)]; exact h2) h3 h4 h5 (fun j c hj => hs.vd hr (h6 j c hj))
  | rows h1 h2 h3 h4 h5 => exact .rows h1 (by rw [h _ (lt_of_heap h2)]; exact h2) h3 h4 (fun j c hj => hs.v hr (h5 j c hj))
  | dead => exact .dead

/-- Whether a variable of a type lies at a place of a box. -/
def liesB (P : Program) (e n o u : Nat) : Bool := liesAt P P.depth e (n / P.cellsOf e) o u 1

def rConvU (P : Program) (s d : TypeId) (b o : Nat) (σ : ST) : Res :=
  match P.underlying s, P.underlying d with
  | some (.pointer t), some .unsafePointer => match stGet σ b with
    | .box e cs => .need (0 < P.cellsOf t ∧ o < cs.length) (.ok (.ptr b o) σ)
    | _ => .bad
  | some .unsafePointer, some (.pointer u) => match stGet σ b with
    | .box e cs => .need (0 < P.cellsOf u ∧ liesB P e cs.length o u = true) (.ok (.ptr b o) σ)
    | _ => .bad
  | _, _ => .bad

theorem info_of {t : TypeId} (h : 0 < P.cellsOf t) : ∃ j, P.info? t = some j ∧ j.size ≠ 0 := by
  unfold Program.cellsOf at h
  cases hi : P.info? t with
  | none => simp [hi] at h
  | some i => exact ⟨i, rfl, by simp [hi] at h; omega⟩

theorem rConvU_sound (hr : RS P ρ I w σ) (s d : TypeId) (b o : Nat) (v : Value) (hx : V ρ σ I w (.ptr b o) v) : Pev P ρ σ I w (convert s d v) (rConvU P s d b o σ) := by
  unfold rConvU
  split
  · rename_i t hs hd
    split
    · rename_i e cs hst
      have hsb := stGet_some hst (by simp)
      refine .need fun ⟨hz, ho⟩ => ?_
      obtain ⟨j, hj, hj0⟩ := info_of hz
      cases hx with | ptr k1 k2 =>
      rw [hsb] at k1; cases k1
      rename_i B
      obtain ⟨us, q1, q2, q3⟩ := hr.box hsb k2
      have hsh : w.shape? B = some (e, us.size) := by simp [World.shape?, q1]
      exact .ok (Lib.run_to_unsafe w ⟨B, o, none⟩ hs hd hj hj0 hsh (by show o < us.size; omega)) (.ptr hsb k2)
    · exact .bad
  · rename_i u hs hd
    split
    · rename_i e cs hst
      have hsb := stGet_some hst (by simp)
      refine .need fun ⟨hz, hl⟩ => ?_
      obtain ⟨j, hj, hj0⟩ := info_of hz
      cases hx with | ptr k1 k2 =>
      rw [hsb] at k1; cases k1
      rename_i B
      obtain ⟨us, q1, q2, q3⟩ := hr.box hsb k2
      have hsh : w.shape? B = some (e, us.size) := by simp [World.shape?, q1]
      refine .ok (Lib.run_from_unsafe w ⟨B, o, none⟩ hs hd hj hsh ?_) (.ptr hsb k2)
      rw [← q2]; exact hl
    · exact .bad
  · exact .bad

/-- A conversion. -/
def rCv0 (P : Program) (s d : TypeId) (x : AV) (σ : ST) : Res :=
  match x with
  | .ptr b o => rConvU P s d b o σ
  | x => rConv P s d x σ
@[go_sem] theorem rCv0_ptr (s d : TypeId) (b o : Nat) (σ : ST) : rCv0 P s d (.ptr b o) σ = rConvU P s d b o σ := nrfl rfl
@[go_sem] theorem rCv0_d (s d : TypeId) (x : DV) (σ : ST) : rCv0 P s d (.d x) σ = rConv P s d (.d x) σ := nrfl rfl
theorem rCv0_sound (hr : RS P ρ I w σ) (s d : TypeId) (x : AV) (v : Value) (hx : V ρ σ I w x v) : Pev P ρ σ I w (convert s d v) (rCv0 P s d x σ) := by
  unfold rCv0
  split
  · exact rConvU_sound hr s d _ _ v hx
  · exact rConv_sound s d _ v hx

/- the first element's address -/
def rUSD (P : Program) (ty : TypeId) (x : AV) (σ : ST) : Res :=
  match P.underlying ty, x with
  | some (.pointer _), .d .nilslice => .ok .aptr σ
  | some (.pointer _), .own b g off n => match stGet σ b with
    | .arr g' e xs => .need (g = g') (bif Nat.beq n 0 then .ok .aptr σ else .ok (.eptr b g off 0) σ)
    | _ => .bad
  | _, _ => .bad

theorem rUSD_sound (hr : RS P ρ I w σ) (ts : Array TypeId) (ty : TypeId) (x : AV) (v : Value) (hx : V ρ σ I w x v) : Eff P ρ σ I w (Builtin.unsafeSliceData_ ts ty #[v]) (rUSD P ty x σ) := by
  unfold rUSD
  split
  · cases hx.d_inv
    exact Pev.eff hr (.ok (Lib.run_unsafeSliceData_nil w ts ty 0 0) (.aptr _))
  · rename_i pe b g off n hp
    split
    · rename_i g' e xs hst
      have hsb := stGet_some hst (by simp)
      refine .need fun hg => ?_
      subst hg
      have pos : ∀ (a : Addr) (c : Nat), c ≠ 0 → V ρ σ I w (bif Nat.beq n 0 then .aptr else .eptr b g off 0) (.pointer (some a)) →
          Eff P ρ σ I w (Builtin.unsafeSliceData_ ts ty #[.slice (some a) n c]) (bif Nat.beq n 0 then .ok .aptr σ else .ok (.eptr b g off 0) σ) := by
        intro a c hc hv
        have h := Lib.run_unsafeSliceData_row (P := P) w ts ty a n c hc
        cases hb : Nat.beq n 0
        · rw [hb] at hv; exact Pev.eff hr (.ok h hv)
        · rw [hb] at hv; exact Pev.eff hr (.ok h hv)
      have zero : ∀ (a : Addr), n = 0 → (∃ sh, w.shape? a.block = some sh) →
          Eff P ρ σ I w (Builtin.unsafeSliceData_ ts ty #[.slice (some a) n 0]) (bif Nat.beq n 0 then .ok .aptr σ else .ok (.eptr b g off 0) σ) := by
        rintro a rfl ⟨sh, hsh⟩ R hR
        have h := Lib.run_unsafeSliceData_zero (P := P) w ts ty pe hp a 0 sh hsh
        have hsz : Ext w (w.alloc (.view a pe)) := Ext.of (by rw [push_size]; omega)
        exact ⟨_, .aptr, _, ρ, I, σ, h, Step.more hsz (push_old w _), hr.more hsz (push_old w _), .aptr _, hR⟩
      cases hx with
      | ownOld k1 k2 => rw [hsb] at k1; cases k1; exact absurd (k2 _ _ _ rfl) (by omega)
      | @ownNil _ _ _ _ _ p k1 k2 =>
        cases p with
        | none => exact Pev.eff hr (.ok (Lib.run_unsafeSliceData_nil w ts ty 0 0) (.aptr _))
        | some a =>
          have hlt := (k2 a rfl).2
          obtain ⟨o, ho⟩ : ∃ o, w.heap[a.block]? = some o := ⟨_, Array.getElem?_eq_getElem hlt⟩
          have hdef : Builtin.unsafeSliceData_ ts ty #[.slice (some a) 0 0] =
              (do
                if (0 : Nat) ≠ 0 then pure (.pointer (some a))
                else if (← viewAt a.block).isSome then pure (.pointer (some a))
                else pure (.pointer (some ⟨← newObj (.view a (← elemOf ty)), 0, none⟩))) := rfl
          have fresh : (Builtin.unsafeSliceData_ ts ty #[.slice (some a) 0 0]).run P w = .ok (.pointer (some ⟨w.heap.size, 0, none⟩)) (w.alloc (.view a pe)) →
              Eff P ρ σ I w (Builtin.unsafeSliceData_ ts ty #[.slice (some a) 0 0]) (bif Nat.beq 0 0 then .ok .aptr σ else .ok (.eptr b g off 0) σ) := by
            intro h R hR
            have hsz : Ext w (w.alloc (.view a pe)) := Ext.of (by rw [push_size]; omega)
            exact ⟨_, .aptr, _, ρ, I, σ, h, Step.more hsz (push_old w _), hr.more hsz (push_old w _), .aptr _, hR⟩
          have hg : (∀ us t f, o ≠ .cells us t f) → (getObj a.block).run P w = .ok o w := by
            intro h
            cases o <;> first | exact absurd rfl (h _ _ _) | simp [getObj, Sem.run, ho]
          cases o with
          | cells us t f => exact zero a rfl ⟨(t, us.size), by simp [World.shape?, ho]⟩
          | view a' t => exact Pev.eff hr (.ok (v := .pointer (some a)) (by rw [hdef]; simp [viewAt, World.shape?, ho, hg (by simp)]) (.aptr _))
          | _ => exact fresh (by rw [hdef]; simp [viewAt, World.shape?, ho, hg (by simp), elemOf, run_underlying hp])
      | own k1 k2 k3 k4 =>
        rw [hsb] at k1; cases k1
        rename_i B cap
        obtain ⟨us, q1, q2, q3, q4, q5⟩ := hr.arr hsb k2
        by_cases hc : cap = 0
        · subst hc
          exact zero _ (by omega) ⟨_, by simp [World.shape?, q1]; rfl⟩
        · refine pos _ cap hc ?_
          cases hb : Nat.beq n 0
          · exact .eptr hsb k2
          · exact .aptr _
    · exact Eff.bad
  · exact Eff.bad

end
end Nv
/- A string over a row of the call's own: soundness. -/

set_option linter.unusedVariables false
set_option linter.unusedSimpArgs false
namespace Nv
open Go

section
variable {P : Program} {ρ ρ' : RHO} {σ σ' : ST} {I I' : Nat → Prop} {w w' : World}

/- bytes -/
def isB : DV → Bool
  | .int .u8 n => decide (0 ≤ n ∧ n < 256)
  | _ => false
def ofB : DV → UInt8
  | .int _ n => n.toNat.toUInt8
  | _ => 0
@[go_sem] theorem isB_u8 (b : UInt8) : isB (.int .u8 (b.toNat : Nat)) = true := by
  have := b.toNat_lt
  simp [isB]; omega
@[go_sem] theorem ofB_u8 (b : UInt8) : ofB (.int .u8 (b.toNat : Nat)) = b := by simp [ofB]
theorem isB_cell {x : DV} (h : isB x = true) : x = .int .u8 ((ofB x).toNat : Nat) := by
  cases x <;> simp [isB] at h
  rename_i k n
  cases k <;> simp [isB] at h
  simp only [ofB, UInt8.toNat_ofNat']
  congr 1
  omega

def rUStr (P : Program) (t : TypeId) (x n : AV) (σ : ST) : Res :=
  match P.underlying t, x, n with
  | some (.pointer _), .aptr, .d (.int .i64 n) => .need (n = 0) (.ok (.d (.str [])) σ)
  | some (.pointer el), .eptr b g i o, .d (.int .i64 n) => match stGet σ b with
    | .arr g' e xs => .need (g = g' ∧ o = 0 ∧ e.n = 1 ∧ e.t = el ∧ P.cellsOf el = 1 ∧ 0 < n ∧ i + n.toNat ≤ xs.length ∧ n ≤ 9223372036854775807 ∧ ((xs.drop i).take n.toNat).all isB = true)
        (.ok (.d (.str (((xs.drop i).take n.toNat).map ofB))) (stSet σ b .dead))
    | _ => .bad
  | _, _, _ => .bad

theorem liesAt_bytes_at {e : TypeId} (hc : P.cellsOf e = 1) (count off n : Nat) (hn : off + n ≤ count) : liesAt P P.depth e count off e n = true := by
  have hd : P.depth = (2 * (P.types.size + Made.depth) + 1) + 1 := rfl
  rw [hd]
  simp only [liesAt, Bool.or_eq_true]
  left
  rw [hd]
  simp [rowAt, hc, hn, sameLayout, Nat.mod_one]

theorem run_unsafeString_at (ts : Array TypeId) (pt ty e : TypeId) (ht : ts[0]? = some pt) (hp : P.underlying pt = some (.pointer e)) (hc : P.cellsOf e = 1) (g off cells : Nat) (hsh : w.shape? g = some (e, cells)) (l : List UInt8) (h0 : l ≠ []) (hn : off + l.length ≤ cells) (h63 : l.length ≤ 9223372036854775807)
    (hcell : ∀ j x, l[j]? = some x → w.cell? ((⟨g, off, none⟩ : Addr).add j) = some (.int .u8 x.toNat)) :
    (Builtin.unsafeString_ ts ty #[.pointer (some ⟨g, off, none⟩), .int .i64 l.length]).run P w = .ok (.string ⟨l.toArray⟩) (w.freeze ⟨g, off, none⟩ l.length) := by
  have hl : l.length ≠ 0 := by simpa using h0
  have hlb := Lib.run_loadBytes (P := P) w l ⟨g, off, none⟩ .empty hcell
  have hlies := liesAt_bytes_at (P := P) hc (cells / P.cellsOf e) off l.length (by rw [hc]; simpa using hn)
  have h63' : ¬ (9223372036854775807 : Int) < (l.length : Int) := by omega
  obtain ⟨s1, s2, s3, s4, hdef⟩ : ∃ s1 s2 s3 s4 : String, Builtin.unsafeString_ ts ty #[.pointer (some ⟨g, off, none⟩), .int .i64 l.length] =
      (do
        let n ← asInt (.int .i64 l.length)
        let some pt := ts[0]? | stuck s1
        if n < 0 then runtimePanic (.error s2)
        if n > IntKind.i64.max then unsupported (.unsafePointer s3)
        if n = 0 then pure (.string .empty)
        else if ← variablesAt ⟨g, off, none⟩ (← elemOf pt) n.toNat then do
          let s ← loadBytes ⟨g, off, none⟩ .empty n.toNat
          freeze ⟨g, off, none⟩ n.toNat
          pure (.string s)
        else unsupported (.unsafePointer s4)) := ⟨_, _, _, _, rfl⟩
  rw [hdef]
  have hmax : IntKind.i64.max = 9223372036854775807 := rfl
  have hneg : ¬ (l.length : Int) < 0 := by omega
  simp [asInt, asIntOf, hmax, h63', hneg, hl, variablesAt, hsh, elemOf, run_underlying hp, hlies, hlb, ht]

theorem run_unsafeString_no (ts : Array TypeId) (pt ty : TypeId) (ht : ts[0]? = some pt) (p : Option Addr) : (Builtin.unsafeString_ ts ty #[.pointer p, .int .i64 0]).run P w = .ok (.string .empty) w := by
  have hmax : IntKind.i64.max = 9223372036854775807 := rfl
  cases p with
  | none =>
    obtain ⟨s1, s2, s3, s4, hdef⟩ : ∃ s1 s2 s3 s4 : String, Builtin.unsafeString_ ts ty #[.pointer none, .int .i64 0] =
        (do
          let n ← asInt (.int .i64 0)
          let some pt := ts[0]? | stuck s1
          if n < 0 then runtimePanic (.error s2)
          if n > IntKind.i64.max then unsupported (.unsafePointer s3)
          if n = 0 then pure (.string .empty)
          else runtimePanic (.error s4)) := ⟨_, _, _, _, rfl⟩
    rw [hdef]
    simp [asInt, asIntOf, hmax, ht]
  | some a =>
    obtain ⟨s1, s2, s3, s4, hdef⟩ : ∃ s1 s2 s3 s4 : String, Builtin.unsafeString_ ts ty #[.pointer (some a), .int .i64 0] =
        (do
          let n ← asInt (.int .i64 0)
          let some pt := ts[0]? | stuck s1
          if n < 0 then runtimePanic (.error s2)
          if n > IntKind.i64.max then unsupported (.unsafePointer s3)
          if n = 0 then pure (.string .empty)
          else if ← variablesAt a (← elemOf pt) n.toNat then do
            let s ← loadBytes a .empty n.toNat
            freeze a n.toNat
            pure (.string s)
          else unsupported (.unsafePointer s4)) := ⟨_, _, _, _, rfl⟩
    rw [hdef]
    simp [asInt, asIntOf, hmax, ht]

theorem rUStr_sound (hr : RS P ρ I w σ) (t ty : TypeId) (ts : Array TypeId) (x n : AV) (v u : Value) (ht : ts[0]? = some t) (hx : V ρ σ I w x v) (hn : V ρ σ I w n u) :
    Eff P ρ σ I w (Builtin.unsafeString_ ts ty #[v, u]) (rUStr P t x n σ) := by
  unfold rUStr
  split
  · rename_i pe n hp
    cases hn.d_inv.int_inv
    cases hx with | aptr p =>
    refine Eff.need fun h0 => ?_
    subst h0
    exact Pev.eff hr (.ok (run_unsafeString_no ts t ty ht p) (.d (.str [])))
  · rename_i el b g i o n hp
    cases hn.d_inv.int_inv
    split
    · rename_i g' e xs hst
      have hsb := stGet_some hst (by simp)
      have hblt : b < σ.length := by rcases Nat.lt_or_ge b σ.length with h' | h'; exact h'; simp [List.getElem?_eq_none h'] at hsb
      refine Eff.need fun ⟨hg, ho, he1, het, hc, hn0, hin, hnm, hall⟩ => ?_
      subst hg ho het
      cases hx with
      | eptrOld k1 k2 => rw [hsb] at k1; cases k1; exact absurd (k2 _ _ _ rfl) (by omega)
      | eptr k1 k2 =>
        rw [hsb] at k1; cases k1
        rename_i B
        obtain ⟨us, q1, q2, q3, q4, q5⟩ := hr.arr hsb k2
        rw [he1, Nat.mul_one] at q2
        rw [he1, Nat.mul_one, Nat.add_zero]
        have hcl : ∀ ys : List DV, (∀ y ∈ ys, isB y = true) → flat ys = ys := by
          intro ys h
          induction ys with
          | nil => rfl
          | cons y ys ih =>
            have h1 : y.cells = [y] := by rw [isB_cell (h y (by simp))]; rfl
            show y.cells ++ flat ys = _
            rw [h1, ih (fun z hz => h z (by simp [hz]))]; rfl
        have hall' : ∀ y ∈ (xs.drop i).take n.toNat, isB y = true := by simpa using hall
        have hlen : ((xs.drop i).take n.toNat).length = n.toNat := by simp; omega
        have hflat : ∀ j x, ((xs.drop i).take n.toNat)[j]? = some x → (flat xs)[i + j]? = some x := by
          intro j x hj
          have h1 : (flat ((xs.drop i).take n.toNat))[j]? = some x := by rw [hcl _ hall']; exact hj
          rw [flat_take (fun x hx => q4 x (List.mem_of_mem_drop hx)), flat_drop q4, he1, Nat.mul_one, Nat.mul_one, List.getElem?_take] at h1
          split at h1
          · rwa [List.getElem?_drop] at h1
          · cases h1
        obtain ⟨l, hl⟩ : ∃ l, l = ((xs.drop i).take n.toNat).map ofB := ⟨_, rfl⟩
        rw [← hl]
        have hll : l.length = n.toNat := by rw [hl, List.length_map, hlen]
        have hrun := run_unsafeString_at (P := P) (w := w) ts t ty e.t ht hp hc B ((ρ b).base + i) us.size (by simp [World.shape?, q1]) l (by intro h; rw [h] at hll; simp at hll; omega) (by rw [hll]; omega) (by rw [hll]; omega) (by
          intro j x hj
          simp only [hl, List.getElem?_map, Option.map_eq_some_iff] at hj
          obtain ⟨y, hy, rfl⟩ := hj
          have hy' := hflat j y hy
          have hyB : isB y = true := hall' y (List.mem_of_getElem? hy)
          have hvd := q5 _ _ hy'
          rw [isB_cell hyB] at hvd
          have hv := hvd.int_inv
          have hj' : j < n.toNat := by
            rcases Nat.lt_or_ge j n.toNat with h | h
            · exact h
            · rw [List.getElem?_eq_none (by omega)] at hy; cases hy
          have : (ρ b).base + i + j < us.size := by omega
          rw [Addr.add_lit]
          rw [← Nat.add_assoc] at hv
          rw [cell_of_heap q1 this, hv])
        have hnn : ((n.toNat : Nat) : Int) = n := by omega
        rw [hll, hnn] at hrun
        intro R hR
        have hfz : ∀ B', B' ≠ B → (w.freeze ⟨B, (ρ b).base + i, none⟩ n.toNat).heap[B']? = w.heap[B']? := by
          intro B' hne
          unfold World.freeze
          split
          · rfl
          · simp only [Array.getElem?_modify]; rw [if_neg (by omega)]
        have hfs : (w.freeze ⟨B, (ρ b).base + i, none⟩ n.toNat).heap.size = w.heap.size := by
          unfold World.freeze
          split
          · rfl
          · simp
        have hfe : Around w (w.freeze ⟨B, (ρ b).base + i, none⟩ n.toNat) := by
          unfold World.freeze
          split
          · exact Around.refl w
          · exact ⟨rfl, rfl, rfl⟩
        generalize hw' : w.freeze ⟨B, (ρ b).base + i, none⟩ n.toNat = w' at *
        have hstep : Step ρ I w σ ρ I w' (stSet σ b .dead) := by
          refine ⟨fun B' _ hl => hfz B' (fun h => hl (by subst h; exact ⟨b, _, hsb, trivial, k2⟩)), fun _ h => h, fun B h => .inl h, fun B h => ?_, Nat.le_of_eq hfs.symm, fun i bl h => ?_, hfe⟩
          · obtain ⟨i, bl, h1, h2, h3⟩ := h
            by_cases hi : i = b
            · subst hi; simp [stSet, hblt] at h1; subst h1; exact h2.elim
            · rw [stSet, List.getElem?_set_ne (by omega)] at h1; exact .inl ⟨i, bl, h1, h2, h3⟩
          · by_cases hi : i = b
            · subst hi; rw [hsb] at h; cases h; exact ⟨.dead, by simp [stSet, hblt], trivial⟩
            · exact ⟨bl, by rw [stSet, List.getElem?_set_ne (by omega)]; exact h, Compat.refl _ _⟩
        have hrs : RS P ρ I w' (stSet σ b .dead) := by
          refine ⟨fun i bl h => ?_, fun i j bi bj B hi hj li lj hBi hBj => ?_, fun B hl hI => ?_, fun B hI => hfs ▸ hr.bound B hI, hstep.tabs hr⟩
          · by_cases hi : i = b
            · subst hi; simp [stSet, hblt] at h; subst h; exact .dead
            · rw [stSet, List.getElem?_set_ne (by omega)] at h
              by_cases hlive : bl.live
              · exact RB.step hr hstep (fun B' hB' => hfz B' (fun he => hi (hr.inj i b bl _ B h hsb hlive trivial (by rw [hB', he]) k2))) (hr.blk i bl h)
              · cases bl <;> first | exact .dead | exact absurd trivial hlive
          · by_cases hi' : i = b
            · subst hi'; simp [stSet, hblt] at hi; subst hi; exact li.elim
            · by_cases hj' : j = b
              · subst hj'; simp [stSet, hblt] at hj; subst hj; exact lj.elim
              · rw [stSet, List.getElem?_set_ne (by omega)] at hi hj
                exact hr.inj i j bi bj B hi hj li lj hBi hBj
          · obtain ⟨i, bl, h1, h2, h3⟩ := hl
            by_cases hi : i = b
            · subst hi; simp [stSet, hblt] at h1; subst h1; exact h2.elim
            · rw [stSet, List.getElem?_set_ne (by omega)] at h1
              exact hr.sep B ⟨i, bl, h1, h2, h3⟩ hI
        refine ⟨.string ⟨l.toArray⟩, .d (.str l), w', ρ, I, stSet σ b .dead, ?_, hstep, hrs, .d (.str l), ?_⟩
        · exact hrun
        · exact hR
    · exact Eff.bad
  · exact Eff.bad
end
end Nv
/- A string turned to its runes: soundness. -/


set_option linter.unusedVariables false
set_option linter.unusedSimpArgs false
namespace Nv
open Go

section
variable {P : Program} {ρ ρ' : RHO} {σ σ' : ST} {I I' : Nat → Prop} {w w' : World}

def valD : Value → DV
  | .int k n => .int k n
  | _ => default

def runesD (s : List UInt8) : List DV := (Conv.runesFrom ⟨s.toArray⟩ s.length 0 #[]).toList.map valD

theorem runes_ints (s : ByteArray) : ∀ (bound i : Nat) (acc : Array Value), (∀ v, v ∈ acc → ∃ n, v = .int .i32 n) → ∀ v, v ∈ Conv.runesFrom s bound i acc → ∃ n, v = .int .i32 n
  | 0, _, acc, h => by simpa [Conv.runesFrom] using h
  | bound + 1, i, acc, h => by
    unfold Conv.runesFrom
    split
    · refine runes_ints s bound _ _ (fun v hv => ?_)
      rcases Array.mem_push.1 hv with hv | hv
      · exact h v hv
      · exact ⟨_, hv⟩
    · exact h

def rRunes (P : Program) (el : TypeId) (s : List UInt8) (σ : ST) : Res :=
  match P.underlying el with
  | some (.int .i32) => .need (P.cellsOf el = 1 ∧ s.length ≤ 70368744177664) (newArr σ 1 el (runesD s))
  | _ => .bad

theorem rRunes_sound (hr : RS P ρ I w σ) (src dst el : TypeId) (s : List UInt8) (hs : P.underlying src = some .string) (hd : P.underlying dst = some (.slice el)) :
    Eff P ρ σ I w (convert src dst (.string ⟨s.toArray⟩)) (rRunes P el s σ) := by
  unfold rRunes
  split
  · rename_i he
    refine Eff.need fun ⟨hc, hlim⟩ => ?_
    have hsz : (⟨s.toArray⟩ : ByteArray).size = s.length := by simp [ByteArray.size]
    have hle := size_runesFrom ⟨s.toArray⟩ s.length 0 #[]
    simp only [List.size_toArray, List.length_nil, Nat.zero_add] at hle
    have hrun := run_runes_of_string (P := P) w src dst el ⟨s.toArray⟩ hs hd he (by rw [hsz]; omega)
    rw [hsz] at hrun
    generalize hR : Conv.runesFrom ⟨s.toArray⟩ s.length 0 #[] = R at *
    have hints : ∀ v, v ∈ R → ∃ n, v = .int .i32 n := by rw [← hR]; exact runes_ints _ _ _ _ (by simp)
    have hx : runesD s = R.toList.map valD := by unfold runesD; rw [hR]
    have hxl : (runesD s).length = R.size := by rw [hx]; simp
    have hge := grownCap_ge w R.size 0 el
    have hflat : flat (runesD s) = runesD s := by
      rw [hx]
      have : ∀ l : List Value, (∀ v, v ∈ l → ∃ n, v = .int .i32 n) → flat (l.map valD) = l.map valD := by
        intro l
        induction l with
        | nil => intro _; rfl
        | cons v l ih =>
          intro h
          obtain ⟨n, rfl⟩ := h v (by simp)
          show DV.cells (valD _) ++ flat (l.map valD) = _
          rw [ih (fun u hu => h u (by simp [hu]))]; rfl
      exact this _ (fun v hv => hints v (by simpa using hv))
    rw [← hxl] at hrun
    refine newArr_eff hr (cap := grownCap w R.size 0 el) (us := R ++ Array.replicate (grownCap w R.size 0 el - R.size) (.int .i32 0)) (e := 1) (w' := _) ?_ ⟨w.drawn + 1, rfl⟩ (by simp; omega) (by rw [hxl]; exact hge) (fun x hm => ?_) (fun j c hj => ?_)
    · rw [hxl] at hrun ⊢; exact hrun
    · rw [hx] at hm
      obtain ⟨v, hv, rfl⟩ := List.mem_map.1 hm
      obtain ⟨n, rfl⟩ := hints v (by simpa using hv)
      exact ⟨rfl, by simp [valD, DV.isAgg]⟩
    · rw [hflat, hx, List.getElem?_map, Option.map_eq_some_iff] at hj
      obtain ⟨v, hv, rfl⟩ := hj
      have hv' : R[j]? = some v := by simpa using hv
      have hjl : j < R.size := (Array.getElem?_eq_some_iff.1 hv').1
      obtain ⟨n, rfl⟩ := hints v (Array.mem_of_getElem? hv')
      rw [Array.getD_eq_getD_getElem?, Array.getElem?_append_left hjl, hv']
      exact .int _ _
  · exact Eff.bad

theorem run_bytes_from {P : Program} {w : World} {f : Value → ByteArray → Sem (ForInStep ByteArray)} (hf : ∀ (b : UInt8) (s : ByteArray), f (.int .u8 (b.toNat : Int)) s = pure (.yield (s.push b))) : ∀ (l : List UInt8) (acc : ByteArray),
    Sem.run P (forIn (List.map (fun b : UInt8 => Value.int IntKind.u8 (b.toNat : Int)) l) acc f) w = .ok ⟨⟨acc.data.toList ++ l⟩⟩ w
  | [], acc => by simp
  | b :: l, acc => by
    rw [List.map_cons, List.forIn_cons, hf, pure_bind]
    simp only
    rw [run_bytes_from hf l (acc.push b)]
    simp [ByteArray.push]
theorem run_bytes {P : Program} {w : World} (a : Addr) (len cap : Nat) (l : List UInt8) (h : (loadCells a len).run P w = .ok (l.map fun b => Value.int .u8 (b.toNat : Int)).toArray w) :
    (Conv.bytesToString (.slice (some a) len cap)).run P w = .ok (.string ⟨l.toArray⟩) w := by
  simp only [Conv.bytesToString, Sem.run_bind, h, Result.andThen_ok]
  rw [List.forIn_toArray, run_bytes_from (fun b s => by simp only [Int.toNat_natCast, UInt8.ofNat_toNat])]
  simp [ByteArray.empty, ByteArray.emptyWithCapacity]
  rfl
def bytesOf : List DV → Option (List UInt8)
  | [] => some []
  | .int .u8 n :: l => bif decide (0 ≤ n) && decide (n < 256) then (bytesOf l).map (UInt8.ofNat n.toNat :: ·) else none
  | _ => none
theorem bytesOf_eq : ∀ {l : List DV} {s : List UInt8}, bytesOf l = some s → l = s.map fun b => .int .u8 (b.toNat : Int)
  | [], s, h => by simp only [bytesOf, Option.some.injEq] at h; subst h; rfl
  | x :: l, s, h => by
    unfold bytesOf at h
    split at h
    · rename_i he; cases he
    · rename_i n l' he
      cases he
      cases hc : (decide (0 ≤ n) && decide (n < 256))
      · rw [hc] at h; cases h
      · rw [hc] at h
        simp only [cond_true, Option.map_eq_some_iff] at h
        simp only [Bool.and_eq_true, decide_eq_true_eq] at hc
        obtain ⟨t, ht, rfl⟩ := h
        rw [bytesOf_eq ht, List.map_cons]
        congr 2
        simp; omega
    · cases h
theorem bytesOf_map : ∀ s : List UInt8, bytesOf (s.map fun b => .int .u8 (b.toNat : Int)) = some s
  | [] => rfl
  | b :: s => by
    have hb := b.toNat_lt
    rw [List.map_cons, bytesOf, bytesOf_map s, show (decide ((0 : Int) ≤ (b.toNat : Int)) && decide ((b.toNat : Int) < 256)) = true by simp only [Bool.and_eq_true, decide_eq_true_eq]; omega]
    simp
def rBytes (P : Program) (el : TypeId) (xs : List DV) (σ : ST) : Res :=
  match P.underlying el, bytesOf xs with
  | some (.int .u8), some s => .ok (.d (.str s)) σ
  | _, _ => .bad
theorem rBytes_sound (src dst el : TypeId) (xs : List DV) (v : Value) (hx : V ρ σ I w (.d (.list 1 xs)) v) (hs : P.underlying src = some (.slice el)) (hd : P.underlying dst = some .string) :
    Pev P ρ σ I w (convert src dst v) (rBytes P el xs σ) := by
  unfold rBytes
  split
  · rename_i s he hb
    have hxs := bytesOf_eq hb
    have hcv : ∀ v : Value, (∃ a n c, v = .slice a n c) → (convert src dst v).run P w = (Conv.bytesToString v).run P w := by
      rintro v ⟨a, n, c, rfl⟩
      simp only [convert, Sem.run_bind, run_underlying hs, run_underlying hd, Result.andThen_ok, run_underlying he]
    cases hx.d_inv with
    | listNil e p =>
      obtain rfl : s = [] := by cases s with | nil => rfl | cons b s => cases hxs
      refine .ok (v := .string ⟨#[]⟩) ?_ (.d (.str []))
      rw [hcv _ ⟨_, _, _, rfl⟩]
      cases p with
      | none => rfl
      | some a =>
        have := run_bytes (P := P) (w := w) a 0 0 [] (by simp [loadCells, loadCellsFrom])
        exact this
    | list us h1 h2 h0 h3 h4 =>
      have hfl : flat xs = xs := by
        rw [hxs]
        clear hxs hb h0 h3 h4 h1 h2
        induction s with
        | nil => rfl
        | cons b s ih => show [_] ++ flat _ = _; rw [ih]; rfl
      have hlen : xs.length = s.length := by rw [hxs]; simp
      refine .ok (v := .string ⟨s.toArray⟩) ?_ (.d (.str s))
      rw [hcv _ ⟨_, _, _, rfl⟩]
      refine run_bytes _ _ _ s ?_
      have hg : ∀ j (hj : j < s.length), xs[j]? = some (.int .u8 ((s[j]'hj).toNat : Int)) := fun j hj => by rw [hxs]; simp [hj]
      unfold loadCells
      rw [run_loadCellsFrom _ _ _ 0 #[] us (fun j hj => by
        have := h3 j _ (by rw [hfl]; exact hg j (by omega))
        simpa using this.2)]
      congr 1
      rw [h1, hlen]
      simp only [Array.empty_append]
      congr 1
      refine List.ext_getElem (by simp) fun j k1 k2 => ?_
      have := h4 j _ (by rw [hfl]; exact hg j (by simpa using k1))
      simp only [List.getElem_map, List.getElem_range]
      exact this.int_inv
  · exact .bad

/-- An own slice, read as the data that it is now. -/
theorem own_read (hr : RS P ρ I w σ) {b g off n : Nat} {e : ET} {xs : List DV} {v : Value} (hst : stGet σ b = .arr g e xs) (hlen : off + n ≤ xs.length) (hav : V ρ σ I w (.own b g off n) v) :
    VD (fun B => I B ∨ Lives ρ σ B) w (.list e ((xs.drop off).take n)) v := by
  have hsb := stGet_some hst (by simp)
  cases hav with
  | ownOld k1 k2 => rw [hsb] at k1; cases k1; exact absurd (k2 _ _ _ rfl) (by omega)
  | @ownNil _ _ _ _ _ p k1 k2 =>
    simp only [List.take_zero]
    cases p with
    | none => exact .listNil _ _
    | some a =>
      obtain ⟨B, o, sp⟩ := a
      have := (k2 _ rfl).1
      simp only at this
      subst this
      exact .list (fun _ => undef) rfl (Nat.le_refl _) (by simp) (by simp [flat]) (by simp [flat])
  | own k1 k2 k3 k4 =>
    rw [hsb] at k1; cases k1
    rename_i B cap
    obtain ⟨us, q1, q2, q3, q4, q5⟩ := hr.arr hsb k2
    have hln : ((xs.drop off).take n).length = n := by simp; omega
    have hget : ∀ j c, (flat ((xs.drop off).take n))[j]? = some c → (flat xs)[off * e + j]? = some c ∧ j < n * e := by
      intro j c hj
      rw [flat_take (fun x hx => q4 x (List.mem_of_mem_drop hx)), flat_drop q4, List.getElem?_take] at hj
      split at hj
      · rename_i hlt; rw [List.getElem?_drop] at hj; exact ⟨hj, hlt⟩
      · cases hj
    refine .list (fun j => us.getD ((ρ b).base + off * e + j) undef) hln.symm k3 (fun x hx => q4 x (List.mem_of_mem_drop (List.mem_of_mem_take hx))) (fun j c hj => ?_) (fun j c hj => ?_)
    · obtain ⟨h1, h2⟩ := hget j c hj
      refine ⟨.inr ⟨b, _, hsb, trivial, k2⟩, cell_of_heap q1 ?_⟩
      have : (off + n) * e ≤ (ρ b).cap * e := Nat.mul_le_mul_right _ (by omega)
      rw [Nat.add_mul] at this; omega
    · obtain ⟨h1, h2⟩ := hget j c hj
      have := q5 _ _ h1
      rw [← Nat.add_assoc] at this
      exact this.mono (fun _ h => .inl h) (fun _ _ => rfl)

/-- A conversion that makes no memory. -/
def rCv (P : Program) (s d : TypeId) (x : AV) (σ : ST) : Res :=
  match P.underlying s, P.underlying d, x with
  | some (.slice el), some .string, .d (.list 1 xs) => rBytes P el xs σ
  | some (.slice el), some .string, .own b g off n =>
    match stGet σ b with
    | .arr g' e xs => .need (g = g' ∧ e.n = 1 ∧ off + n ≤ xs.length) (rBytes P el ((xs.drop off).take n) σ)
    | _ => .bad
  | _, _, x => rCv0 P s d x σ
theorem rBytes_data {el : TypeId} {xs : List DV} {I' : Nat → Prop} {σ' : ST} {s : Sem Value} (h : Pev P ρ σ' I' w s (rBytes P el xs σ')) : Pev P ρ σ I w s (rBytes P el xs σ) := by
  unfold rBytes at h ⊢
  split
  · rename_i t he hb
    rw [he, hb] at h
    obtain ⟨v, av, hv1, hv2, hv3⟩ := h (fun av _ => av = .d (.str t)) rfl
    subst hv3
    exact .ok hv1 (by cases hv2.d_inv; exact .d (.str _))
  · exact .bad
theorem rCv_sound (hr : RS P ρ I w σ) (s d : TypeId) (x : AV) (v : Value) (hx : V ρ σ I w x v) : Pev P ρ σ I w (convert s d v) (rCv P s d x σ) := by
  unfold rCv
  split
  · rename_i el xs hs hd
    exact rBytes_sound s d el xs v hx hs hd
  · rename_i el b g off n hs hd
    split
    · rename_i g' e xs hst
      refine .need fun ⟨hg, he, hlen⟩ => ?_
      subst hg
      have h := own_read hr hst hlen hx
      rw [he] at h
      exact rBytes_data (rBytes_sound (σ := σ) s d el _ v (.d h) hs hd)
    · exact .bad
  · exact rCv0_sound hr s d _ v hx

/-- A conversion that may make memory. -/
def rCvA (P : Program) (s d : TypeId) (x : AV) (σ : ST) : Res :=
  match P.underlying s, P.underlying d, x with
  | some .string, some (.slice el), .d (.str t) => rRunes P el t σ
  | _, _, x => rCv P s d x σ

theorem rCvA_sound (hr : RS P ρ I w σ) (s d : TypeId) (x : AV) (v : Value) (hx : V ρ σ I w x v) : Eff P ρ σ I w (convert s d v) (rCvA P s d x σ) := by
  unfold rCvA
  split
  · rename_i el t hs hd
    cases hx.d_inv.str_inv
    exact rRunes_sound hr s d el t hs hd
  · exact Pev.eff hr (rCv_sound hr s d _ v hx)

/-- Where the conversion that makes no memory comes to something, it is this one. -/
theorem rCvA_of {s d : TypeId} {x : AV} (h : rCv P s d x σ ≠ .bad) : rCvA P s d x σ = rCv P s d x σ := by
  unfold rCvA
  split
  · rename_i el t hs hd
    exact absurd (by simp [rCv, rCv0, rConv, hs, hd]) h
  · rfl
end
end Nv
/- Ranging over a string: soundness. -/


set_option linter.unusedVariables false
set_option linter.unusedSimpArgs false
namespace Nv
open Go

section
variable {P : Program} {ρ ρ' : RHO} {σ σ' : ST} {I I' : Nat → Prop} {w w' : World}

def rRange (P : Program) (t : TypeId) (x : AV) (σ : ST) : Res :=
  match P.underlying t, x with
  | some .string, .d (.str s) => .ok (.itr σ.length) (σ ++ [.iter s 0])
  | _, _ => .bad

theorem rRange_sound (hr : RS P ρ I w σ) (t : TypeId) (x : AV) (v : Value) (hx : V ρ σ I w x v) : Eff P ρ σ I w (Instr.range t v) (rRange P t x σ) := by
  unfold rRange
  split
  · rename_i s ht
    cases hx.d_inv.str_inv
    intro R hR
    let p : Place := ⟨some w.heap.size, 0, 0⟩
    have hp : ∀ B, p.blk = some B → w.heap.size ≤ B := fun B hB => by cases hB; exact Nat.le_refl _
    have hsz : Ext w (World.alloc w (.stringIter ⟨s.toArray⟩ 0)) := Ext.of (by rw [push_size]; omega)
    have hst := step_push hr (.iter s 0) p hsz (push_old w _) hp
    have hrun : (Instr.range t (.string ⟨s.toArray⟩)).run P w = .ok (.pointer (some ⟨w.heap.size, 0, none⟩)) (World.alloc w (.stringIter ⟨s.toArray⟩ 0)) := by
      simp [Instr.range, run_underlying ht]
    have hnew : (World.alloc w (.stringIter ⟨s.toArray⟩ 0)).heap[w.heap.size]? = some (.stringIter ⟨s.toArray⟩ 0) := by
      show (w.heap.push _)[w.heap.size]? = _
      simp
    refine ⟨_, .itr σ.length, _, _, I, _, hrun, hst, rs_push hr (.iter s 0) p hsz (push_old w _) hp (.iter rfl hnew), .itr (s := s) (pos := 0) (by simp) (by rw [updR_same]), hR⟩
  · exact Eff.bad

def rNext (x : AV) (str : Bool) (σ : ST) : Res :=
  match x, str with
  | .itr b, true => match stGet σ b with
    | .iter s pos => bif Nat.blt pos s.length then
        .ok (.tuple [.d (.bool true), .d (.int .i64 (pos : Nat)), .d (.int .i32 ((Utf8.decode ⟨s.toArray⟩ pos).1 : Nat))]) (stSet σ b (.iter s (pos + (Utf8.decode ⟨s.toArray⟩ pos).2)))
      else .ok (.tuple [.d (.bool false)]) σ
    | _ => .bad
  | _, _ => .bad

theorem rNext_sound (hr : RS P ρ I w σ) (x : AV) (v : Value) (str : Bool) (ty : TypeId) (hx : V ρ σ I w x v) : Eff P ρ σ I w (Instr.next v str ty) (rNext x str σ) := by
  unfold rNext
  split
  · rename_i b
    split
    · rename_i s pos hst
      have hsb := stGet_some hst (by simp)
      cases hx with | itr k1 k2 =>
      rw [hsb] at k1; cases k1
      rename_i B
      have hrb := hr.blk b _ hsb
      cases hrb with | iter h1 h2 =>
      rw [k2] at h1; cases h1
      have hg : (getObj B).run P w = .ok (.stringIter ⟨s.toArray⟩ pos) w := by simp [getObj, Sem.run, h2]
      have hsl : (⟨s.toArray⟩ : ByteArray).size = s.length := by simp [ByteArray.size]
      cases hlt : Nat.blt pos s.length
      · have hn : ¬ pos < (⟨s.toArray⟩ : ByteArray).size := by
          rw [hsl]; intro h; rw [show Nat.blt pos s.length = true by simpa using h] at hlt; cases hlt
        refine Pev.eff hr (.ok (v := .tuple #[.bool false]) ?_ (.tuple rfl (fun j c hj => ?_)))
        · simp only [Instr.next, Sem.run_bind, hg, Result.andThen_ok, hn, if_false, Sem.run_pure]
        · cases j with
          | zero => simp at hj; subst hj; exact .d (.bool false)
          | succ j => simp at hj
      · have hn : pos < (⟨s.toArray⟩ : ByteArray).size := by rw [hsl]; simpa using hlt
        intro R hR
        obtain ⟨c, wd, hdec⟩ : ∃ c wd, Utf8.decode ⟨s.toArray⟩ pos = (c, wd) := ⟨_, _, rfl⟩
        rw [hdec] at hR
        have hB : B < w.heap.size := (Array.getElem?_eq_some_iff.1 h2).1
        let w' : World := { w with heap := w.heap.set! B (.stringIter ⟨s.toArray⟩ (pos + wd)) }
        have hset : (setObj B (.stringIter ⟨s.toArray⟩ (pos + wd))).run P w = .ok () w' := by simp [setObj, Sem.run, h2, w']
        have hrun : (Instr.next (.pointer (some ⟨B, 0, none⟩)) true ty).run P w = .ok (.tuple #[.bool true, .int .i64 pos, .int .i32 c]) w' := by
          simp only [Instr.next, Sem.run_bind, hg, Result.andThen_ok, hn, if_true, hdec, hset, Sem.run_pure]
          rfl
        have hnew : w'.heap[B]? = some (.stringIter ⟨s.toArray⟩ (pos + wd)) := by
          show (w.heap.set! B _)[B]? = _
          simp [hB]
        have hold : ∀ c, c < w.heap.size → c ≠ B → w'.heap[c]? = w.heap[c]? := fun c _ hc => by
          show (w.heap.set! B _)[c]? = _
          simp [Ne.symm hc]
        have hsz : Ext w w' := Ext.of (by show w.heap.size ≤ (w.heap.set! B _).size; simp)
        have hp : ∀ B', (ρ b).blk = some B' → B' = B ∨ w.heap.size ≤ B' := fun B' h => by rw [k2] at h; cases h; exact .inl rfl
        have hcmp : Compat (.iter s pos) (ρ b) (.iter s (pos + wd)) (ρ b) := ⟨rfl, rfl⟩
        have hstep := step_upd (w' := w') hr hsb k2 trivial (ρ b) hcmp hsz hold hp
        refine ⟨_, .tuple [.d (.bool true), .d (.int .i64 (pos : Nat)), .d (.int .i32 (c : Nat))], w', _, I, _, hrun, hstep, rs_upd hr hsb k2 trivial (ρ b) hcmp hsz hold hp (.iter k2 hnew), .tuple rfl (fun j x hj => ?_), hR⟩
        match j, hj with
        | 0, hj => simp at hj; subst hj; exact .d (.bool true)
        | 1, hj => simp at hj; subst hj; exact .d (.int _ _)
        | 2, hj => simp at hj; subst hj; exact .d (.int _ _)
    · exact Eff.bad
  · exact Eff.bad
end
end Nv
