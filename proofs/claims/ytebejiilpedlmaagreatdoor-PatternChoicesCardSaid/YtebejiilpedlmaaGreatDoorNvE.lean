/- Slicing, and the operations of the abstract layer that make memory: soundness. -/
import Derived.Test.YtebejiilpedlmaaGreatDoorNvD
set_option linter.unusedVariables false
set_option linter.unusedSimpArgs false
namespace Nv
open Go

/-- A bound of a slice expression. -/
def bnd (x : Option AV) (dflt : Int) : Option Int :=
  match x with
  | none => some dflt
  | some (.d (.int _ n)) => some n
  | _ => none
@[go_sem] theorem bnd_none (d : Int) : bnd none d = some d := nrfl rfl
@[go_sem] theorem bnd_some (k : IntKind) (n d : Int) : bnd (some (.d (.int k n))) d = some n := nrfl rfl

section
variable {P : Program} {ρ : RHO} {σ : ST} {I : Nat → Prop} {w : World}

theorem run_bounds (isSlice : Bool) (len cap : Nat) {lo hi : Option AV} {vlo vhi : Option Value} {l h : Int}
    (hlo : bnd lo 0 = some l) (hhi : bnd hi len = some h)
    (rlo : ∀ a, lo = some a → ∃ v, vlo = some v ∧ V ρ σ I w a v) (rlo0 : lo = none → vlo = none)
    (rhi : ∀ a, hi = some a → ∃ v, vhi = some v ∧ V ρ σ I w a v) (rhi0 : hi = none → vhi = none)
    (h1 : 0 ≤ l ∧ l ≤ h ∧ h ≤ len) (hc : len ≤ cap) :
    (Instr.sliceBounds isSlice len cap vlo vhi none).run P w = .ok (l.toNat, h.toNat, cap) w := by
  have elo : (vlo = none ∧ l = 0) ∨ ∃ k, vlo = some (.int k l) := by
    cases lo with
    | none => simp only [bnd, Option.some.injEq] at hlo; exact .inl ⟨rlo0 rfl, hlo.symm⟩
    | some a =>
      obtain ⟨v, e, hv⟩ := rlo a rfl
      unfold bnd at hlo
      split at hlo <;> try (cases hlo; done)
      · rename_i h; cases h
      · rename_i k n h; cases h; simp only [Option.some.injEq] at hlo; subst hlo; exact .inr ⟨k, by rw [e, hv.d_inv.int_inv]⟩
  have ehi : (vhi = none ∧ h = len) ∨ ∃ k, vhi = some (.int k h) := by
    cases hi with
    | none => simp only [bnd, Option.some.injEq] at hhi; exact .inl ⟨rhi0 rfl, hhi.symm⟩
    | some a =>
      obtain ⟨v, e, hv⟩ := rhi a rfl
      unfold bnd at hhi
      split at hhi <;> try (cases hhi; done)
      · rename_i h; cases h
      · rename_i k n h; cases h; simp only [Option.some.injEq] at hhi; subst hhi; exact .inr ⟨k, by rw [e, hv.d_inv.int_inv]⟩
  have c1 : 0 ≤ h ∧ h ≤ (cap : Int) := by omega
  have c2 : 0 ≤ l ∧ l ≤ (h.toNat : Int) := by omega
  have c3 : 0 ≤ l ∧ l ≤ (len : Int) := by omega
  rcases elo with ⟨rfl, rfl⟩ | ⟨k, rfl⟩ <;> rcases ehi with ⟨rfl, rfl⟩ | ⟨k', rfl⟩ <;>
    simp only [Instr.sliceBounds, Instr.sliceBound, asIntOf, c1, c2, c3, Sem.run_bind, Sem.run_pure, Result.andThen_ok, Option.isSome_none, Sem.run_ite, and_self, if_true, Int.toNat_zero, Int.toNat_natCast]

def rSlice (P : Program) (t : Nat) (x : AV) (lo hi : Option AV) (σ : ST) : Res :=
  match P.underlying t with
  | some .string => match x with
    | .d (.str s) => match bnd lo 0, bnd hi (s.length : Nat) with
      | some l, some h => .need (0 ≤ l ∧ l ≤ h ∧ h ≤ s.length) (.ok (.d (.str ((s.take h.toNat).drop l.toNat))) σ)
      | _, _ => .bad
    | _ => .bad
  | some (.slice el) => match x with
    | .d (.list e xs) => match bnd lo 0, bnd hi (xs.length : Nat) with
      | some l, some h => .need (e = P.cellsOf el ∧ 0 < e) (.need (0 ≤ l ∧ l ≤ h ∧ h ≤ xs.length) (.ok (.d (.list e ((xs.take h.toNat).drop l.toNat))) σ))
      | _, _ => .bad
    | .d .nilslice => match bnd lo 0, bnd hi 0 with
      | some l, some h => .need (0 < P.cellsOf el) (.need (l = 0 ∧ h = 0) (.ok (.d .nilslice) σ))
      | _, _ => .bad
    | .own b g off n => match stGet σ b with
      | .arr g' e xs => match bnd lo 0, bnd hi (n : Nat) with
        | some l, some h => .need (g = g' ∧ e.n = P.cellsOf el ∧ 0 < e.n) (.need (0 ≤ l ∧ l ≤ h ∧ h ≤ n) (.ok (.own b g (off + l.toNat) (h.toNat - l.toNat)) σ))
        | _, _ => .bad
      | _ => .bad
    | _ => .bad
  | _ => .bad
theorem rSlice_str {t : Nat} (h : P.underlying t = some .string) (s : List UInt8) (lo hi : Option AV) (σ : ST) : rSlice P t (.d (.str s)) lo hi σ = match bnd lo 0, bnd hi (s.length : Nat) with
      | some l, some h => .need (0 ≤ l ∧ l ≤ h ∧ h ≤ s.length) (.ok (.d (.str ((s.take h.toNat).drop l.toNat))) σ)
      | _, _ => .bad := by unfold rSlice; rw [h]
theorem rSlice_list {t el : Nat} (h : P.underlying t = some (.slice el)) (e : Nat) (xs : List DV) (lo hi : Option AV) (σ : ST) : rSlice P t (.d (.list e xs)) lo hi σ = match bnd lo 0, bnd hi (xs.length : Nat) with
      | some l, some h => .need (e = P.cellsOf el ∧ 0 < e) (.need (0 ≤ l ∧ l ≤ h ∧ h ≤ xs.length) (.ok (.d (.list e ((xs.take h.toNat).drop l.toNat))) σ))
      | _, _ => .bad := by unfold rSlice; rw [h]
theorem rSlice_nil {t el : Nat} (h : P.underlying t = some (.slice el)) (lo hi : Option AV) (σ : ST) : rSlice P t (.d .nilslice) lo hi σ = match bnd lo 0, bnd hi 0 with
      | some l, some h => .need (0 < P.cellsOf el) (.need (l = 0 ∧ h = 0) (.ok (.d .nilslice) σ))
      | _, _ => .bad := by unfold rSlice; rw [h]
theorem rSlice_own {t el : Nat} (h : P.underlying t = some (.slice el)) (b g off n : Nat) (lo hi : Option AV) (σ : ST) : rSlice P t (.own b g off n) lo hi σ = match stGet σ b with
      | .arr g' e xs => match bnd lo 0, bnd hi (n : Nat) with
        | some l, some h => .need (g = g' ∧ e.n = P.cellsOf el ∧ 0 < e.n) (.need (0 ≤ l ∧ l ≤ h ∧ h ≤ n) (.ok (.own b g (off + l.toNat) (h.toNat - l.toNat)) σ))
        | _, _ => .bad
      | _ => .bad := by unfold rSlice; rw [h]

theorem run_slice_slice {t el : Nat} (ht : P.underlying t = some (.slice el)) (hz : 0 < P.cellsOf el) {a : Option Addr} {len cap : Nat} {vlo vhi : Option Value} {l h : Nat}
    (hb : (Instr.sliceBounds true len cap vlo vhi none).run P w = .ok (l, h, cap) w) :
    (Instr.sliceAt t (.slice a len cap) vlo vhi none).run P w = .ok (.slice (if cap = l then a else a.map (·.add (l * P.cellsOf el))) (h - l) (cap - l)) w := by
  simp only [Instr.sliceAt, Instr.slice, Sem.run_bind, run_underlying ht, Result.andThen_ok, hb, run_sizeOf_pos hz, Sem.run_pure]

theorem rSlice_sound (hrs : RS P ρ I w σ) (t : Nat) (x : AV) (vx : Value) (lo hi : Option AV) (vlo vhi : Option Value) (hx : V ρ σ I w x vx)
    (rlo : ∀ a, lo = some a → ∃ v, vlo = some v ∧ V ρ σ I w a v) (rlo0 : lo = none → vlo = none)
    (rhi : ∀ a, hi = some a → ∃ v, vhi = some v ∧ V ρ σ I w a v) (rhi0 : hi = none → vhi = none) :
    Pev P ρ σ I w (Instr.sliceAt t vx vlo vhi none) (rSlice P t x lo hi σ) := by
  unfold rSlice
  split
  · rename_i ht
    split
    · rename_i s
      split
      · rename_i l h hl hh
        refine .need fun hb => ?_
        rw [hx.d_inv.str_inv]
        have hr := run_bounds (P := P) false s.length s.length hl hh rlo rlo0 rhi rhi0 hb (Nat.le_refl _)
        refine .ok (v := .string ⟨((s.take h.toNat).drop l.toNat).toArray⟩) ?_ (.d (.str _))
        have hsz : (⟨s.toArray⟩ : ByteArray).size = s.length := rfl
        simp only [Instr.sliceAt, Instr.slice, Sem.run_bind, run_underlying ht, Result.andThen_ok, Option.isSome_none, Bool.false_eq_true, if_false, hsz, hr, Sem.run_pure]
        congr 2
        apply ByteArray.ext
        rw [ByteArray.data_extract]
        simp [List.extract_eq_drop_take']
      · exact .bad
    · exact .bad
  · rename_i el ht
    split
    · rename_i e xs
      split
      · rename_i l h hl hh
        refine .need fun ⟨he, hz⟩ => .need fun hb => ?_
        subst he
        cases hx.d_inv with
        | listNil =>
          have hr := run_bounds (P := P) true 0 0 hl (by simpa using hh) rlo rlo0 rhi rhi0 (by simpa using hb) (Nat.le_refl _)
          simp at hb
          have e1 : l = 0 := by omega
          have e2 : h = 0 := by omega
          subst e1 e2
          refine .ok (run_slice_slice ht hz hr) ?_
          simpa using V.d (VD.listNil _ _)
        | list us q1 q2 q0 q3 q4 =>
          rename_i b off m cap
          have hr := run_bounds (P := P) true m cap hl (by rw [q1]; exact hh) rlo rlo0 rhi rhi0 (by rw [q1]; exact hb) q2
          refine .ok (run_slice_slice ht hz hr) (.d ?_)
          have hlen : ((xs.take h.toNat).drop l.toNat).length = h.toNat - l.toNat := by simp; omega
          have hflat : flat ((xs.take h.toNat).drop l.toNat) = ((flat xs).take (h.toNat * P.cellsOf el)).drop (l.toNat * P.cellsOf el) := by
            rw [flat_drop (fun x hx => q0 x (List.mem_of_mem_take hx)), flat_take q0]
          have hmem : ∀ x, x ∈ (xs.take h.toNat).drop l.toNat → Uni (P.cellsOf el) x := fun x hx => q0 x (List.mem_of_mem_take (List.mem_of_mem_drop hx))
          have hget : ∀ j c, (flat ((xs.take h.toNat).drop l.toNat))[j]? = some c → (flat xs)[l.toNat * P.cellsOf el + j]? = some c := by
            intro j c hj
            rw [hflat, List.getElem?_drop, List.getElem?_take] at hj
            split at hj
            · exact hj
            · cases hj
          split
          · rename_i hcl
            have : (xs.take h.toNat).drop l.toNat = [] := by apply List.length_eq_zero_iff.1; omega
            rw [this]
            exact .list (fun _ => undef) (by simp; omega) (by omega) (by simp) (by simp [flat]) (by simp [flat])
          · simp only [Option.map_some, Addr.add_lit]
            refine .list (fun j => us (l.toNat * P.cellsOf el + j)) hlen.symm (by omega) hmem (fun j c hj => ?_) (fun j c hj => q4 _ _ (hget j c hj))
            have := q3 _ _ (hget j c hj)
            rwa [← Nat.add_assoc] at this
      · exact .bad
    · split
      · rename_i l h hl hh
        refine .need fun hz => .need fun ⟨e1, e2⟩ => ?_
        subst e1 e2
        cases hx.d_inv
        have hr := run_bounds (P := P) true 0 0 hl (by simpa using hh) rlo rlo0 rhi rhi0 (by simp) (Nat.le_refl _)
        exact .ok (run_slice_slice ht hz hr) (by simpa using V.d VD.nilslice)
      · exact .bad
    · rename_i b g off n
      split
      · rename_i g' e xs hst
        have hs := stGet_some hst (by simp)
        split
        · rename_i l h hl hh
          refine .need fun ⟨hg, he, hz⟩ => .need fun hb => ?_
          obtain ⟨en, te⟩ := e
          dsimp only at he hz
          subst hg he
          cases hx with
          | ownOld k1 k2 => rw [hs] at k1; cases k1; exact absurd (k2 _ _ _ rfl) (by omega)
          | ownNil k1 k2 =>
            rw [hs] at k1; cases k1
            have hr := run_bounds (P := P) true 0 0 hl hh rlo rlo0 rhi rhi0 hb (Nat.le_refl _)
            have e1 : l = 0 := by omega
            have e2 : h = 0 := by omega
            subst e1 e2
            exact .ok (run_slice_slice ht hz hr) (by simpa using V.ownNil (off := off) hs k2)
          | own k1 k2 k3 k4 =>
            rw [hs] at k1; cases k1
            rename_i B cap
            have hr := run_bounds (P := P) true n cap hl hh rlo rlo0 rhi rhi0 hb k3
            refine .ok (run_slice_slice ht hz hr) ?_
            split
            · rename_i hcl
              rw [show h.toNat - l.toNat = 0 by omega, show cap - l.toNat = 0 by omega]
              obtain ⟨us, q1, _⟩ := hrs.arr hs k2
              exact .ownNil hs (fun a ha => by cases ha; exact ⟨rfl, (Array.getElem?_eq_some_iff.1 q1).1⟩)
            · simp only [Option.map_some, Addr.add_lit]
              have := V.own (ρ := ρ) (I := I) (w := w) (off := off + l.toNat) (n := h.toNat - l.toNat) (cap := cap - l.toNat) hs k2 (by omega) (by omega)
              rwa [Nat.add_mul, ← Nat.add_assoc] at this
        · exact .bad
      · exact .bad
    · exact .bad
  · exact .bad
end
end Nv
