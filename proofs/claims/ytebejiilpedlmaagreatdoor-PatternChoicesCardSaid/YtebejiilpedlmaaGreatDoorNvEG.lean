/- Part of a proof about the functions of this seat. -/
import Derived.Test.YtebejiilpedlmaaGreatDoorNvCD
/- Slicing, and the operations of the abstract layer that make memory: soundness. -/

set_option linter.unusedVariables false
set_option linter.unusedSimpArgs false
namespace Nv
open Go

/-- A bound of a slice expression. -/
def bnd (x : Option AV) (dflt : Int) : Option Int :=
  match x with
  | none => some dflt
  | some (.d (.int _ n)) => some n
  | _ => none
@[go_sem] theorem bnd_none (d : Int) : bnd none d = some d := nrfl rfl
@[go_sem] theorem bnd_some (k : IntKind) (n d : Int) : bnd (some (.d (.int k n))) d = some n := nrfl rfl

section
variable {P : Program} {ρ : RHO} {σ : ST} {I : Nat → Prop} {w : World}

theorem run_bounds (isSlice : Bool) (len cap : Nat) {lo hi : Option AV} {vlo vhi : Option Value} {l h : Int}
    (hlo : bnd lo 0 = some l) (hhi : bnd hi len = some h)
    (rlo : ∀ a, lo = some a → ∃ v, vlo = some v ∧ V ρ σ I w a v) (rlo0 : lo = none → vlo = none)
    (rhi : ∀ a, hi = some a → ∃ v, vhi = some v ∧ V ρ σ I w a v) (rhi0 : hi = none → vhi = none)
    (h1 : 0 ≤ l ∧ l ≤ h ∧ h ≤ len) (hc : len ≤ cap) :
    (Instr.sliceBounds isSlice len cap vlo vhi none).run P w = .ok (l.toNat, h.toNat, cap) w := by
  have elo : (vlo = none ∧ l = 0) ∨ ∃ k, vlo = some (.int k l) := by
    cases lo with
    | none => simp only [bnd, Option.some.injEq] at hlo; exact .inl ⟨rlo0 rfl, hlo.symm⟩
    | some a =>
      obtain ⟨v, e, hv⟩ := rlo a rfl
      unfold bnd at hlo
      split at hlo <;> try (cases hlo; done)
      · rename_i h; cases h
      · rename_i k n h; cases h; simp only [Option.some.injEq] at hlo; subst hlo; exact .inr ⟨k, by rw [e, hv.d_inv.int_inv]⟩
  have ehi : (vhi = none ∧ h = len) ∨ ∃ k, vhi = some (.int k h) := by
    cases hi with
    | none => simp only [bnd, Option.some.injEq] at hhi; exact .inl ⟨rhi0 rfl, hhi.symm⟩
    | some a =>
      obtain ⟨v, e, hv⟩ := rhi a rfl
      unfold bnd at hhi
      split at hhi <;> try (cases hhi; done)
      · rename_i h; cases h
      · rename_i k n h; cases h; simp only [Option.some.injEq] at hhi; subst hhi; exact .inr ⟨k, by rw [e, hv.d_inv.int_inv]⟩
  have c1 : 0 ≤ h ∧ h ≤ (cap : Int) := by omega
  have c2 : 0 ≤ l ∧ l ≤ (h.toNat : Int) := by omega
  have c3 : 0 ≤ l ∧ l ≤ (len : Int) := by omega
  rcases elo with ⟨rfl, rfl⟩ | ⟨k, rfl⟩ <;> rcases ehi with ⟨rfl, rfl⟩ | ⟨k', rfl⟩ <;>
    simp only [Instr.sliceBounds, Instr.sliceBound, asIntOf, c1, c2, c3, Sem.run_bind, Sem.run_pure, Result.andThen_ok, Option.isSome_none, Sem.run_ite, and_self, if_true, Int.toNat_zero, Int.toNat_natCast]

def rSlice (P : Program) (t : Nat) (x : AV) (lo hi : Option AV) (σ : ST) : Res :=
  match P.underlying t with
  | some .string => match x with
    | .d (.str s) => match bnd lo 0, bnd hi (s.length : Nat) with
      | some l, some h => .need (0 ≤ l ∧ l ≤ h ∧ h ≤ s.length) (.ok (.d (.str ((s.take h.toNat).drop l.toNat))) σ)
      | _, _ => .bad
    | _ => .bad
  | some (.slice el) => match x with
    | .d (.list e xs) => match bnd lo 0, bnd hi (xs.length : Nat) with
      | some l, some h => .need (e = P.cellsOf el ∧ 0 < e) (.need (0 ≤ l ∧ l ≤ h ∧ h ≤ xs.length) (.ok (.d (.list e ((xs.take h.toNat).drop l.toNat))) σ))
      | _, _ => .bad
    | .d .nilslice => match bnd lo 0, bnd hi 0 with
      | some l, some h => .need (0 < P.cellsOf el) (.need (l = 0 ∧ h = 0) (.ok (.d .nilslice) σ))
      | _, _ => .bad
    | .own b g off n => match stGet σ b with
      | .arr g' e xs => match bnd lo 0, bnd hi (n : Nat) with
        | some l, some h => .need (g = g' ∧ e.n = P.cellsOf el ∧ 0 < e.n) (.need (0 ≤ l ∧ l ≤ h ∧ h ≤ n) (.ok (.own b g (off + l.toNat) (h.toNat - l.toNat)) σ))
        | _, _ => .bad
      | _ => .bad
    | _ => .bad
  | _ => .bad
theorem rSlice_str {t : Nat} (h : P.underlying t = some .string) (s : List UInt8) (lo hi : Option AV) (σ : ST) : rSlice P t (.d (.str s)) lo hi σ = match bnd lo 0, bnd hi (s.length : Nat) with
      | some l, some h => .need (0 ≤ l ∧ l ≤ h ∧ h ≤ s.length) (.ok (.d (.str ((s.take h.toNat).drop l.toNat))) σ)
      | _, _ => .bad := by unfold rSlice; rw [h]
theorem rSlice_list {t el : Nat} (h : P.underlying t = some (.slice el)) (e : Nat) (xs : List DV) (lo hi : Option AV) (σ : ST) : rSlice P t (.d (.list e xs)) lo hi σ = match bnd lo 0, bnd hi (xs.length : Nat) with
      | some l, some h => .need (e = P.cellsOf el ∧ 0 < e) (.need (0 ≤ l ∧ l ≤ h ∧ h ≤ xs.length) (.ok (.d (.list e ((xs.take h.toNat).drop l.toNat))) σ))
      | _, _ => .bad := by unfold rSlice; rw [h]
theorem rSlice_nil {t el : Nat} (h : P.underlying t = some (.slice el)) (lo hi : Option AV) (σ : ST) : rSlice P t (.d .nilslice) lo hi σ = match bnd lo 0, bnd hi 0 with
      | some l, some h => .need (0 < P.cellsOf el) (.need (l = 0 ∧ h = 0) (.ok (.d .nilslice) σ))
      | _, _ => .bad := by unfold rSlice; rw [h]
theorem rSlice_own {t el : Nat} (h : P.underlying t = some (.slice el)) (b g off n : Nat) (lo hi : Option AV) (σ : ST) : rSlice P t (.own b g off n) lo hi σ = match stGet σ b with
      | .arr g' e xs => match bnd lo 0, bnd hi (n : Nat) with
        | some l, some h => .need (g = g' ∧ e.n = P.cellsOf el ∧ 0 < e.n) (.need (0 ≤ l ∧ l ≤ h ∧ h ≤ n) (.ok (.own b g (off + l.toNat) (h.toNat - l.toNat)) σ))
        | _, _ => .bad
      | _ => .bad := by unfold rSlice; rw [h]

theorem run_slice_slice {t el : Nat} (ht : P.underlying t = some (.slice el)) (hz : 0 < P.cellsOf el) {a : Option Addr} {len cap : Nat} {vlo vhi : Option Value} {l h : Nat}
    (hb : (Instr.sliceBounds true len cap vlo vhi none).run P w = .ok (l, h, cap) w) :
    (Instr.sliceAt t (.slice a len cap) vlo vhi none).run P w = .ok (.slice (if cap = l then a else a.map (·.add (l * P.cellsOf el))) (h - l) (cap - l)) w := by
  simp only [Instr.sliceAt, Instr.slice, Sem.run_bind, run_underlying ht, Result.andThen_ok, hb, run_sizeOf_pos hz, Sem.run_pure]

theorem rSlice_sound (hrs : RS P ρ I w σ) (t : Nat) (x : AV) (vx : Value) (lo hi : Option AV) (vlo vhi : Option Value) (hx : V ρ σ I w x vx)
    (rlo : ∀ a, lo = some a → ∃ v, vlo = some v ∧ V ρ σ I w a v) (rlo0 : lo = none → vlo = none)
    (rhi : ∀ a, hi = some a → ∃ v, vhi = some v ∧ V ρ σ I w a v) (rhi0 : hi = none → vhi = none) :
    Pev P ρ σ I w (Instr.sliceAt t vx vlo vhi none) (rSlice P t x lo hi σ) := by
  unfold rSlice
  split
  · rename_i ht
    split
    · rename_i s
      split
      · rename_i l h hl hh
        refine .need fun hb => ?_
        rw [hx.d_inv.str_inv]
        have hr := run_bounds (P := P) false s.length s.length hl hh rlo rlo0 rhi rhi0 hb (Nat.le_refl _)
        refine .ok (v := .string ⟨((s.take h.toNat).drop l.toNat).toArray⟩) ?_ (.d (.str _))
        have hsz : (⟨s.toArray⟩ : ByteArray).size = s.length := rfl
        simp only [Instr.sliceAt, Instr.slice, Sem.run_bind, run_underlying ht, Result.andThen_ok, Option.isSome_none, Bool.false_eq_true, if_false, hsz, hr, Sem.run_pure]
        congr 2
        apply ByteArray.ext
        rw [ByteArray.data_extract]
        simp [List.extract_eq_drop_take']
      · exact .bad
    · exact .bad
  · rename_i el ht
    split
    · rename_i e xs
      split
      · rename_i l h hl hh
        refine .need fun ⟨he, hz⟩ => .need fun hb => ?_
        subst he
        cases hx.d_inv with
        | listNil =>
          have hr := run_bounds (P := P) true 0 0 hl (by simpa using hh) rlo rlo0 rhi rhi0 (by simpa using hb) (Nat.le_refl _)
          simp at hb
          have e1 : l = 0 := by omega
          have e2 : h = 0 := by omega
          subst e1 e2
          refine .ok (run_slice_slice ht hz hr) ?_
          simpa using V.d (VD.listNil _ _)
        | list us q1 q2 q0 q3 q4 =>
          rename_i b off m cap
          have hr := run_bounds (P := P) true m cap hl (by rw [q1]; exact hh) rlo rlo0 rhi rhi0 (by rw [q1]; exact hb) q2
          refine .ok (run_slice_slice ht hz hr) (.d ?_)
          have hlen : ((xs.take h.toNat).drop l.toNat).length = h.toNat - l.toNat := by simp; omega
          have hflat : flat ((xs.take h.toNat).drop l.toNat) = ((flat xs).take (h.toNat * P.cellsOf el)).drop (l.toNat * P.cellsOf el) := by
            rw [flat_drop (fun x hx => q0 x (List.mem_of_mem_take hx)), flat_take q0]
          have hmem : ∀ x, x ∈ (xs.take h.toNat).drop l.toNat → Uni (P.cellsOf el) x := fun x hx => q0 x (List.mem_of_mem_take (List.mem_of_mem_drop hx))
          have hget : ∀ j c, (flat ((xs.take h.toNat).drop l.toNat))[j]? = some c → (flat xs)[l.toNat * P.cellsOf el + j]? = some c := by
            intro j c hj
            rw [hflat, List.getElem?_drop, List.getElem?_take] at hj
            split at hj
            · exact hj
            · cases hj
          split
          · rename_i hcl
            have : (xs.take h.toNat).drop l.toNat = [] := by apply List.length_eq_zero_iff.1; omega
            rw [this]
            exact .list (fun _ => undef) (by simp; omega) (by omega) (by simp) (by simp [flat]) (by simp [flat])
          · simp only [Option.map_some, Addr.add_lit]
            refine .list (fun j => us (l.toNat * P.cellsOf el + j)) hlen.symm (by omega) hmem (fun j c hj => ?_) (fun j c hj => q4 _ _ (hget j c hj))
            have := q3 _ _ (hget j c hj)
            rwa [← Nat.add_assoc] at this
      · exact .bad
    · split
      · rename_i l h hl hh
        refine .need fun hz => .need fun ⟨e1, e2⟩ => ?_
        subst e1 e2
        cases hx.d_inv
        have hr := run_bounds (P := P) true 0 0 hl (by simpa using hh) rlo rlo0 rhi rhi0 (by simp) (Nat.le_refl _)
        exact .ok (run_slice_slice ht hz hr) (by simpa using V.d VD.nilslice)
      · exact .bad
    · rename_i b g off n
      split
      · rename_i g' e xs hst
        have hs := stGet_some hst (by simp)
        split
        · rename_i l h hl hh
          refine .need fun ⟨hg, he, hz⟩ => .need fun hb => ?_
          obtain ⟨en, te⟩ := e
          dsimp only at he hz
          subst hg he
          cases hx with
          | ownOld k1 k2 => rw [hs] at k1; cases k1; exact absurd (k2 _ _ _ rfl) (by omega)
          | ownNil k1 k2 =>
            rw [hs] at k1; cases k1
            have hr := run_bounds (P := P) true 0 0 hl hh rlo rlo0 rhi rhi0 hb (Nat.le_refl _)
            have e1 : l = 0 := by omega
            have e2 : h = 0 := by omega
            subst e1 e2
            exact .ok (run_slice_slice ht hz hr) (by simpa using V.ownNil (off := off) hs k2)
          | own k1 k2 k3 k4 =>
            rw [hs] at k1; cases k1
            rename_i B cap
            have hr := run_bounds (P := P) true n cap hl hh rlo rlo0 rhi rhi0 hb k3
            refine .ok (run_slice_slice ht hz hr) ?_
            split
            · rename_i hcl
              rw [show h.toNat - l.toNat = 0 by omega, show cap - l.toNat = 0 by omega]
              obtain ⟨us, q1, _⟩ := hrs.arr hs k2
              exact .ownNil hs (fun a ha => by cases ha; exact ⟨rfl, (Array.getElem?_eq_some_iff.1 q1).1⟩)
            · simp only [Option.map_some, Addr.add_lit]
              have := V.own (ρ := ρ) (I := I) (w := w) (off := off + l.toNat) (n := h.toNat - l.toNat) (cap := cap - l.toNat) hs k2 (by omega) (by omega)
              rwa [Nat.add_mul, ← Nat.add_assoc] at this
        · exact .bad
      · exact .bad
    · exact .bad
  · exact .bad
end
end Nv
/- How the store grows and changes; the operations of the abstract layer that make or write memory: soundness. -/

set_option linter.unusedVariables false
set_option linter.unusedSimpArgs false
namespace Nv
open Go

def updR (ρ : RHO) (b : Nat) (p : Place) : RHO := fun i => if i = b then p else ρ i
@[simp] theorem updR_same (ρ : RHO) (b : Nat) (p : Place) : updR ρ b p b = p := by simp [updR]
theorem updR_ne (ρ : RHO) {b i : Nat} (p : Place) (h : i ≠ b) : updR ρ b p i = ρ i := by simp [updR, h]

section
variable {P : Program} {ρ ρ' : RHO} {σ σ' : ST} {I I' : Nat → Prop} {w w' : World}

theorem RB.step (hr : RS P ρ I w σ) (hs : Step ρ I w σ ρ' I' w' σ') {p : Place} {blk : Blk} (hp : ∀ B, p.blk = some B → w'.heap[B]? = w.heap[B]?) (h : RB ρ σ I w p blk) : RB ρ' σ' I' w' p blk := by
  cases h with
  | box h1 h2 h3 h4 => exact .box h1 (by rw [hp _ h1]; exact h2) h3 (fun j c hj => hs.v hr (h4 j c hj))
  | arrNil h1 h2 => exact .arrNil h1 h2
  | map h1 h2 h3 h4 => exact .map h1 (by rw [hp _ h1]; exact h2) h3 (fun j y hj => let ⟨e, k1, k2, k3⟩ := h4 j y hj; ⟨e, k1, hs.vd hr k2, hs.vd hr k3⟩)
  | iter h1 h2 => exact .iter h1 (by rw [hp _ h1]; exact h2)
  | arr h1 h2 h3 h4 h5 h6 => exact .arr h1 (by rw [hp _ h1]; exact h2) h3 h4 h5 (fun j c hj => hs.vd hr (h6 j c hj))
  | dead => exact .dead

theorem lives_heap (hr : RS P ρ I w σ) {B : Nat} (h : Lives ρ σ B) : B < w.heap.size := by
  obtain ⟨i, blk, h1, h2, h3⟩ := h
  have key : ∀ {o}, w.heap[B]? = some o → B < w.heap.size := fun ho => by
    rcases Nat.lt_or_ge B w.heap.size with h | h
    · exact h
    · simp [Array.getElem?_eq_none h] at ho
  have hb := hr.blk i blk h1
  cases hb with
  | box k1 k2 => rw [h3] at k1; cases k1; exact key k2
  | arrNil k1 => rw [h3] at k1; cases k1
  | map k1 k2 => rw [h3] at k1; cases k1; exact key k2
  | iter k1 k2 => rw [h3] at k1; cases k1; exact key k2
  | arr k1 k2 => rw [h3] at k1; cases k1; exact key k2
  | dead => exact h2.elim

/-- A new block, in the world or in the store alone. -/
theorem step_push (hr : RS P ρ I w σ) (blk : Blk) (p : Place) (hsz : Ext w w') (hold : ∀ b, b < w.heap.size → w'.heap[b]? = w.heap[b]?)
    (hp : ∀ B, p.blk = some B → w.heap.size ≤ B) : Step ρ I w σ (updR ρ σ.length p) I w' (σ ++ [blk]) where
  keep b hb _ := hold b hb
  mono _ h := h
  inew _ h := .inl h
  fpn B h := by
    obtain ⟨i, bl, h1, h2, h3⟩ := h
    rcases Nat.lt_or_ge i σ.length with hi | hi
    · rw [List.getElem?_append_left hi] at h1
      rw [updR_ne _ _ (by omega)] at h3
      exact .inl ⟨i, bl, h1, h2, h3⟩
    · rw [List.getElem?_append_right hi] at h1
      have hi0 : i - σ.length = 0 := by
        rcases Nat.eq_zero_or_pos (i - σ.length) with h | h
        · exact h
        · rw [List.getElem?_eq_none (show [blk].length ≤ i - σ.length from h)] at h1; cases h1
      obtain rfl : i = σ.length := by omega
      rw [updR_same] at h3
      exact .inr (hp B h3)
  hsz := hsz.size
  env := hsz.env
  compat b bl h := by
    have hb : b < σ.length := by rcases Nat.lt_or_ge b σ.length with h' | h'; exact h'; simp [List.getElem?_eq_none h'] at h
    exact ⟨bl, by rw [List.getElem?_append_left hb]; exact h, by rw [updR_ne _ _ (by omega)]; exact Compat.refl _ _⟩

theorem rs_push (hr : RS P ρ I w σ) (blk : Blk) (p : Place) (hsz : Ext w w') (hold : ∀ b, b < w.heap.size → w'.heap[b]? = w.heap[b]?)
    (hp : ∀ B, p.blk = some B → w.heap.size ≤ B) (hb : RB (updR ρ σ.length p) (σ ++ [blk]) I w' p blk) : RS P (updR ρ σ.length p) I w' (σ ++ [blk]) := by
  have hs := step_push (w' := w') hr blk p hsz hold hp
  have split : ∀ i bl, (σ ++ [blk])[i]? = some bl → (i < σ.length ∧ σ[i]? = some bl ∧ updR ρ σ.length p i = ρ i) ∨ (i = σ.length ∧ bl = blk ∧ updR ρ σ.length p i = p) := by
    intro i bl h1
    rcases Nat.lt_or_ge i σ.length with hi | hi
    · rw [List.getElem?_append_left hi] at h1; exact .inl ⟨hi, h1, updR_ne _ _ (by omega)⟩
    · rw [List.getElem?_append_right hi] at h1
      have hi0 : i - σ.length = 0 := by
        rcases Nat.eq_zero_or_pos (i - σ.length) with h | h
        · exact h
        · rw [List.getElem?_eq_none (show [blk].length ≤ i - σ.length from h)] at h1; cases h1
      obtain rfl : i = σ.length := by omega
      simp at h1
      exact .inr ⟨rfl, h1.symm, updR_same _ _ _⟩
  refine ⟨fun i bl h => ?_, fun i j bi bj B hi hj li lj hBi hBj => ?_, fun B hl hI => ?_, fun B hI => Nat.lt_of_lt_of_le (hr.bound B hI) hsz.size, hs.tabs hr⟩
  · rcases split i bl h with ⟨hi, h1, h2⟩ | ⟨_, rfl, h2⟩
    · rw [h2]
      have hrb := hr.blk i bl h1
      by_cases hl : bl.live
      · exact RB.step hr hs (fun B hB => hold B (lives_heap hr ⟨i, bl, h1, hl, hB⟩)) hrb
      · cases bl <;> first | exact .dead | exact absurd trivial hl
    · rw [h2]; exact hb
  · rcases split i bi hi with ⟨h1, h2, h3⟩ | ⟨rfl, rfl, h3⟩ <;> rcases split j bj hj with ⟨k1, k2, k3⟩ | ⟨rfl, rfl, k3⟩
    · rw [h3] at hBi; rw [k3] at hBj; exact hr.inj i j bi bj B h2 k2 li lj hBi hBj
    · rw [h3] at hBi; rw [k3] at hBj
      have := hp B hBj
      have := lives_heap hr ⟨i, bi, h2, li, hBi⟩
      omega
    · rw [h3] at hBi; rw [k3] at hBj
      have := hp B hBi
      have := lives_heap hr ⟨j, bj, k2, lj, hBj⟩
      omega
    · rfl
  · rcases hs.fpn B hl with h | h
    · exact hr.sep B h hI
    · have := hr.bound B hI; omega

/-- A block that is written anew. -/
theorem step_updG (hr : RS P ρ I w σ) {b : Nat} {blk blk' : Blk} (hs : σ[b]? = some blk) (hl : blk.live) (p' : Place) (hc : Compat blk (ρ b) blk' p')
    (hsz : Ext w w') (hold : ∀ c, c < w.heap.size → (ρ b).blk ≠ some c → w'.heap[c]? = w.heap[c]?) (hp : ∀ B', p'.blk = some B' → (ρ b).blk = some B' ∨ w.heap.size ≤ B') :
    Step ρ I w σ (updR ρ b p') I w' (σ.set b blk') where
  keep c hc' hn := hold c hc' (fun h => hn ⟨b, blk, hs, hl, h⟩)
  mono _ h := h
  inew _ h := .inl h
  fpn c h := by
    obtain ⟨i, bl, h1, h2, h3⟩ := h
    by_cases hi : i = b
    · subst hi
      rw [updR_same] at h3
      rcases hp c h3 with h | h
      · exact .inl ⟨i, blk, hs, hl, h⟩
      · exact .inr h
    · rw [List.getElem?_set_ne (by omega)] at h1
      rw [updR_ne _ _ hi] at h3
      exact .inl ⟨i, bl, h1, h2, h3⟩
  hsz := hsz.size
  env := hsz.env
  compat i bl h := by
    by_cases hi : i = b
    · subst hi
      rw [hs] at h; cases h
      have hlt : i < σ.length := by rcases Nat.lt_or_ge i σ.length with h' | h'; exact h'; simp [List.getElem?_eq_none h'] at hs
      exact ⟨blk', by simp [hlt], by rw [updR_same]; exact hc⟩
    · exact ⟨bl, by rw [List.getElem?_set_ne (by omega)]; exact h, by rw [updR_ne _ _ hi]; exact Compat.refl _ _⟩

theorem rs_updG (hr : RS P ρ I w σ) {b : Nat} {blk blk' : Blk} (hs : σ[b]? = some blk) (hl : blk.live) (p' : Place) (hc : Compat blk (ρ b) blk' p')
    (hsz : Ext w w') (hold : ∀ c, c < w.heap.size → (ρ b).blk ≠ some c → w'.heap[c]? = w.heap[c]?) (hp : ∀ B', p'.blk = some B' → (ρ b).blk = some B' ∨ w.heap.size ≤ B')
    (hb : RB (updR ρ b p') (σ.set b blk') I w' p' blk') : RS P (updR ρ b p') I w' (σ.set b blk') := by
  have hst := step_updG (w' := w') hr hs hl p' hc hsz hold hp
  have hlt : b < σ.length := by rcases Nat.lt_or_ge b σ.length with h' | h'; exact h'; simp [List.getElem?_eq_none h'] at hs
  have split : ∀ i bl, (σ.set b blk')[i]? = some bl → (i ≠ b ∧ σ[i]? = some bl ∧ updR ρ b p' i = ρ i) ∨ (i = b ∧ bl = blk' ∧ updR ρ b p' i = p') := by
    intro i bl h1
    by_cases hi : i = b
    · subst hi; simp [hlt] at h1; exact .inr ⟨rfl, h1.symm, updR_same _ _ _⟩
    · rw [List.getElem?_set_ne (by omega)] at h1; exact .inl ⟨hi, h1, updR_ne _ _ hi⟩
  have away : ∀ i bl c, i ≠ b → σ[i]? = some bl → bl.live → (ρ i).blk = some c → (ρ b).blk ≠ some c := fun i bl c hi h1 h2 h3 he => hi (hr.inj i b bl blk c h1 hs h2 hl h3 he)
  refine ⟨fun i bl h => ?_, fun i j bi bj c hi hj li lj hBi hBj => ?_, fun c hlv hI => ?_, fun c hI => Nat.lt_of_lt_of_le (hr.bound c hI) hsz.size, hst.tabs hr⟩
  · rcases split i bl h with ⟨hi, h1, h2⟩ | ⟨_, rfl, h2⟩
    · rw [h2]
      have hrb := hr.blk i bl h1
      by_cases hlv : bl.live
      · exact RB.step hr hst (fun c hc => hold c (lives_heap hr ⟨i, bl, h1, hlv, hc⟩) (away i bl c hi h1 hlv hc)) hrb
      · cases bl <;> first | exact .dead | exact absurd trivial hlv
    · rw [h2]; exact hb
  · rcases split i bi hi with ⟨h1, h2, h3⟩ | ⟨rfl, rfl, h3⟩ <;> rcases split j bj hj with ⟨k1, k2, k3⟩ | ⟨rfl, rfl, k3⟩
    · rw [h3] at hBi; rw [k3] at hBj; exact hr.inj i j bi bj c h2 k2 li lj hBi hBj
    · rw [h3] at hBi; rw [k3] at hBj
      have h4 := away i bi c h1 h2 li hBi
      have := lives_heap hr ⟨i, bi, h2, li, hBi⟩
      rcases hp c hBj with h | h
      · exact absurd h h4
      · omega
    · rw [h3] at hBi; rw [k3] at hBj
      have h4 := away j bj c k1 k2 lj hBj
      have := lives_heap hr ⟨j, bj, k2, lj, hBj⟩
      rcases hp c hBi with h | h
      · exact absurd h h4
      · omega
    · rfl
  · rcases hst.fpn c hlv with h | h
    · exact hr.sep c h hI
    · have := hr.bound c hI; omega

theorem step_upd (hr : RS P ρ I w σ) {b B : Nat} {blk blk' : Blk} (hs : σ[b]? = some blk) (hB : (ρ b).blk = some B) (hl : blk.live) (p' : Place) (hc : Compat blk (ρ b) blk' p')
    (hsz : Ext w w') (hold : ∀ c, c < w.heap.size → c ≠ B → w'.heap[c]? = w.heap[c]?) (hp : ∀ B', p'.blk = some B' → B' = B ∨ w.heap.size ≤ B') :
    Step ρ I w σ (updR ρ b p') I w' (σ.set b blk') :=
  step_updG hr hs hl p' hc hsz (fun c h1 h2 => hold c h1 (fun h => h2 (h ▸ hB))) (fun B' h => (hp B' h).imp (fun (e : B' = B) => by rw [e]; exact hB) id)

theorem rs_upd (hr : RS P ρ I w σ) {b B : Nat} {blk blk' : Blk} (hs : σ[b]? = some blk) (hB : (ρ b).blk = some B) (hl : blk.live) (p' : Place) (hc : Compat blk (ρ b) blk' p')
    (hsz : Ext w w') (hold : ∀ c, c < w.heap.size → c ≠ B → w'.heap[c]? = w.heap[c]?) (hp : ∀ B', p'.blk = some B' → B' = B ∨ w.heap.size ≤ B')
    (hb : RB (updR ρ b p') (σ.set b blk') I w' p' blk') : RS P (updR ρ b p') I w' (σ.set b blk') :=
  rs_updG hr hs hl p' hc hsz (fun c h1 h2 => hold c h1 (fun h => h2 (h ▸ hB))) (fun B' h => (hp B' h).imp (fun (e : B' = B) => by rw [e]; exact hB) id) hb

/-- An operation that computes a value and may change the world. -/
def Eff (P : Program) (ρ : RHO) (σ : ST) (I : Nat → Prop) (w : World) (s : Sem Value) (r : Res) : Prop :=
  ∀ R : AV → ST → Prop, r.holds R → ∃ v av w' ρ' I' σ', s.run P w = .ok v w' ∧ Step ρ I w σ ρ' I' w' σ' ∧ RS P ρ' I' w' σ' ∧ V ρ' σ' I' w' av v ∧ R av σ'

theorem Pev.eff (hr : RS P ρ I w σ) {s : Sem Value} {r : Res} (h : Pev P ρ σ I w s r) : Eff P ρ σ I w s r := fun R hR =>
  let ⟨v, av, h1, h2, h3⟩ := h R hR
  ⟨v, av, w, ρ, I, σ, h1, Step.refl _ _ _ _, hr, h2, h3⟩

theorem Eff.bad {s : Sem Value} : Eff P ρ σ I w s .bad := fun _ hr => hr.elim
theorem Eff.need {s : Sem Value} {p : Prop} [Decidable p] {r : Res} (h : p → Eff P ρ σ I w s r) : Eff P ρ σ I w s (.need p r) := fun _ hr => h hr.1 _ hr.2

/-- The single cells of a value. -/
def AV.one : AV → Bool
  | .any | .agg _ | .tuple _ | .d (.agg _) => false
  | _ => true

def cellsV : AV → Option (List AV)
  | .agg cs => if cs.all AV.one then some cs else none
  | .d (.agg cs) => if (cs.map AV.d).all AV.one then some (cs.map .d) else none
  | x => if x.one then some [x] else none

theorem one_cell {a : AV} {v : Value} (h : V ρ σ I w a v) (ho : a.one = true) : v.oneCell' = true ∧ v.cells = #[v] := by
  cases h with
  | d h => cases h <;> first | exact ⟨rfl, rfl⟩ | simp [AV.one] at ho
  | any => simp [AV.one] at ho
  | agg => simp [AV.one] at ho
  | tuple => simp [AV.one] at ho
  | _ => exact ⟨rfl, rfl⟩

theorem cellsV_sound {a : AV} {cs : List AV} {v : Value} (h : V ρ σ I w a v) (hc : cellsV a = some cs) :
    cs.length = v.cells.size ∧ (∀ j c, cs[j]? = some c → V ρ σ I w c (v.cells.getD j undef)) ∧ (∀ j, j < v.cells.size → (v.cells.getD j undef).oneCell' = true) := by
  have key : ∀ (cs : List AV) (vs : Array Value), cs.length = vs.size → (∀ j c, cs[j]? = some c → V ρ σ I w c (vs.getD j undef)) → cs.all AV.one = true → ∀ j, j < vs.size → (vs.getD j undef).oneCell' = true := by
    intro cs vs h1 h2 h3 j hj
    have hlt : j < cs.length := by omega
    exact (one_cell (h2 j _ (List.getElem?_eq_getElem hlt)) (List.all_eq_true.1 h3 _ (List.getElem_mem hlt))).1
  unfold cellsV at hc
  split at hc
  · split at hc <;> try (cases hc; done)
    rename_i hall
    simp only [Option.some.injEq] at hc; subst hc
    cases h with | agg h1 h2 => exact ⟨h1, h2, key _ _ h1 h2 hall⟩
  · split at hc <;> try (cases hc; done)
    rename_i xs hall
    simp only [Option.some.injEq] at hc; subst hc
    cases h.d_inv with | agg h1 h2 =>
    rename_i us
    have h2' : ∀ j c, (xs.map AV.d)[j]? = some c → V ρ σ I w c (us.getD j undef) := fun j c hj => by
      simp only [List.getElem?_map, Option.map_eq_some_iff] at hj
      obtain ⟨x, hx, rfl⟩ := hj
      exact .d (h2 j x hx)
    have h1' : (xs.map AV.d).length = us.size := by simpa using h1
    exact ⟨h1', h2', key _ _ h1' h2' hall⟩
  · split at hc <;> try (cases hc; done)
    rename_i ho
    simp only [Option.some.injEq] at hc; subst hc
    obtain ⟨h1, h2⟩ := one_cell h ho
    rw [h2]
    refine ⟨rfl, fun j c hj => ?_, fun j hj => ?_⟩
    · cases j with
      | zero => simp at hj; subst hj; simpa using h
      | succ j => simp at hj
    · have : j = 0 := by simp at hj; omega
      subst this; simpa using h1

/- box, alloc -/
def rBox (t : Nat) (x : AV) (σ : ST) : Res :=
  match cellsV x with
  | some cs => .ok (.ptr σ.length 0) (σ ++ [.box t cs])
  | none => .bad

theorem run_newVar (t : TypeId) (v : Value) : (newVar t v).run P w = .ok ⟨w.heap.size, 0, none⟩ (World.alloc w (.cells v.cells t)) := by
  simp [newVar, newRow]

theorem push_old (w : World) (o : Obj) (b : Nat) (h : b < w.heap.size) : (World.alloc w o).heap[b]? = w.heap[b]? := by
  simp only [World.alloc, Array.getElem?_push, Nat.ne_of_lt h, if_false]
theorem push_new (w : World) (o : Obj) : (World.alloc w o).heap[w.heap.size]? = some o := by simp only [World.alloc, Array.getElem?_push, if_true]
theorem push_size (w : World) (o : Obj) : (World.alloc w o).heap.size = w.heap.size + 1 := World.size_alloc w o

theorem box_eff (hr : RS P ρ I w σ) {t : TypeId} {x : AV} {v : Value} {s : Sem Value} (h : V ρ σ I w x v)
    (hs : s.run P w = .ok (.pointer (some ⟨w.heap.size, 0, none⟩)) (World.alloc w (.cells v.cells t))) : Eff P ρ σ I w s (rBox t x σ) := by
  unfold rBox
  split
  · rename_i cs hc
    intro R hR
    obtain ⟨h1, h2, _⟩ := cellsV_sound h hc
    let p : Place := ⟨some w.heap.size, 0, 0⟩
    have hp : ∀ B, p.blk = some B → w.heap.size ≤ B := fun B hB => by cases hB; exact Nat.le_refl _
    have hsz : Ext w (World.alloc w (.cells v.cells t)) := Ext.of (by rw [push_size]; omega)
    have hst := step_push hr (.box t cs) p hsz (push_old w _) hp
    refine ⟨_, .ptr σ.length 0, _, _, I, _, hs, hst, rs_push hr (.box t cs) p hsz (push_old w _) hp ?_, ?_, hR⟩
    · exact .box rfl (push_new w _) h1 (fun j c hj => hst.v hr (h2 j c hj))
    · exact .ptr (t := t) (cs := cs) (by simp) (by simp [p])
  · exact Eff.bad

/-- A type's zero value. -/
def zeroA (P : Program) (t : TypeId) : AV :=
  match (P.info? t).bind (·.zero) with
  | some v => ofVal v
  | none => .any

theorem zero_run {t : TypeId} (h : zeroA P t ≠ .any) : ∃ v, (zeroValue t).run P w = .ok v w ∧ V ρ σ I w (zeroA P t) v := by
  unfold zeroA at *
  cases hi : P.info? t with
  | none => simp [hi] at h
  | some i =>
    cases hz : i.zero with
    | none => simp [hi, hz] at h
    | some v => exact ⟨v, by simp [zeroValue, typeInfo, hi, hz], by simp only [Option.bind_some, hz]; exact ofVal_sound v⟩

theorem cellsV_any {cs : List AV} {a : AV} (h : cellsV a = some cs) : a ≠ .any := by
  intro he; subst he; simp [cellsV, AV.one] at h

theorem rAlloc_sound (hr : RS P ρ I w σ) (t : TypeId) : Eff P ρ σ I w (Instr.alloc t true (.tuple #[])) (rBox t (zeroA P t) σ) := by
  by_cases ha : zeroA P t = .any
  · unfold rBox; rw [ha]; exact Eff.bad
  · obtain ⟨v, h1, h2⟩ := zero_run (P := P) (ρ := ρ) (σ := σ) (I := I) (w := w) ha
    exact box_eff (t := t) hr h2 (by simp [Instr.alloc, h1, run_newVar])

theorem rBox_sound (hr : RS P ρ I w σ) (t : TypeId) (x : AV) (v : Value) (h : V ρ σ I w x v) : Eff P ρ σ I w (Instr.box t v) (rBox t x σ) :=
  box_eff (t := t) hr h (by simp [Instr.box, run_newVar])
end
end Nv
/- Stores, building of structs and slices: soundness. -/

set_option linter.unusedVariables false
set_option linter.unusedSimpArgs false
namespace Nv
open Go

/-- A list with some of its places written anew. -/
def splice {α : Type} (cs : List α) (o : Nat) (vs : List α) : List α := cs.take o ++ vs ++ cs.drop (o + vs.length)

theorem splice_len {α : Type} {cs vs : List α} {o : Nat} (h : o + vs.length ≤ cs.length) : (splice cs o vs).length = cs.length := by
  simp [splice]; omega

theorem splice_get {α : Type} {cs vs : List α} {o : Nat} (h : o + vs.length ≤ cs.length) (j : Nat) :
    (splice cs o vs)[j]? = if o ≤ j ∧ j < o + vs.length then vs[j - o]? else cs[j]? := by
  unfold splice
  have h1 : (cs.take o).length = o := by simp; omega
  rw [List.append_assoc]
  rcases Nat.lt_or_ge j o with hj | hj
  · rw [List.getElem?_append_left (by omega), List.getElem?_take, if_pos hj, if_neg (by omega)]
  · rw [List.getElem?_append_right (by omega), h1]
    rcases Nat.lt_or_ge (j - o) vs.length with hv | hv
    · rw [List.getElem?_append_left hv, if_pos (by omega)]
    · rw [List.getElem?_append_right hv, if_neg (by omega), List.getElem?_drop]
      congr 1; omega

def toDs : List AV → Option (List DV)
  | [] => some []
  | .d x :: l => (toDs l).map (x :: ·)
  | _ => none
@[go_sem] theorem toDs_nil : toDs [] = some [] := nrfl rfl
@[go_sem] theorem toDs_cons (x : DV) (l : List AV) : toDs (.d x :: l) = (toDs l).map (x :: ·) := nrfl rfl

theorem toDs_map : ∀ {l : List AV} {xs : List DV}, toDs l = some xs → l = xs.map .d
  | [], xs, h => by simp only [toDs, Option.some.injEq] at h; subst h; rfl
  | .d x :: l, xs, h => by
    simp only [toDs, Option.map_eq_some_iff] at h
    obtain ⟨ys, hy, rfl⟩ := h
    rw [List.map_cons, ← toDs_map hy]
  | .any :: _, _, h | .ptr _ _ :: _, _, h | .own _ _ _ _ :: _, _, h | .eptr _ _ _ _ :: _, _, h | .iptr _ :: _, _, h | .agg _ :: _, _, h | .tuple _ :: _, _, h
  | .func _ _ _ :: _, _, h | .iface _ _ :: _, _, h | .map _ :: _, _, h => by simp [toDs] at h

/-- A value avl data. -/
def toD : AV → Option DV
  | .d (.agg _) => none
  | .d x => some x
  | .agg cs => (toDs cs).bind fun xs => if cs.all AV.one then some (.agg xs) else none
  | _ => none

section
variable {P : Program} {ρ ρ' : RHO} {σ σ' : ST} {I I' : Nat → Prop} {w w' : World}

theorem toD_cells {a : AV} {x : DV} {v : Value} (h : V ρ σ I w a v) (hd : toD a = some x) :
    x.cells.length = v.cells.size ∧ (∀ j c, x.cells[j]? = some c → VD I w c (v.cells.getD j undef)) ∧ (∀ j, j < v.cells.size → (v.cells.getD j undef).oneCell' = true) := by
  have key : ∀ {cs : List AV}, cellsV a = some cs → cs = x.cells.map .d →
      x.cells.length = v.cells.size ∧ (∀ j c, x.cells[j]? = some c → VD I w c (v.cells.getD j undef)) ∧ (∀ j, j < v.cells.size → (v.cells.getD j undef).oneCell' = true) := by
    intro cs hc he
    obtain ⟨h1, h2, h3⟩ := cellsV_sound h hc
    subst he
    refine ⟨by simpa using h1, fun j c hj => (h2 j (.d c) (by rw [List.getElem?_map, hj]; rfl)).d_inv, h3⟩
  unfold toD at hd
  split at hd
  · cases hd
  · rename_i y hne
    simp only [Option.some.injEq] at hd; subst hd
    refine key (cs := [.d y]) ?_ ?_
    · cases y <;> first | rfl | exact absurd rfl (hne _)
    · cases y <;> first | rfl | exact absurd rfl (hne _)
  · rename_i cs
    simp only [Option.bind_eq_some_iff] at hd
    obtain ⟨xs, h1, h2⟩ := hd
    split at h2 <;> try (cases h2; done)
    rename_i hall
    simp only [Option.some.injEq] at h2; subst h2
    exact key (cs := cs) (by simp only [cellsV, hall, if_true]) (toDs_map h1)
  · cases hd

theorem getD_set_arr (us : Array Value) (i j : Nat) (v : Value) (hi : i < us.size) : (us.setIfInBounds i v).getD j undef = if j = i then v else us.getD j undef := by
  simp only [Array.getD_eq_getD_getElem?, Array.getElem?_setIfInBounds]
  by_cases h : i = j
  · subst h; simp [hi]
  · simp [h, Ne.symm h]

/-- Values that are stored, one behind the other, into a block that is not frozen. -/
theorem run_storeCells {B el : Nat} : ∀ (vs : List Value) (o i : Nat) (us : Array Value) (w : World), w.heap[B]? = some (.cells us el (0, 0)) → o + i + vs.length ≤ us.size → (∀ v, v ∈ vs → v.oneCell' = true) →
    ∃ w', (storeCells ⟨B, o, none⟩ vs i).run P w = .ok () w' ∧ (w'.heap.size = w.heap.size ∧ Around w w') ∧ (∀ c, c ≠ B → w'.heap[c]? = w.heap[c]?) ∧
      ∃ us', w'.heap[B]? = some (.cells us' el (0, 0)) ∧ us'.size = us.size ∧ ∀ j, us'.getD j undef = if o + i ≤ j ∧ j < o + i + vs.length then vs.getD (j - (o + i)) undef else us.getD j undef := by
  intro vs
  induction vs with
  | nil =>
    intro o i us w hB hl hone
    exact ⟨w, by simp [storeCells], ⟨rfl, Around.refl w⟩, fun _ _ => rfl, us, hB, rfl, fun j => by rw [if_neg (by simp)]⟩
  | cons v vs ih =>
    intro o i us w hB hl hone
    simp only [List.length_cons] at hl
    have ha : (⟨B, o, none⟩ : Addr).add i = ⟨B, o + i, none⟩ := Addr.add_lit B o i
    have hlt : o + i < us.size := by omega
    have hcell : w.cell? ⟨B, o + i, none⟩ = some (us.getD (o + i) undef) := cell_of_heap hB hlt
    have hfz : w.frozen? ⟨B, o + i, none⟩ = false := by simp [World.frozen?, hB]
    have hB' : (w.setCell ⟨B, o + i, none⟩ v).heap[B]? = some (.cells (us.setIfInBounds (o + i) v) el (0, 0)) := by
      simp [World.setCell, Array.getElem?_modify, hB]
    obtain ⟨w', h1, h2, h3, us', h4, h5, h6⟩ := ih o (i + 1) (us.setIfInBounds (o + i) v) (w.setCell ⟨B, o + i, none⟩ v) hB' (by simp; omega) (fun x hx => hone x (by simp [hx]))
    refine ⟨w', ?_, ⟨by rw [h2.1]; simp [World.setCell], Around.trans (b := w.setCell ⟨B, o + i, none⟩ v) ⟨rfl, rfl, rfl⟩ h2.2⟩, fun c hc => ?_, us', h4, by rw [h5]; simp, fun j => ?_⟩
    · simp only [storeCells, Sem.run_bind, ha, run_store P w _ v _ (hone v (by simp)), hcell, hfz, Bool.false_eq_true, if_false, Result.andThen_ok, h1]
    · rw [h3 c hc]; simp [World.setCell, Array.getElem?_modify, hc.symm]
    · rw [h6 j, getD_set_arr _ _ _ _ hlt]
      by_cases c1 : o + (i + 1) ≤ j ∧ j < o + (i + 1) + vs.length
      · rw [if_pos c1, if_pos (by simp; omega)]
        rw [show j - (o + i) = (j - (o + (i + 1))) + 1 by omega, List.getD_cons_succ]
      · rw [if_neg c1]
        by_cases c2 : j = o + i
        · subst c2; rw [if_pos rfl, if_pos (by simp)]; simp
        · rw [if_neg c2, if_neg (by simp; omega)]

theorem run_storeVar {t B o el : Nat} {v : Value} {us : Array Value} (hz : 0 < P.cellsOf t) (hsz : v.cells.size = P.cellsOf t) (hB : w.heap[B]? = some (.cells us el (0, 0))) (hl : o + v.cells.size ≤ us.size)
    (hone : ∀ j, j < v.cells.size → (v.cells.getD j undef).oneCell' = true) :
    ∃ w', (Instr.storeAt t (.pointer (some ⟨B, o, none⟩)) v).run P w = .ok () w' ∧ (w'.heap.size = w.heap.size ∧ Around w w') ∧ (∀ c, c ≠ B → w'.heap[c]? = w.heap[c]?) ∧
      ∃ us', w'.heap[B]? = some (.cells us' el (0, 0)) ∧ us'.size = us.size ∧ ∀ j, us'.getD j undef = if o ≤ j ∧ j < o + v.cells.size then v.cells.getD (j - o) undef else us.getD j undef := by
  obtain ⟨w', h1, h2, h3, us', h4, h5, h6⟩ := run_storeCells (P := P) (el := el) v.cells.toList o 0 us w hB (by simpa using hl) (fun x hx => by
    obtain ⟨j, hj, he⟩ := List.getElem_of_mem hx
    have := hone j (by simpa using hj)
    rw [Array.getD_eq_getD_getElem?] at this
    simp at hj he
    rw [Array.getElem?_eq_getElem hj] at this
    simpa [he] using this)
  refine ⟨w', ?_, h2, h3, us', h4, h5, fun j => ?_⟩
  · simp [Instr.storeAt, Instr.sureAddr, storeVar, run_sizeOf_pos hz, hsz, h1]
  · rw [h6 j]
    simp [List.getD_eq_getElem?_getD, Array.getD_eq_getD_getElem?]

/- store -/
/-- A datum with some of its cells written anew. -/
def dvSet (x : DV) (o : Nat) (vs : List DV) : DV :=
  match x with
  | .agg cs => .agg (splice cs o vs)
  | _ => vs.getD 0 default

def rStore (P : Program) (t : TypeId) (a x : AV) (σ : ST) : Res :=
  match cellsV x with
  | none => .bad
  | some [] => match a with
    | .ptr b _ => match stGet σ b with
      | .box _ _ => .need ((P.info? t).map (·.size) = some 0) (.ok .any σ)
      | _ => .bad
    | _ => .bad
  | some vs => .need (vs.length = P.cellsOf t ∧ 0 < vs.length) (match a with
    | .ptr b o => match stGet σ b with
      | .box t' cs => .need (o + vs.length ≤ cs.length) (.ok .any (stSet σ b (.box t' (splice cs o vs))))
      | _ => .bad
    | .eptr b g i o => match stGet σ b, toDs vs with
      | .arr g' e xs, some ds => .need (g = g' ∧ i < xs.length ∧ o + vs.length ≤ e) (.ok .any (stSet σ b (.arr g' e (xs.set i (dvSet (xs.getD i default) o ds)))))
      | _, _ => .bad
    | _ => .bad)

theorem one_not_agg {x : DV} (h : (AV.d x).one = true) : x.cells = [x] := by cases x <;> first | rfl | simp [AV.one] at h

theorem cellsV_one {a : AV} {cs : List AV} (h : cellsV a = some cs) : cs.all AV.one = true := by
  unfold cellsV at h
  split at h
  · split at h <;> try (cases h; done)
    rename_i hall; simp only [Option.some.injEq] at h; subst h; exact hall
  · split at h <;> try (cases h; done)
    rename_i hall; simp only [Option.some.injEq] at h; subst h; exact hall
  · split at h <;> try (cases h; done)
    rename_i ho; simp only [Option.some.injEq] at h; subst h; simpa using ho

theorem dvSet_cells {x : DV} {o : Nat} {vs : List DV} (h : o + vs.length ≤ x.cells.length) (hpos : 0 < vs.length) (hone : ∀ y, y ∈ vs → y.cells = [y]) : (dvSet x o vs).cells = splice x.cells o vs := by
  unfold dvSet
  split
  · rfl
  · rename_i hne
    have hc : x.cells = [x] := by cases x <;> first | rfl | exact absurd rfl (hne _)
    rw [hc] at h ⊢
    simp only [List.length_singleton] at h
    obtain rfl : o = 0 := by omega
    match vs, hpos, h, hone with
    | [y], _, _, hone => show y.cells = _; rw [hone y (by simp)]; rfl

theorem flat_set {e : Nat} {xs : List DV} {i : Nat} {y : DV} (h : ∀ x, x ∈ xs → Uni e x) (hi : i < xs.length) (hy : y.cells.length = e) (j : Nat) :
    (flat (xs.set i y))[j]? = if i * e ≤ j ∧ j < i * e + e then y.cells[j - i * e]? else (flat xs)[j]? := by
  induction xs generalizing i j with
  | nil => simp at hi
  | cons x xs ih =>
    have hx := (h x (by simp)).1
    cases i with
    | zero =>
      simp only [List.set_cons_zero, flat, List.flatMap_cons, Nat.zero_mul, Nat.zero_le, true_and, Nat.zero_add, Nat.sub_zero]
      split
      · rename_i hj; rw [List.getElem?_append_left (by omega)]
      · rename_i hj; rw [List.getElem?_append_right (by omega), List.getElem?_append_right (by omega), hx, hy]
    | succ i =>
      have hi' : i < xs.length := by simpa using hi
      have ih' := fun j => ih (fun y hy => h y (by simp [hy])) hi' j
      simp only [List.set_cons_succ, flat, List.flatMap_cons] at ih' ⊢
      rcases Nat.lt_or_ge j x.cells.length with hj | hj
      · rw [List.getElem?_append_left hj, List.getElem?_append_left hj, if_neg (by rw [Nat.add_mul]; omega)]
      · rw [List.getElem?_append_right hj, List.getElem?_append_right hj, ih']
        have e1 : (i * e ≤ j - x.cells.length ∧ j - x.cells.length < i * e + e) ↔ ((i + 1) * e ≤ j ∧ j < (i + 1) * e + e) := by rw [Nat.add_mul]; omega
        have e2 : j - x.cells.length - i * e = j - (i + 1) * e := by rw [Nat.add_mul]; omega
        simp only [e1, e2]

/-- An operation that yields nothing. -/
def EffU (P : Program) (ρ : RHO) (σ : ST) (I : Nat → Prop) (w : World) (s : Sem Unit) (r : Res) : Prop :=
  ∀ R : AV → ST → Prop, r.holds R → ∃ av w' ρ' I' σ', s.run P w = .ok () w' ∧ Step ρ I w σ ρ' I' w' σ' ∧ RS P ρ' I' w' σ' ∧ V ρ' σ' I' w' av undef ∧ R av σ'

theorem updR_self (ρ : RHO) (b : Nat) : updR ρ b (ρ b) = ρ := by funext i; by_cases h : i = b <;> simp [updR, h]

theorem rStore_sound (hr : RS P ρ I w σ) (t : TypeId) (a x : AV) (va vx : Value) (ha : V ρ σ I w a va) (hx : V ρ σ I w x vx) :
    EffU P ρ σ I w (Instr.storeAt t va vx) (rStore P t a x σ) := by
  unfold rStore
  split
  · exact fun _ h => h.elim
  · rename_i hc
    obtain ⟨c1, c2, c3⟩ := cellsV_sound hx hc
    split
    · rename_i b o
      split
      · rename_i tq cs hst
        have hs := stGet_some hst (by simp)
        rintro R ⟨hz, hR⟩
        cases ha with | ptr h1 h2 =>
        have hsz : (Go.sizeOf t).run P w = .ok 0 w := by
          cases hi : P.info? t with
          | none => simp [hi] at hz
          | some i => rw [hi] at hz; simp at hz; simp [Go.sizeOf, typeInfo, hi, hz]
        have hc0 : vx.cells.size = 0 := by simpa using c1.symm
        have hcl : vx.cells.toList = [] := by simpa using hc0
        refine ⟨.any, w, ρ, I, σ, ?_, Step.refl _ _ _ _, hr, .any _, hR⟩
        simp [Instr.storeAt, Instr.sureAddr, storeVar, hsz, hc0, hcl, storeCells]
      · exact fun _ h => h.elim
    · exact fun _ h => h.elim
  · rename_i vs hne hc
    rintro R ⟨⟨hn, hpos⟩, hR⟩
    obtain ⟨c1, c2, c3⟩ := cellsV_sound hx hc
    have hz : 0 < P.cellsOf t := by omega
    revert hR
    split
    · rename_i b o
      split
      · rename_i tq cs hst
        have hs := stGet_some hst (by simp)
        rintro ⟨hlen, hR⟩
        cases ha with | ptr h1 h2 =>
        rename_i B tb cs'
        obtain ⟨us, k1, k2, k3⟩ := hr.box hs h2
        obtain ⟨w', r1, r2, r3, us', r4, r5, r6⟩ := run_storeVar (P := P) (t := t) (o := o) hz (by omega) k1 (by omega) c3
        have hcmp : Compat (.box tq cs) (ρ b) (.box tq (splice cs o vs)) (ρ b) := ⟨rfl, splice_len hlen, rfl⟩
        have hold : ∀ c, c < w.heap.size → c ≠ B → w'.heap[c]? = w.heap[c]? := fun c _ hc => r3 c hc
        have hp : ∀ B', (ρ b).blk = some B' → B' = B ∨ w.heap.size ≤ B' := fun B' h => by rw [h2] at h; cases h; exact .inl rfl
        have hstep := step_upd (w' := w') hr hs h2 trivial (ρ b) hcmp (Ext.of (Nat.le_of_eq r2.1.symm) r2.2) hold hp
        refine ⟨.any, w', _, I, _, r1, hstep, rs_upd hr hs h2 trivial (ρ b) hcmp (Ext.of (Nat.le_of_eq r2.1.symm) r2.2) hold hp ?_, .any _, hR⟩
        refine .box h2 r4 (by rw [splice_len hlen]; omega) (fun j c hj => ?_)
        rw [splice_get hlen] at hj
        rw [r6 j]
        split at hj
        · rename_i hin
          rw [if_pos (by omega)]
          exact hstep.v hr (c2 _ _ hj)
        · rename_i hin
          rw [if_neg (by omega)]
          exact hstep.v hr (k3 _ _ hj)
      · exact fun h => h.elim
    · rename_i b g i o
      split
      · rename_i g' e xs ds hst hds
        have hs := stGet_some hst (by simp)
        rintro ⟨⟨hg, hi, hlen⟩, hR⟩
        subst hg
        have hvs := toDs_map hds
        have hdl : ds.length = vs.length := by rw [hvs]; simp
        have hone : ∀ y, y ∈ ds → y.cells = [y] := fun y hy => by
          have hall := List.all_eq_true.1 (cellsV_one hc) (.d y) (by rw [hvs]; exact List.mem_map.2 ⟨y, hy, rfl⟩)
          exact one_not_agg hall
        cases ha with
        | eptrOld k1 k2 => rw [hs] at k1; cases k1; exact absurd (k2 _ _ _ rfl) (by omega)
        | eptr k1 k2 =>
          rw [hs] at k1; cases k1
          rename_i B
          obtain ⟨us, q1, q2, q3, q4, q5⟩ := hr.arr hs k2
          have hcap : (ρ b).base + i * e + e ≤ us.size := by
            have : (i + 1) * e ≤ (ρ b).cap * e := Nat.mul_le_mul_right e (by omega)
            rw [Nat.add_mul] at this; omega
          obtain ⟨w', r1, r2, r3, us', r4, r5, r6⟩ := run_storeVar (P := P) (t := t) (o := (ρ b).base + i * e + o) hz (by omega) q1 (by omega) c3
          have hmem : xs.getD i default ∈ xs := by rw [List.getD_eq_getElem?_getD, List.getElem?_eq_getElem hi]; simp
          have hcl := (q4 _ hmem).1
          have hnew : (dvSet (xs.getD i default) o ds).cells = splice (xs.getD i default).cells o ds := dvSet_cells (by omega) (by omega) hone
          have hnl : (dvSet (xs.getD i default) o ds).cells.length = e := by rw [hnew, splice_len (by omega), hcl]
          have hcmp : Compat (.arr g e xs) (ρ b) (.arr g e (xs.set i (dvSet (xs.getD i default) o ds))) (ρ b) := .inl ⟨rfl, rfl, rfl, by simp⟩
          have hold : ∀ c, c < w.heap.size → c ≠ B → w'.heap[c]? = w.heap[c]? := fun c _ hc => r3 c hc
          have hp : ∀ B', (ρ b).blk = some B' → B' = B ∨ w.heap.size ≤ B' := fun B' h => by rw [k2] at h; cases h; exact .inl rfl
          have hstep := step_upd (w' := w') hr hs k2 trivial (ρ b) hcmp (Ext.of (Nat.le_of_eq r2.1.symm) r2.2) hold hp
          refine ⟨.any, w', _, I, _, r1, hstep, rs_upd hr hs k2 trivial (ρ b) hcmp (Ext.of (Nat.le_of_eq r2.1.symm) r2.2) hold hp ?_, .any _, hR⟩
          refine .arr k2 r4 (by omega) (by simpa using q3) (fun y hy => ?_) (fun j c hj => ?_)
          · rcases List.mem_or_eq_of_mem_set hy with h | h
            · exact q4 y h
            · subst h
              refine ⟨hnl, fun c hc => ?_⟩
              rw [hnew] at hc
              simp only [splice, List.mem_append] at hc
              rcases hc with (hc | hc) | hc
              · exact (q4 _ hmem).2 c (List.mem_of_mem_take hc)
              · have := hone c hc
                cases c <;> first | rfl | simp [DV.cells] at this
                rename_i l; have := congrArg SizeOf.sizeOf this; simp at this; omega
              · exact (q4 _ hmem).2 c (List.mem_of_mem_drop hc)
          · rw [flat_set q4 hi hnl, hnew] at hj
            rw [r6]
            split at hj
            · rename_i hin
              rw [splice_get (by omega)] at hj
              split at hj
              · rename_i hin2
                rw [if_pos (by omega)]
                have := (c2 (j - i * e - o) (.d c) (by rw [hvs, List.getElem?_map, hj]; rfl)).d_inv
                rw [show (ρ b).base + j - ((ρ b).base + i * e + o) = j - i * e - o by omega]
                exact hstep.vd hr this
              · rename_i hin2
                rw [if_neg (by omega)]
                have hlt : j - i * e < e := by omega
                have := q5 j c (by
                  have := flat_get q4 hi hlt
                  rw [show i * e + (j - i * e) = j by omega] at this
                  rw [this]; exact hj)
                exact hstep.vd hr this
            · rename_i hin
              rw [if_neg (by omega)]
              exact hstep.vd hr (q5 j c hj)
      · exact fun h => h.elim
    · exact fun h => h.elim
end
end Nv
