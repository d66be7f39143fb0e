/- What comes in, as data of the layer: glyphs. -/
import Derived.Test.YtoenpoefcmikgaaA26
import Derived.Test.YtoenpoefcmikgaaNvR
set_option linter.unusedVariables false
set_option linter.unusedSimpArgs false
set_option maxRecDepth 100000
namespace Go.Proofs.Ytoenpoefcmikgaa
open Go Nv
open Go.ChangeShapes Go.WideShapes Go.ChangeAt Go.RowKit

theorem own : ownKnob Try.prog.godebug = none := by kernel_rfl

theorem str_td {n : Nat} {ds : List DV} (h : TD Try.prog n 9 ds) : ∃ s : List UInt8, ds = [.str s] ∧ s.length ≤ maxLen := by
  cases n with
  | zero => exact h.elim
  | succ n => simpa only [TD, go_sem] using h
theorem bool_td {n : Nat} {ds : List DV} (h : TD Try.prog n 4 ds) : ∃ b : Bool, ds = [.bool b] := by
  cases n with
  | zero => exact h.elim
  | succ n => simpa only [TD, go_sem] using h
theorem int_td {n : Nat} {ds : List DV} (h : TD Try.prog n 3 ds) : ∃ z : Int, ds = [.int .i64 z] ∧ (Lit.int .i64 z).wf = true := by
  cases n with
  | zero => exact h.elim
  | succ n => simpa only [TD, go_sem] using h

theorem u8_td {n : Nat} {ds : List DV} (h : TD Try.prog n 5 ds) : ∃ z : Int, (0 ≤ z ∧ z < 256) ∧ avOf Try.prog 5 ds = .d (.int .u8 z) := by
  cases n with
  | zero => exact h.elim
  | succ n =>
    simp only [TD, go_sem] at h
    obtain ⟨z, rfl, hw⟩ := h
    refine ⟨z, ?_, by simp only [avOf, go_sem]; rfl⟩
    simp only [Lit.wf, Bool.and_eq_true, decide_eq_true_eq] at hw
    have h1 : IntKind.u8.min = 0 := by rfl
    have h2 : IntKind.u8.max = 255 := by rfl
    omega

theorem glyph_td {n : Nat} {cs : List DV} (h : TD Try.prog n 35 cs) : ∃ g : Glyph, cs = g.cs := by
  cases n with
  | zero => exact h.elim
  | succ n =>
    simp only [TD, go_sem, List.mem_cons, List.not_mem_nil, or_false, forall_eq_or_imp, forall_eq] at h
    obtain ⟨hl, h0, h1, h2⟩ := h
    match cs, hl with
    | [a, b, c], _ =>
      simp only [List.drop, List.take] at h0 h1 h2
      obtain ⟨s, e0, _⟩ := str_td h0
      obtain ⟨w, e1⟩ := bool_td h1
      obtain ⟨z, e2, _⟩ := int_td h2
      simp only [List.cons.injEq, and_true] at e0 e1 e2
      exact ⟨⟨s, w, z⟩, by rw [e0, e1, e2]; rfl⟩

theorem glyphs_td {n : Nat} {ds : List DV} (h : TD Try.prog n 22 ds) : ∃ l : List Glyph, avOf Try.prog 22 ds = glyphs l := by
  cases n with
  | zero => exact h.elim
  | succ n =>
    simp only [TD, go_sem] at h
    obtain ⟨xs, rfl, _, hx⟩ := h
    have : ∀ xs : List DV, (∀ x, x ∈ xs → ∃ cs, x = ofCells Try.prog 35 cs ∧ TD Try.prog n 35 cs) → ∃ l : List Glyph, xs = l.map Glyph.dv := by
      intro xs
      induction xs with
      | nil => intro _; exact ⟨[], rfl⟩
      | cons x xs ih =>
        intro h
        obtain ⟨cs, rfl, hc⟩ := h x (by simp)
        obtain ⟨g, rfl⟩ := glyph_td hc
        obtain ⟨l, rfl⟩ := ih (fun y hy => h y (by simp [hy]))
        exact ⟨g :: l, by simp only [ofCells, go_sem, List.map_cons]; rfl⟩
    obtain ⟨l, rfl⟩ := this xs hx
    exact ⟨l, by simp only [avOf, go_sem]; rfl⟩

end Go.Proofs.Ytoenpoefcmikgaa
