/- What comes in, as data of the layer: views and regions. -/
import Derived.Test.YtoenpoefcmikgaaT26
import Derived.Test.YtoenpoefcmikgaaL26
set_option linter.unusedVariables false
set_option linter.unusedSimpArgs false
set_option maxRecDepth 100000
namespace Go.Proofs.Ytoenpoefcmikgaa
open Go Nv

theorem rowcells_td {n : Nat} {cs : List DV} (h : TD Try.prog n 22 cs) : ∃ l : List Glyph, cs = [rowD l] := by
  obtain ⟨l, hl⟩ := glyphs_td h
  cases n with
  | zero => exact h.elim
  | succ n =>
    simp only [TD, go_sem] at h
    obtain ⟨xs, rfl, _⟩ := h
    simp only [avOf, go_sem, glyphs, List.headD_cons, AV.d.injEq] at hl
    exact ⟨l, by rw [hl]; rfl⟩

theorem rows_td {n : Nat} {ds : List DV} (h : TD Try.prog n 26 ds) : ∃ l : List (List Glyph), ds = [.list 1 (l.map rowD)] := by
  cases n with
  | zero => exact h.elim
  | succ n =>
    simp only [TD, go_sem] at h
    obtain ⟨xs, rfl, _, hx⟩ := h
    have : ∀ xs : List DV, (∀ x, x ∈ xs → ∃ cs, x = ofCells Try.prog 22 cs ∧ TD Try.prog n 22 cs) → ∃ l : List (List Glyph), xs = l.map rowD := by
      intro xs
      induction xs with
      | nil => intro _; exact ⟨[], rfl⟩
      | cons x xs ih =>
        intro h
        obtain ⟨cs, rfl, hc⟩ := h x (by simp)
        obtain ⟨g, rfl⟩ := rowcells_td hc
        obtain ⟨l, rfl⟩ := ih (fun y hy => h y (by simp [hy]))
        exact ⟨g :: l, by simp only [ofCells, go_sem, List.map_cons, List.headD_cons]⟩
    obtain ⟨l, rfl⟩ := this xs hx
    exact ⟨l, rfl⟩

theorem view_td {n : Nat} {ds : List DV} (h : TD Try.prog n 28 ds) : ∃ v : View, avOf Try.prog 28 ds = v.av := by
  cases n with
  | zero => exact h.elim
  | succ n =>
    simp only [TD, go_sem, List.mem_cons, List.not_mem_nil, or_false, forall_eq_or_imp, forall_eq] at h
    obtain ⟨hl, h0, h1, h2, h3, h4, h5⟩ := h
    match ds, hl with
    | [a, b, c, d, e, f], _ =>
      simp only [List.drop, List.take] at h0 h1 h2 h3 h4 h5
      obtain ⟨z0, e0, _⟩ := int_td h0
      obtain ⟨z1, e1, _⟩ := int_td h1
      obtain ⟨l, e2⟩ := rows_td h2
      obtain ⟨z3, e3, _⟩ := int_td h3
      obtain ⟨z4, e4, _⟩ := int_td h4
      obtain ⟨b5, e5⟩ := bool_td h5
      simp only [List.cons.injEq, and_true] at e0 e1 e2 e3 e4 e5
      exact ⟨⟨z0, z1, l, z3, z4, b5⟩, by rw [e0, e1, e2, e3, e4, e5]; simp only [avOf, go_sem]; rfl⟩

theorem region_td {n : Nat} {ds : List DV} (h : TD Try.prog n 32 ds) : ∃ r : Region, avOf Try.prog 32 ds = r.av := by
  cases n with
  | zero => exact h.elim
  | succ n =>
    simp only [TD, go_sem, List.mem_cons, List.not_mem_nil, or_false, forall_eq_or_imp, forall_eq] at h
    obtain ⟨hl, h0, h1, h2, h3, h4, h5, h6, h7⟩ := h
    match ds, hl with
    | [a, b, c, d, e, f, g, i], _ =>
      simp only [List.drop, List.take] at h0 h1 h2 h3 h4 h5 h6 h7
      obtain ⟨z0, e0, _⟩ := int_td h0
      obtain ⟨z1, e1, _⟩ := int_td h1
      obtain ⟨z2, e2, _⟩ := int_td h2
      obtain ⟨z3, e3, _⟩ := int_td h3
      obtain ⟨z4, e4, _⟩ := int_td h4
      obtain ⟨z5, e5, _⟩ := int_td h5
      obtain ⟨z6, e6, _⟩ := int_td h6
      obtain ⟨s7, e7, _⟩ := str_td h7
      simp only [List.cons.injEq, and_true] at e0 e1 e2 e3 e4 e5 e6 e7
      exact ⟨⟨z0, z1, z2, z3, z4, z5, z6, s7⟩, by rw [e0, e1, e2, e3, e4, e5, e6, e7]; simp only [avOf, go_sem]; rfl⟩
end Go.Proofs.Ytoenpoefcmikgaa
