/- The law PromptsEnds of the package narratorlaw26 returns true for every slice of glyphs, and its argument reads afterwards as it read before; there are no conditions. -/
import Derived.Test.YtoenpoefcmikgaaD26
import Derived.Test.YtoenpoefcmikgaaNvR
import Derived.Test.YtoenpoefcmikgaaRows
set_option linter.unusedVariables false
set_option linter.unusedSimpArgs false
set_option maxRecDepth 100000
namespace Go.Proofs.Ytoenpoefcmikgaa
open Go Nv
open Go.ChangeShapes Go.WideShapes Go.ChangeAt Go.RowKit

theorem own : ownKnob Try.prog.godebug = none := by kernel_rfl

theorem str_td {n : Nat} {ds : List DV} (h : TD Try.prog n 9 ds) : ∃ s : List UInt8, ds = [.str s] ∧ s.length ≤ maxLen := by
  cases n with
  | zero => exact h.elim
  | succ n => simpa only [TD, go_sem] using h
theorem bool_td {n : Nat} {ds : List DV} (h : TD Try.prog n 4 ds) : ∃ b : Bool, ds = [.bool b] := by
  cases n with
  | zero => exact h.elim
  | succ n => simpa only [TD, go_sem] using h
theorem int_td {n : Nat} {ds : List DV} (h : TD Try.prog n 3 ds) : ∃ z : Int, ds = [.int .i64 z] ∧ (Lit.int .i64 z).wf = true := by
  cases n with
  | zero => exact h.elim
  | succ n => simpa only [TD, go_sem] using h

theorem glyph_td {n : Nat} {cs : List DV} (h : TD Try.prog n 35 cs) : ∃ g : Glyph, cs = g.cs := by
  cases n with
  | zero => exact h.elim
  | succ n =>
    simp only [TD, go_sem, List.mem_cons, List.not_mem_nil, or_false, forall_eq_or_imp, forall_eq] at h
    obtain ⟨hl, h0, h1, h2⟩ := h
    match cs, hl with
    | [a, b, c], _ =>
      simp only [List.drop, List.take] at h0 h1 h2
      obtain ⟨s, e0, _⟩ := str_td h0
      obtain ⟨w, e1⟩ := bool_td h1
      obtain ⟨z, e2, _⟩ := int_td h2
      simp only [List.cons.injEq, and_true] at e0 e1 e2
      exact ⟨⟨s, w, z⟩, by rw [e0, e1, e2]; rfl⟩

theorem glyphs_td {n : Nat} {ds : List DV} (h : TD Try.prog n 22 ds) : ∃ l : List Glyph, avOf Try.prog 22 ds = glyphs l := by
  cases n with
  | zero => exact h.elim
  | succ n =>
    simp only [TD, go_sem] at h
    obtain ⟨xs, rfl, _, hx⟩ := h
    have : ∀ xs : List DV, (∀ x, x ∈ xs → ∃ cs, x = ofCells Try.prog 35 cs ∧ TD Try.prog n 35 cs) → ∃ l : List Glyph, xs = l.map Glyph.dv := by
      intro xs
      induction xs with
      | nil => intro _; exact ⟨[], rfl⟩
      | cons x xs ih =>
        intro h
        obtain ⟨cs, rfl, hc⟩ := h x (by simp)
        obtain ⟨g, rfl⟩ := glyph_td hc
        obtain ⟨l, rfl⟩ := ih (fun y hy => h y (by simp [hy]))
        exact ⟨g :: l, by simp only [ofCells, go_sem, List.map_cons]; rfl⟩
    obtain ⟨l, rfl⟩ := this xs hx
    exact ⟨l, by simp only [avOf, go_sem]; rfl⟩

set_option maxRecDepth 100000 in
theorem liftedEnds (os : Os) (started : os.Started) (H : Type) (enc : TypeId × Value → H) :
    ReturnsInHanded {} Try.checked os 3 .any (Rows.promptsEndsSpec.pre6 enc Try.prog Try.f3 Rows.promptsEndsRow.domain false) (Rows.promptsEndsSpec.post enc Try.prog Try.f3 false true false false) := by
  refine returnsInHanded_of_change (C := Try.checked) own started (by kernel_rfl) Try.func3
    (ChangeSpec.witness6 (enc := enc) (C := Try.checked) false ⟨#[], #[.slice none 0 0], []⟩ 8 (by kernel_rfl) (by kernel_rfl) (by kernel_rfl) (by kernel_rfl)) ?_
  intro W base args ds gs before hval0 hW hcnd _
  have hval : ∀ (j : Nat) t v, Try.f3.params[j]? = some t → args[j]? = some v → Value.okWide Try.prog W .any base t v := hval0
  have hW' := hW
  obtain ⟨p, q, hA0, hV, rfl, hfz, hnd⟩ := hW
  have hA : DataW.TrodAll enc Try.prog W 0 (fun _ => true) true Try.f3.params.toList args.toList ds p := hA0
  rw [Try.params3] at hA hval
  obtain ⟨v0, vs0, d0, ds0, p0, q0, hargs, rfl, rfl, h0, r0⟩ := trodAll_cons hA
  obtain ⟨rfl, rfl, rfl⟩ := trodAll_nil r0
  obtain rfl : args = #[v0] := by cases args; simp_all
  obtain ⟨rfl, rfl⟩ := trodVars_none hV
  obtain ⟨c0, t0, hv0⟩ := read_arg (ρ := fun _ => ⟨none, 0, 0⟩) (n := 4) (t := 22) (by kernel_rfl) h0 (hval 0 22 v0 rfl rfl)
  obtain ⟨l, hl⟩ := glyphs_td t0
  rw [hl] at hv0
  clear hA0 hval0
  refine ((law3 l).calls (W := W) (vs := #[v0]) ⟨rfl, fun j a hj => ?_⟩).mono fun e W' ⟨he, hB⟩ => ?_
  · cases j with
    | zero => simp at hj; subst hj; exact hv0
    | succ j => simp at hj
  · subst he
    exact ⟨_, rfl, law_post (tb := 4) (by kernel_rfl) (by rw [Try.params3]; intro t ht; simp at ht; subst ht; exact ⟨by kernel_rfl, of_decide_eq_true (by kernel_rfl)⟩) rfl hW' rfl rfl rfl rfl Try.underlying4 hB⟩

theorem PromptsEnds_holds : Rows.PromptsEndsSaid :=
  OpenClaim.holds_of_wide 3 Try.f3 rfl rfl rfl rfl rfl rfl rfl ⟨rfl, rfl, rfl, rfl, rfl⟩ rfl rfl rfl rfl rfl (by kernel_rfl) Try.func3 (by kernel_rfl)
    (of_decide_eq_true (by kernel_rfl)) (by unfold Func.isWrapper; first | (rw [if_pos (by decide +kernel)]; kernel_rfl) | (rw [if_neg (by decide +kernel)]; exact ⟨rfl, rfl⟩))
    (fun os started H enc _ => liftedEnds os started H enc)
end Go.Proofs.Ytoenpoefcmikgaa
