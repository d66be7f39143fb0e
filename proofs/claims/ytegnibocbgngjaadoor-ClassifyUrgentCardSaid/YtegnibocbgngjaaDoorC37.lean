/- Part of a proof about the functions of this seat. -/
import Derived.Test.YtegnibocbgngjaaDoorB37
set_option linter.unusedVariables false
set_option linter.unusedSimpArgs false
set_option maxRecDepth 100000
namespace Go.Proofs.YtegnibocbgngjaaDoor
open Go Nv

theorem nb_iff {a b : Vd} : better a b = false ↔ ¬ (a.c < b.c ∨ (a.c = b.c ∧ a.w < b.w)) := by
  cases h : better a b
  · simp only [better, Bool.or_eq_false_iff, decide_eq_false_iff_not, Bool.and_eq_false_iff] at h
    simp only [true_iff]; omega
  · simp only [better, Bool.or_eq_true, decide_eq_true_eq, Bool.and_eq_true] at h
    simp only [reduceCtorEq, false_iff, Classical.not_not]; exact h
theorem nb_refl (a : Vd) : better a a = false := nb_iff.2 (by omega)
theorem nb_trans {a b c : Vd} (h1 : better a b = false) (h2 : better b c = false) : better a c = false := by
  rw [nb_iff] at *; omega
theorem nb_of {a b : Vd} (h : better a b = true) : better b a = false := by
  rw [nb_iff]
  simp only [better, Bool.or_eq_true, decide_eq_true_eq, Bool.and_eq_true] at h
  omega

theorem fold_best : ∀ (l : List Vd) (b : Vd), better b (l.foldl pick2 b) = false ∧ (∀ v, v ∈ l → better v (l.foldl pick2 b) = false) ∧ (l.foldl pick2 b = b ∨ l.foldl pick2 b ∈ l)
  | [], b => ⟨nb_refl b, by simp, .inl rfl⟩
  | v :: l, b => by
    obtain ⟨h1, h2, h3⟩ := fold_best l (pick2 b v)
    simp only [List.foldl_cons]
    cases hb : better v b
    · have e : pick2 b v = b := if_neg (by rw [hb]; simp)
      rw [e] at h1 h2 h3 ⊢
      refine ⟨h1, fun x hx => ?_, ?_⟩
      · rcases List.mem_cons.1 hx with rfl | hx
        · exact nb_trans hb h1
        · exact h2 x hx
      · rcases h3 with h | h
        · exact .inl h
        · exact .inr (List.mem_cons_of_mem _ h)
    · have e : pick2 b v = v := if_pos hb
      rw [e] at h1 h2 h3 ⊢
      refine ⟨nb_trans (nb_of hb) h1, fun x hx => ?_, ?_⟩
      · rcases List.mem_cons.1 hx with rfl | hx
        · exact h1
        · exact h2 x hx
      · rcases h3 with h | h
        · rw [h]; exact .inr (List.mem_cons_self ..)
        · exact .inr (List.mem_cons_of_mem _ h)

theorem most_best {l : List Vd} {v : Vd} (hv : v ∈ l) : better v (most l) = false := by
  cases l with
  | nil => cases hv
  | cons b l =>
    obtain ⟨h1, h2, _⟩ := fold_best l b
    rcases List.mem_cons.1 hv with rfl | hx
    · exact h1
    · exact h2 v hx
theorem most_mem {l : List Vd} (h : l ≠ []) : most l ∈ l := by
  cases l with
  | nil => exact absurd rfl h
  | cons b l =>
    obtain ⟨_, _, h3⟩ := fold_best l b
    rcases h3 with h | h
    · exact List.mem_cons.2 (.inl h)
    · exact List.mem_cons_of_mem _ h
theorem most_rev {l : List Vd} (h : l ≠ []) : (most l.reverse).c = (most l).c ∧ (most l.reverse).w = (most l).w := by
  have h1 := nb_iff.1 (most_best (List.mem_reverse.2 (most_mem h)))
  have h2 := nb_iff.1 (most_best (List.mem_reverse.1 (most_mem (l := l.reverse) (by simpa using h))))
  omega
end Go.Proofs.YtegnibocbgngjaaDoor
