/- Part of a proof about the functions of this seat. -/
import Derived.Test.YtoenpoefcmikgaaG26
set_option linter.unusedVariables false
set_option linter.unusedSimpArgs false
set_option maxRecDepth 100000
namespace Go.Proofs.Ytoenpoefcmikgaa
open Go Nv

/-- A prompt that ends with a blank stays, whatever follows. -/
theorem ends_typed (l t : List Glyph) (i k : Nat) (h : endsAux l i = i + k + 2) (hb : isBlank (l.getD (k + 1) default) = true) : endsAux (l.take (k + 2) ++ t) i = i + k + 2 := by
  induction l generalizing i k with
  | nil => simp [endsAux] at h
  | cons g l ih =>
    cases l with
    | nil =>
      simp only [endsAux] at h
      split at h <;> omega
    | cons x l =>
      simp only [endsAux] at h
      by_cases hc : (isSign g.text && isBlank x) = true
      · simp only [hc, if_true] at h
        obtain rfl : k = 0 := by omega
        simp [List.take, endsAux, hc]
      · simp only [hc, Bool.false_eq_true, if_false] at h
        cases k with
        | zero =>
          have hxb : isBlank x = true := by simpa using hb
          rcases ends_cases (x :: l) (i + 1) with ⟨h1, _⟩ | ⟨_, h2, h3, _⟩ | ⟨k, _, h2, _⟩
          · omega
          · have hl0 : l.length = 0 := by simp only [List.length_cons] at h2; omega
            obtain rfl : l = [] := List.length_eq_zero_iff.1 hl0
            have h3' : isSign x.text = true := by simpa using h3
            rw [sign_not_blank h3'] at hxb; cases hxb
          · omega
        | succ k =>
          have := ih (i + 1) k (by omega) (by simpa using hb)
          have e : (g :: x :: l).take (k + 1 + 2) ++ t = g :: x :: (l.take (k + 1) ++ t) := by simp [List.take]
          rw [e]
          simp only [endsAux, hc, Bool.false_eq_true, if_false]
          simp only [List.take, List.cons_append] at this
          rw [this]; omega

theorem law6 (l t : List Glyph) : PCall Try.prog 6 [glyphs l, glyphs t] (.d (.bool true)) := by
  refine fn6.pure noHint (Nat.le_refl _) (by simp only [go_sem, glyphs]) (by simp only [go_sem, glyphs]) ?_
  simp (disch := omega) only [go_sem, reduceIte, reduceDIte, reduceCtorEq, Nat.reduceBEq, Nat.reduceEqDiff, Nat.reduceAdd, Nat.reduceSub, Nat.reduceMul, Nat.reduceLT, Nat.reduceLeDiff, Nat.reduceBNe, Int.reduceNeg, Int.reduceAdd, Int.reduceSub, Int.reduceMul, Int.reduceLT, Int.reduceLE, Int.reduceGT, Int.reduceGE, Int.reduceEq, Int.reduceNe, Int.reduceToNat, Int.reduceTMod, Int.reduceTDiv, glyphs]
  refine (great11 l).at ?_
  by_cases hg : greatRow l = true
  · simp (disch := omega) only [go_sem, reduceIte, reduceDIte, reduceCtorEq, Nat.reduceBEq, Nat.reduceEqDiff, Nat.reduceAdd, Nat.reduceSub, Nat.reduceMul, Nat.reduceLT, Nat.reduceLeDiff, Nat.reduceBNe, Int.reduceNeg, Int.reduceAdd, Int.reduceSub, Int.reduceMul, Int.reduceLT, Int.reduceLE, Int.reduceGT, Int.reduceGE, Int.reduceEq, Int.reduceNe, Int.reduceToNat, Int.reduceTMod, Int.reduceTDiv, hg]
    refine awake12.at ?_
    simp (disch := omega) only [go_sem, reduceIte, reduceDIte, reduceCtorEq, Nat.reduceBEq, Nat.reduceEqDiff, Nat.reduceAdd, Nat.reduceSub, Nat.reduceMul, Nat.reduceLT, Nat.reduceLeDiff, Nat.reduceBNe, Int.reduceNeg, Int.reduceAdd, Int.reduceSub, Int.reduceMul, Int.reduceLT, Int.reduceLE, Int.reduceGT, Int.reduceGE, Int.reduceEq, Int.reduceNe, Int.reduceToNat, Int.reduceTMod, Int.reduceTDiv]
  obtain ⟨hl, _, _⟩ := small_of hg
  have hle := ends_le l
  simp (disch := omega) only [go_sem, reduceIte, reduceDIte, reduceCtorEq, Nat.reduceBEq, Nat.reduceEqDiff, Nat.reduceAdd, Nat.reduceSub, Nat.reduceMul, Nat.reduceLT, Nat.reduceLeDiff, Nat.reduceBNe, Int.reduceNeg, Int.reduceAdd, Int.reduceSub, Int.reduceMul, Int.reduceLT, Int.reduceLE, Int.reduceGT, Int.reduceGE, Int.reduceEq, Int.reduceNe, Int.reduceToNat, Int.reduceTMod, Int.reduceTDiv, hg]
  refine (great11 t).at ?_
  by_cases hgt : greatRow t = true
  · simp (disch := omega) only [go_sem, reduceIte, reduceDIte, reduceCtorEq, Nat.reduceBEq, Nat.reduceEqDiff, Nat.reduceAdd, Nat.reduceSub, Nat.reduceMul, Nat.reduceLT, Nat.reduceLeDiff, Nat.reduceBNe, Int.reduceNeg, Int.reduceAdd, Int.reduceSub, Int.reduceMul, Int.reduceLT, Int.reduceLE, Int.reduceGT, Int.reduceGE, Int.reduceEq, Int.reduceNe, Int.reduceToNat, Int.reduceTMod, Int.reduceTDiv, hgt]
    refine awake12.at ?_
    simp (disch := omega) only [go_sem, reduceIte, reduceDIte, reduceCtorEq, Nat.reduceBEq, Nat.reduceEqDiff, Nat.reduceAdd, Nat.reduceSub, Nat.reduceMul, Nat.reduceLT, Nat.reduceLeDiff, Nat.reduceBNe, Int.reduceNeg, Int.reduceAdd, Int.reduceSub, Int.reduceMul, Int.reduceLT, Int.reduceLE, Int.reduceGT, Int.reduceGE, Int.reduceEq, Int.reduceNe, Int.reduceToNat, Int.reduceTMod, Int.reduceTDiv]
  obtain ⟨hlt, _, _⟩ := small_of hgt
  simp (disch := omega) only [go_sem, reduceIte, reduceDIte, reduceCtorEq, Nat.reduceBEq, Nat.reduceEqDiff, Nat.reduceAdd, Nat.reduceSub, Nat.reduceMul, Nat.reduceLT, Nat.reduceLeDiff, Nat.reduceBNe, Int.reduceNeg, Int.reduceAdd, Int.reduceSub, Int.reduceMul, Int.reduceLT, Int.reduceLE, Int.reduceGT, Int.reduceGE, Int.reduceEq, Int.reduceNe, Int.reduceToNat, Int.reduceTMod, Int.reduceTDiv, hgt]
  refine (ends13 l (by omega)).at ?_
  by_cases h2 : ends l < 2
  · have e2 : (ends l : Int) < 2 := by omega
    simp (disch := omega) only [go_sem, reduceIte, reduceDIte, reduceCtorEq, Nat.reduceBEq, Nat.reduceEqDiff, Nat.reduceAdd, Nat.reduceSub, Nat.reduceMul, Nat.reduceLT, Nat.reduceLeDiff, Nat.reduceBNe, Int.reduceNeg, Int.reduceAdd, Int.reduceSub, Int.reduceMul, Int.reduceLT, Int.reduceLE, Int.reduceGT, Int.reduceGE, Int.reduceEq, Int.reduceNe, Int.reduceToNat, Int.reduceTMod, Int.reduceTDiv, e2]
    refine awake12.at ?_
    simp (disch := omega) only [go_sem, reduceIte, reduceDIte, reduceCtorEq, Nat.reduceBEq, Nat.reduceEqDiff, Nat.reduceAdd, Nat.reduceSub, Nat.reduceMul, Nat.reduceLT, Nat.reduceLeDiff, Nat.reduceBNe, Int.reduceNeg, Int.reduceAdd, Int.reduceSub, Int.reduceMul, Int.reduceLT, Int.reduceLE, Int.reduceGT, Int.reduceGE, Int.reduceEq, Int.reduceNe, Int.reduceToNat, Int.reduceTMod, Int.reduceTDiv]
  obtain ⟨k, hk⟩ : ∃ k, ends l = k + 2 := ⟨ends l - 2, by omega⟩
  have e2 : ¬ (ends l : Int) < 2 := by omega
  have e3 : ¬ (l.length : Int) < ends l := by omega
  have e4 : (ends l : Int) - 1 = ((k + 1 : Nat) : Int) := by omega
  have e5 : k + 1 < l.length := by omega
  simp (disch := omega) only [go_sem, reduceIte, reduceDIte, reduceCtorEq, Nat.reduceBEq, Nat.reduceEqDiff, Nat.reduceAdd, Nat.reduceSub, Nat.reduceMul, Nat.reduceLT, Nat.reduceLeDiff, Nat.reduceBNe, Int.reduceNeg, Int.reduceAdd, Int.reduceSub, Int.reduceMul, Int.reduceLT, Int.reduceLE, Int.reduceGT, Int.reduceGE, Int.reduceEq, Int.reduceNe, Int.reduceToNat, Int.reduceTMod, Int.reduceTDiv, e2, e3, e4, e5, Glyph.dv, Glyph.cs]
  by_cases hb : (l.getD (k + 1) default).text = [32]
  · have key := ends_typed l t 0 k (by rw [show endsAux l 0 = ends l from rfl, hk]; omega) (by simp only [isBlank, hb, decide_true])
    have key' : ends (l.take (ends l) ++ t) = ends l := by rw [hk]; rw [show ends (l.take (k + 2) ++ t) = endsAux (l.take (k + 2) ++ t) 0 from rfl, key]; omega
    have hT : (l.take (ends l)).length = ends l := by rw [List.length_take]; omega
    have n1 : (ends l) * 32 ≤ 140737488355328 := by omega
    have n2 : (ends l + t.length) * 32 ≤ 140737488355328 := by omega
    have hTt : List.take (ends l + t.length) (List.map Glyph.dv (l.take (ends l)) ++ List.map Glyph.dv t) = List.map Glyph.dv (l.take (ends l) ++ t) := by
      rw [← List.map_append, List.take_of_length_le (by rw [List.length_map, List.length_append, hT]; exact Nat.le_refl _)]
    simp (disch := omega) only [go_sem, reduceIte, reduceDIte, reduceCtorEq, Nat.reduceBEq, Nat.reduceEqDiff, Nat.reduceAdd, Nat.reduceSub, Nat.reduceMul, Nat.reduceLT, Nat.reduceLeDiff, Nat.reduceBNe, Int.reduceNeg, Int.reduceAdd, Int.reduceSub, Int.reduceMul, Int.reduceLT, Int.reduceLE, Int.reduceGT, Int.reduceGE, Int.reduceEq, Int.reduceNe, Int.reduceToNat, Int.reduceTMod, Int.reduceTDiv, hb, hle, ← List.map_take, List.length_map, hT, Nat.zero_add, Nat.le_refl, List.take_take, Nat.min_self, n1, n2]
    refine PCall.lendAt (r := .d (.int .i64 (ends l))) ?_ ?_ ?_ ?_
    · have h13 := ends13 (l.take (ends l) ++ t) (by rw [List.length_append, hT]; omega)
      rw [key'] at h13
      simp (disch := omega) only [go_sem, reduceIte, reduceDIte, reduceCtorEq, Nat.reduceBEq, Nat.reduceEqDiff, Nat.reduceAdd, Nat.reduceSub, Nat.reduceMul, Nat.reduceLT, Nat.reduceLeDiff, Nat.reduceBNe, Int.reduceNeg, Int.reduceAdd, Int.reduceSub, Int.reduceMul, Int.reduceLT, Int.reduceLE, Int.reduceGT, Int.reduceGE, Int.reduceEq, Int.reduceNe, Int.reduceToNat, Int.reduceTMod, Int.reduceTDiv, List.map_cons, List.map_nil, List.length_append, List.length_map, hT, Nat.zero_add, Nat.le_refl, hTt]
      exact h13
    · simp (disch := omega) only [go_sem, reduceIte, reduceDIte, reduceCtorEq, Nat.reduceBEq, Nat.reduceEqDiff, Nat.reduceAdd, Nat.reduceSub, Nat.reduceMul, Nat.reduceLT, Nat.reduceLeDiff, Nat.reduceBNe, Int.reduceNeg, Int.reduceAdd, Int.reduceSub, Int.reduceMul, Int.reduceLT, Int.reduceLE, Int.reduceGT, Int.reduceGE, Int.reduceEq, Int.reduceNe, Int.reduceToNat, Int.reduceTMod, Int.reduceTDiv, List.map_cons, List.map_nil, List.length_append, List.length_map, hT, Nat.zero_add, Nat.le_refl, hTt]
    · simp (disch := omega) only [go_sem, reduceIte, reduceDIte, reduceCtorEq, Nat.reduceBEq, Nat.reduceEqDiff, Nat.reduceAdd, Nat.reduceSub, Nat.reduceMul, Nat.reduceLT, Nat.reduceLeDiff, Nat.reduceBNe, Int.reduceNeg, Int.reduceAdd, Int.reduceSub, Int.reduceMul, Int.reduceLT, Int.reduceLE, Int.reduceGT, Int.reduceGE, Int.reduceEq, Int.reduceNe, Int.reduceToNat, Int.reduceTMod, Int.reduceTDiv]
    simp (disch := omega) only [go_sem, reduceIte, reduceDIte, reduceCtorEq, Nat.reduceBEq, Nat.reduceEqDiff, Nat.reduceAdd, Nat.reduceSub, Nat.reduceMul, Nat.reduceLT, Nat.reduceLeDiff, Nat.reduceBNe, Int.reduceNeg, Int.reduceAdd, Int.reduceSub, Int.reduceMul, Int.reduceLT, Int.reduceLE, Int.reduceGT, Int.reduceGE, Int.reduceEq, Int.reduceNe, Int.reduceToNat, Int.reduceTMod, Int.reduceTDiv]
    refine awake12.at ?_
    simp (disch := omega) only [go_sem, reduceIte, reduceDIte, reduceCtorEq, Nat.reduceBEq, Nat.reduceEqDiff, Nat.reduceAdd, Nat.reduceSub, Nat.reduceMul, Nat.reduceLT, Nat.reduceLeDiff, Nat.reduceBNe, Int.reduceNeg, Int.reduceAdd, Int.reduceSub, Int.reduceMul, Int.reduceLT, Int.reduceLE, Int.reduceGT, Int.reduceGE, Int.reduceEq, Int.reduceNe, Int.reduceToNat, Int.reduceTMod, Int.reduceTDiv]
  · simp (disch := omega) only [go_sem, reduceIte, reduceDIte, reduceCtorEq, Nat.reduceBEq, Nat.reduceEqDiff, Nat.reduceAdd, Nat.reduceSub, Nat.reduceMul, Nat.reduceLT, Nat.reduceLeDiff, Nat.reduceBNe, Int.reduceNeg, Int.reduceAdd, Int.reduceSub, Int.reduceMul, Int.reduceLT, Int.reduceLE, Int.reduceGT, Int.reduceGE, Int.reduceEq, Int.reduceNe, Int.reduceToNat, Int.reduceTMod, Int.reduceTDiv, hb]
    refine awake12.at ?_
    simp (disch := omega) only [go_sem, reduceIte, reduceDIte, reduceCtorEq, Nat.reduceBEq, Nat.reduceEqDiff, Nat.reduceAdd, Nat.reduceSub, Nat.reduceMul, Nat.reduceLT, Nat.reduceLeDiff, Nat.reduceBNe, Int.reduceNeg, Int.reduceAdd, Int.reduceSub, Int.reduceMul, Int.reduceLT, Int.reduceLE, Int.reduceGT, Int.reduceGE, Int.reduceEq, Int.reduceNe, Int.reduceToNat, Int.reduceTMod, Int.reduceTDiv]
end Go.Proofs.Ytoenpoefcmikgaa
