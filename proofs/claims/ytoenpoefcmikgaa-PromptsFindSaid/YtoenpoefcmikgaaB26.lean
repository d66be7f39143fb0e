/- Part of a proof about the functions of this seat. -/
import Derived.Test.YtoenpoefcmikgaaA26
import Derived.Test.YtoenpoefcmikgaaSh26
set_option linter.unusedVariables false
set_option linter.unusedSimpArgs false
set_option maxRecDepth 100000
namespace Go.Proofs.Ytoenpoefcmikgaa
open Go Nv

theorem sign_byte (c : UInt8) : decide (0 ≤ Lib.indexByte [36, 35, 62, 58, 63] c) = isSign [c] := by
  simp only [Lib.indexByte, isSign]
  by_cases h1 : c = 36
  · subst h1; decide
  by_cases h2 : c = 35
  · subst h2; decide
  by_cases h3 : c = 62
  · subst h3; decide
  by_cases h4 : c = 58
  · subst h4; decide
  by_cases h5 : c = 63
  · subst h5; decide
  simp [h1, h2, h3, h4, h5, Ne.symm h1, Ne.symm h2, Ne.symm h3, Ne.symm h4, Ne.symm h5]

theorem sign26 (g : Glyph) : PCall Try.prog 26 [g.av] (.d (.bool (isSign g.text))) := by
  refine fn26.pure noHint (Nat.le_refl _) (by simp only [go_sem, Glyph.av]) (by simp only [go_sem]) ?_
  simp (disch := omega) only [go_sem, reduceIte, reduceDIte, reduceCtorEq, Nat.reduceBEq, Nat.reduceEqDiff, Nat.reduceAdd, Nat.reduceSub, Nat.reduceMul, Nat.reduceLT, Nat.reduceLeDiff, Nat.reduceBNe, Int.reduceNeg, Int.reduceAdd, Int.reduceSub, Int.reduceMul, Int.reduceLT, Int.reduceLE, Int.reduceGT, Int.reduceGE, Int.reduceEq, Int.reduceNe, Int.reduceToNat, Int.reduceTMod, Int.reduceTDiv, Glyph.av]
  by_cases h1 : g.text.length = 1
  · obtain ⟨c, hc⟩ : ∃ c, g.text = [c] := List.length_eq_one_iff.1 h1
    have e1 : (g.text.length : Int) = 1 := by omega
    simp (disch := omega) only [go_sem, reduceIte, reduceDIte, reduceCtorEq, Nat.reduceBEq, Nat.reduceEqDiff, Nat.reduceAdd, Nat.reduceSub, Nat.reduceMul, Nat.reduceLT, Nat.reduceLeDiff, Nat.reduceBNe, Int.reduceNeg, Int.reduceAdd, Int.reduceSub, Int.reduceMul, Int.reduceLT, Int.reduceLE, Int.reduceGT, Int.reduceGE, Int.reduceEq, Int.reduceNe, Int.reduceToNat, Int.reduceTMod, Int.reduceTDiv, e1]
    rw [hc]
    refine (contains_one [36, 35, 62, 58, 63] c).at ?_
    simp (disch := omega) only [go_sem, reduceIte, reduceDIte, reduceCtorEq, Nat.reduceBEq, Nat.reduceEqDiff, Nat.reduceAdd, Nat.reduceSub, Nat.reduceMul, Nat.reduceLT, Nat.reduceLeDiff, Nat.reduceBNe, Int.reduceNeg, Int.reduceAdd, Int.reduceSub, Int.reduceMul, Int.reduceLT, Int.reduceLE, Int.reduceGT, Int.reduceGE, Int.reduceEq, Int.reduceNe, Int.reduceToNat, Int.reduceTMod, Int.reduceTDiv, sign_byte]
  · have : isSign g.text = false := by
      unfold isSign
      have : ∀ c, g.text ≠ [c] := fun c h => h1 (by rw [h]; rfl)
      simp [this]
    have h2 : ¬ (g.text.length : Int) = 1 := by omega
    simp (disch := omega) only [go_sem, reduceIte, reduceDIte, reduceCtorEq, Nat.reduceBEq, Nat.reduceEqDiff, Nat.reduceAdd, Nat.reduceSub, Nat.reduceMul, Nat.reduceLT, Nat.reduceLeDiff, Nat.reduceBNe, Int.reduceNeg, Int.reduceAdd, Int.reduceSub, Int.reduceMul, Int.reduceLT, Int.reduceLE, Int.reduceGT, Int.reduceGE, Int.reduceEq, Int.reduceNe, Int.reduceToNat, Int.reduceTMod, Int.reduceTDiv, h1, h2, this]

def isEnd (l : List Glyph) (k : Nat) : Bool := isSign (l.getD k default).text && (decide (k + 1 = l.length) || isBlank (l.getD (k + 1) default))

theorem end25 (l : List Glyph) (hl : l.length ≤ 1048576) (k : Nat) (hk : k < l.length) :
    SCall Try.prog 25 [.d (.int .i64 k), .ptr 0 0] [.box 22 [glyphs l]] (.d (.bool (isEnd l k))) [.box 22 [glyphs l]] := by
  refine fn25.st noHint (Nat.le_refl _) ?_
  simp (disch := omega) only [go_sem, reduceIte, reduceDIte, reduceCtorEq, Nat.reduceBEq, Nat.reduceEqDiff, Nat.reduceAdd, Nat.reduceSub, Nat.reduceMul, Nat.reduceLT, Nat.reduceLeDiff, Nat.reduceBNe, Int.reduceNeg, Int.reduceAdd, Int.reduceSub, Int.reduceMul, Int.reduceLT, Int.reduceLE, Int.reduceGT, Int.reduceGE, Int.reduceEq, Int.reduceNe, Int.reduceToNat, Int.reduceTMod, Int.reduceTDiv, glyphs, hk, Glyph.dv, Glyph.cs]
  refine (sign26 (l.getD k default)).at ?_
  by_cases hs : isSign (l.getD k default).text = true
  · by_cases he : k + 1 = l.length
    · have he' : (k : Int) + 1 = l.length := by omega
      simp (disch := omega) only [go_sem, reduceIte, reduceDIte, reduceCtorEq, Nat.reduceBEq, Nat.reduceEqDiff, Nat.reduceAdd, Nat.reduceSub, Nat.reduceMul, Nat.reduceLT, Nat.reduceLeDiff, Nat.reduceBNe, Int.reduceNeg, Int.reduceAdd, Int.reduceSub, Int.reduceMul, Int.reduceLT, Int.reduceLE, Int.reduceGT, Int.reduceGE, Int.reduceEq, Int.reduceNe, Int.reduceToNat, Int.reduceTMod, Int.reduceTDiv, hs, he, he', glyphs]
      simp (disch := omega) only [go_sem, reduceIte, reduceDIte, reduceCtorEq, Nat.reduceBEq, Nat.reduceEqDiff, Nat.reduceAdd, Nat.reduceSub, Nat.reduceMul, Nat.reduceLT, Nat.reduceLeDiff, Nat.reduceBNe, Int.reduceNeg, Int.reduceAdd, Int.reduceSub, Int.reduceMul, Int.reduceLT, Int.reduceLE, Int.reduceGT, Int.reduceGE, Int.reduceEq, Int.reduceNe, Int.reduceToNat, Int.reduceTMod, Int.reduceTDiv, isEnd, hs, he]
    · have he' : ¬ (k : Int) + 1 = l.length := by omega
      have hk1 : k + 1 < l.length := by omega
      simp (disch := omega) only [go_sem, reduceIte, reduceDIte, reduceCtorEq, Nat.reduceBEq, Nat.reduceEqDiff, Nat.reduceAdd, Nat.reduceSub, Nat.reduceMul, Nat.reduceLT, Nat.reduceLeDiff, Nat.reduceBNe, Int.reduceNeg, Int.reduceAdd, Int.reduceSub, Int.reduceMul, Int.reduceLT, Int.reduceLE, Int.reduceGT, Int.reduceGE, Int.reduceEq, Int.reduceNe, Int.reduceToNat, Int.reduceTMod, Int.reduceTDiv, hs, he, he', hk1, Glyph.dv, Glyph.cs, glyphs]
      simp (disch := omega) only [go_sem, reduceIte, reduceDIte, reduceCtorEq, Nat.reduceBEq, Nat.reduceEqDiff, Nat.reduceAdd, Nat.reduceSub, Nat.reduceMul, Nat.reduceLT, Nat.reduceLeDiff, Nat.reduceBNe, Int.reduceNeg, Int.reduceAdd, Int.reduceSub, Int.reduceMul, Int.reduceLT, Int.reduceLE, Int.reduceGT, Int.reduceGE, Int.reduceEq, Int.reduceNe, Int.reduceToNat, Int.reduceTMod, Int.reduceTDiv, isEnd, hs, he, glyphs, isBlank]
  · simp (disch := omega) only [go_sem, reduceIte, reduceDIte, reduceCtorEq, Nat.reduceBEq, Nat.reduceEqDiff, Nat.reduceAdd, Nat.reduceSub, Nat.reduceMul, Nat.reduceLT, Nat.reduceLeDiff, Nat.reduceBNe, Int.reduceNeg, Int.reduceAdd, Int.reduceSub, Int.reduceMul, Int.reduceLT, Int.reduceLE, Int.reduceGT, Int.reduceGE, Int.reduceEq, Int.reduceNe, Int.reduceToNat, Int.reduceTMod, Int.reduceTDiv, hs]
    simp (disch := omega) only [go_sem, reduceIte, reduceDIte, reduceCtorEq, Nat.reduceBEq, Nat.reduceEqDiff, Nat.reduceAdd, Nat.reduceSub, Nat.reduceMul, Nat.reduceLT, Nat.reduceLeDiff, Nat.reduceBNe, Int.reduceNeg, Int.reduceAdd, Int.reduceSub, Int.reduceMul, Int.reduceLT, Int.reduceLE, Int.reduceGT, Int.reduceGE, Int.reduceEq, Int.reduceNe, Int.reduceToNat, Int.reduceTMod, Int.reduceTDiv, isEnd, hs, glyphs]

/-- the first glyph that ends a prompt; as Go's index -/
def firstEnd (l : List Glyph) : Nat → Nat → Int
  | 0, _ => -1
  | n + 1, k => if isEnd l k then k else firstEnd l n (k + 1)

theorem first24 (l : List Glyph) (hl : l.length ≤ 1048576) :
    SCall Try.prog 24 [glyphs l, .func (.func 25) [] [.ptr 0 0]] [.box 22 [glyphs l]] (.d (.int .i64 (firstEnd l l.length 0))) [.box 22 [glyphs l]] := by
  refine fn24.st noHint (Nat.le_refl _) ?_
  simp (disch := omega) only [go_sem, reduceIte, reduceDIte, reduceCtorEq, Nat.reduceBEq, Nat.reduceEqDiff, Nat.reduceAdd, Nat.reduceSub, Nat.reduceMul, Nat.reduceLT, Nat.reduceLeDiff, Nat.reduceBNe, Int.reduceNeg, Int.reduceAdd, Int.reduceSub, Int.reduceMul, Int.reduceLT, Int.reduceLE, Int.reduceGT, Int.reduceGE, Int.reduceEq, Int.reduceNe, Int.reduceToNat, Int.reduceTMod, Int.reduceTDiv, glyphs]
  refine wL_ind (fun (k : Nat) fr σ => k ≤ l.length ∧ fr 1 = .func (.func 25) [] [.ptr 0 0] ∧ fr 7 = .d (.int .i64 l.length) ∧ fr 8 = .d (.int .i64 k) ∧ σ = [.box 22 [glyphs l]] ∧ firstEnd l (l.length - k) k = firstEnd l l.length 0) (fun k => l.length - k) ?_ 0 ?_
  · rintro k fr σ ⟨hk, h1, h7, h8, rfl, hs⟩ ih
    by_cases hlt : k < l.length
    · simp (disch := omega) only [go_sem, reduceIte, reduceDIte, reduceCtorEq, Nat.reduceBEq, Nat.reduceEqDiff, Nat.reduceAdd, Nat.reduceSub, Nat.reduceMul, Nat.reduceLT, Nat.reduceLeDiff, Nat.reduceBNe, Int.reduceNeg, Int.reduceAdd, Int.reduceSub, Int.reduceMul, Int.reduceLT, Int.reduceLE, Int.reduceGT, Int.reduceGE, Int.reduceEq, Int.reduceNe, Int.reduceToNat, Int.reduceTMod, Int.reduceTDiv, h1, h7, h8, hlt]
      refine (end25 l hl k hlt).at ?_
      obtain ⟨n, hn⟩ : ∃ n, l.length - k = n + 1 := ⟨l.length - k - 1, by omega⟩
      rw [hn] at hs
      by_cases he : isEnd l k = true
      · simp (disch := omega) only [go_sem, reduceIte, reduceDIte, reduceCtorEq, Nat.reduceBEq, Nat.reduceEqDiff, Nat.reduceAdd, Nat.reduceSub, Nat.reduceMul, Nat.reduceLT, Nat.reduceLeDiff, Nat.reduceBNe, Int.reduceNeg, Int.reduceAdd, Int.reduceSub, Int.reduceMul, Int.reduceLT, Int.reduceLE, Int.reduceGT, Int.reduceGE, Int.reduceEq, Int.reduceNe, Int.reduceToNat, Int.reduceTMod, Int.reduceTDiv, he, h8]
        rw [← hs]
        simp (disch := omega) only [go_sem, reduceIte, reduceDIte, reduceCtorEq, Nat.reduceBEq, Nat.reduceEqDiff, Nat.reduceAdd, Nat.reduceSub, Nat.reduceMul, Nat.reduceLT, Nat.reduceLeDiff, Nat.reduceBNe, Int.reduceNeg, Int.reduceAdd, Int.reduceSub, Int.reduceMul, Int.reduceLT, Int.reduceLE, Int.reduceGT, Int.reduceGE, Int.reduceEq, Int.reduceNe, Int.reduceToNat, Int.reduceTMod, Int.reduceTDiv, firstEnd, he, glyphs]
      · simp (disch := omega) only [go_sem, reduceIte, reduceDIte, reduceCtorEq, Nat.reduceBEq, Nat.reduceEqDiff, Nat.reduceAdd, Nat.reduceSub, Nat.reduceMul, Nat.reduceLT, Nat.reduceLeDiff, Nat.reduceBNe, Int.reduceNeg, Int.reduceAdd, Int.reduceSub, Int.reduceMul, Int.reduceLT, Int.reduceLE, Int.reduceGT, Int.reduceGE, Int.reduceEq, Int.reduceNe, Int.reduceToNat, Int.reduceTMod, Int.reduceTDiv, he, h8]
        refine ih (k + 1) _ _ (by omega) ⟨by omega, ?_, ?_, ?_, rfl, ?_⟩
        · simp (disch := omega) only [go_sem, reduceIte, reduceDIte, reduceCtorEq, Nat.reduceBEq, Nat.reduceEqDiff, Nat.reduceAdd, Nat.reduceSub, Nat.reduceMul, Nat.reduceLT, Nat.reduceLeDiff, Nat.reduceBNe, Int.reduceNeg, Int.reduceAdd, Int.reduceSub, Int.reduceMul, Int.reduceLT, Int.reduceLE, Int.reduceGT, Int.reduceGE, Int.reduceEq, Int.reduceNe, Int.reduceToNat, Int.reduceTMod, Int.reduceTDiv, h1]
        · simp (disch := omega) only [go_sem, reduceIte, reduceDIte, reduceCtorEq, Nat.reduceBEq, Nat.reduceEqDiff, Nat.reduceAdd, Nat.reduceSub, Nat.reduceMul, Nat.reduceLT, Nat.reduceLeDiff, Nat.reduceBNe, Int.reduceNeg, Int.reduceAdd, Int.reduceSub, Int.reduceMul, Int.reduceLT, Int.reduceLE, Int.reduceGT, Int.reduceGE, Int.reduceEq, Int.reduceNe, Int.reduceToNat, Int.reduceTMod, Int.reduceTDiv, h7]
        · simp (disch := omega) only [go_sem, reduceIte, reduceDIte, reduceCtorEq, Nat.reduceBEq, Nat.reduceEqDiff, Nat.reduceAdd, Nat.reduceSub, Nat.reduceMul, Nat.reduceLT, Nat.reduceLeDiff, Nat.reduceBNe, Int.reduceNeg, Int.reduceAdd, Int.reduceSub, Int.reduceMul, Int.reduceLT, Int.reduceLE, Int.reduceGT, Int.reduceGE, Int.reduceEq, Int.reduceNe, Int.reduceToNat, Int.reduceTMod, Int.reduceTDiv]
        · rw [← hs, show l.length - (k + 1) = n by omega]
          simp (disch := omega) only [go_sem, reduceIte, reduceDIte, reduceCtorEq, Nat.reduceBEq, Nat.reduceEqDiff, Nat.reduceAdd, Nat.reduceSub, Nat.reduceMul, Nat.reduceLT, Nat.reduceLeDiff, Nat.reduceBNe, Int.reduceNeg, Int.reduceAdd, Int.reduceSub, Int.reduceMul, Int.reduceLT, Int.reduceLE, Int.reduceGT, Int.reduceGE, Int.reduceEq, Int.reduceNe, Int.reduceToNat, Int.reduceTMod, Int.reduceTDiv, firstEnd, he]
    · simp (disch := omega) only [go_sem, reduceIte, reduceDIte, reduceCtorEq, Nat.reduceBEq, Nat.reduceEqDiff, Nat.reduceAdd, Nat.reduceSub, Nat.reduceMul, Nat.reduceLT, Nat.reduceLeDiff, Nat.reduceBNe, Int.reduceNeg, Int.reduceAdd, Int.reduceSub, Int.reduceMul, Int.reduceLT, Int.reduceLE, Int.reduceGT, Int.reduceGE, Int.reduceEq, Int.reduceNe, Int.reduceToNat, Int.reduceTMod, Int.reduceTDiv, h7, h8, hlt]
      have e2 : l.length - k = 0 := by omega
      rw [← hs, e2]
      simp (disch := omega) only [go_sem, reduceIte, reduceDIte, reduceCtorEq, Nat.reduceBEq, Nat.reduceEqDiff, Nat.reduceAdd, Nat.reduceSub, Nat.reduceMul, Nat.reduceLT, Nat.reduceLeDiff, Nat.reduceBNe, Int.reduceNeg, Int.reduceAdd, Int.reduceSub, Int.reduceMul, Int.reduceLT, Int.reduceLE, Int.reduceGT, Int.reduceGE, Int.reduceEq, Int.reduceNe, Int.reduceToNat, Int.reduceTMod, Int.reduceTDiv, firstEnd, glyphs]
  · simp (disch := omega) only [go_sem, reduceIte, reduceDIte, reduceCtorEq, Nat.reduceBEq, Nat.reduceEqDiff, Nat.reduceAdd, Nat.reduceSub, Nat.reduceMul, Nat.reduceLT, Nat.reduceLeDiff, Nat.reduceBNe, Int.reduceNeg, Int.reduceAdd, Int.reduceSub, Int.reduceMul, Int.reduceLT, Int.reduceLE, Int.reduceGT, Int.reduceGE, Int.reduceEq, Int.reduceNe, Int.reduceToNat, Int.reduceTMod, Int.reduceTDiv, Nat.zero_le, Nat.sub_zero, glyphs]

theorem firstEnd_ends (l : List Glyph) (n k : Nat) (h : n = l.length - k) (hk : k ≤ l.length) :
    min (l.length : Int) (firstEnd l n k + 2) * min 1 (firstEnd l n k + 1) = endsAux (l.drop k) k := by
  induction n generalizing k with
  | zero =>
    have : l.drop k = [] := List.drop_of_length_le (by omega)
    rw [this]; simp only [firstEnd, endsAux]; rw [show min (1 : Int) (-1 + 1) = 0 from rfl, Int.mul_zero]; rfl
  | succ n ih =>
    have hlt : k < l.length := by omega
    rw [drop_getD l k hlt]
    simp only [firstEnd]
    have ih' := ih (k + 1) (by omega) (by omega)
    by_cases hk1 : k + 1 = l.length
    · have e2 : l.drop (k + 1) = [] := List.drop_of_length_le (by omega)
      rw [e2] at ih' ⊢
      simp only [endsAux, isEnd, hk1, decide_true, Bool.true_or, Bool.and_true]
      by_cases hs : isSign (l.getD k default).text = true
      · simp only [hs, if_true]; rw [Int.min_eq_left (by omega), Int.min_eq_left (by omega)]; omega
      · simp only [hs, Bool.false_eq_true, if_false]
        simp only [endsAux] at ih'
        simpa [hk1] using ih'
    · have hlt1 : k + 1 < l.length := by omega
      rw [drop_getD l (k + 1) hlt1] at ih' ⊢
      simp only [endsAux, isEnd, hk1, decide_false, Bool.false_or]
      by_cases hs : (isSign (l.getD k default).text && isBlank (l.getD (k + 1) default)) = true
      · simp only [hs, if_true]; rw [Int.min_eq_right (by omega), Int.min_eq_left (by omega)]; omega
      · simp only [hs, Bool.false_eq_true, if_false]; exact ih'

theorem endsAux_le (l : List Glyph) (i : Nat) : endsAux l i ≤ i + l.length := by
  induction l generalizing i with
  | nil => simp [endsAux]
  | cons g l ih =>
    cases l with
    | nil => simp only [endsAux]; split <;> simp
    | cons h t => simp only [endsAux]; have := ih (i + 1); simp only [List.length_cons] at *; split <;> omega

theorem ends13 (l : List Glyph) (hl : l.length ≤ 1048576) : PCall Try.prog 13 [glyphs l] (.d (.int .i64 (ends l))) := by
  refine fn13.pure noHint (Nat.le_refl _) (by simp only [go_sem, glyphs]) (by simp only [go_sem]) ?_
  have he := firstEnd_ends l l.length 0 (by omega) (by omega)
  have hb : -1 ≤ firstEnd l l.length 0 ∧ firstEnd l l.length 0 < l.length + 1 := by
    have : ∀ n k, k + n ≤ l.length → -1 ≤ firstEnd l n k ∧ firstEnd l n k < l.length + 1 := by
      intro n
      induction n with
      | zero => intro k hk; simp only [firstEnd]; omega
      | succ n ih => intro k hk; simp only [firstEnd]; split; omega; exact ih (k + 1) (by omega)
    exact this _ _ (by omega)
  simp (disch := omega) only [go_sem, reduceIte, reduceDIte, reduceCtorEq, Nat.reduceBEq, Nat.reduceEqDiff, Nat.reduceAdd, Nat.reduceSub, Nat.reduceMul, Nat.reduceLT, Nat.reduceLeDiff, Nat.reduceBNe, Int.reduceNeg, Int.reduceAdd, Int.reduceSub, Int.reduceMul, Int.reduceLT, Int.reduceLE, Int.reduceGT, Int.reduceGE, Int.reduceEq, Int.reduceNe, Int.reduceToNat, Int.reduceTMod, Int.reduceTDiv, glyphs]
  refine (first24 l hl).at ?_
  generalize firstEnd l l.length 0 = f at *
  simp (disch := omega) only [go_sem, reduceIte, reduceDIte, reduceCtorEq, Nat.reduceBEq, Nat.reduceEqDiff, Nat.reduceAdd, Nat.reduceSub, Nat.reduceMul, Nat.reduceLT, Nat.reduceLeDiff, Nat.reduceBNe, Int.reduceNeg, Int.reduceAdd, Int.reduceSub, Int.reduceMul, Int.reduceLT, Int.reduceLE, Int.reduceGT, Int.reduceGE, Int.reduceEq, Int.reduceNe, Int.reduceToNat, Int.reduceTMod, Int.reduceTDiv, glyphs]
  have e1 : (if f + 2 < (l.length : Int) then f + 2 else (l.length : Int)) = min (l.length : Int) (f + 2) := by split <;> omega
  have e2 : (if f + 1 < 1 then f + 1 else 1) = min 1 (f + 1) := by split <;> omega
  have h3 := endsAux_le l 0
  rw [e1, e2, he, List.drop_zero]
  simp (disch := omega) only [go_sem, reduceIte, reduceDIte, reduceCtorEq, Nat.reduceBEq, Nat.reduceEqDiff, Nat.reduceAdd, Nat.reduceSub, Nat.reduceMul, Nat.reduceLT, Nat.reduceLeDiff, Nat.reduceBNe, Int.reduceNeg, Int.reduceAdd, Int.reduceSub, Int.reduceMul, Int.reduceLT, Int.reduceLE, Int.reduceGT, Int.reduceGE, Int.reduceEq, Int.reduceNe, Int.reduceToNat, Int.reduceTMod, Int.reduceTDiv, ends]
end Go.Proofs.Ytoenpoefcmikgaa
