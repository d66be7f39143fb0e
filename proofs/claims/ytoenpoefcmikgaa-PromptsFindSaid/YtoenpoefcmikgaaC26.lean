/- Part of a proof about the functions of this seat. -/
import Derived.Test.YtoenpoefcmikgaaB26
set_option linter.unusedVariables false
set_option linter.unusedSimpArgs false
set_option maxRecDepth 100000
namespace Go.Proofs.Ytoenpoefcmikgaa
open Go Nv

@[go_sem] theorem liesB53 : liesB Try.prog 53 2 0 53 = true := nrfl (by kernel_rfl)

def bD (s : List UInt8) : List DV := s.map fun b => .int .u8 (b.toNat : Nat)

theorem check39a (buf : AV) (rest : ST) : SCall Try.prog 39 [.ptr 0 0] (.box 53 [.d .nilptr, buf] :: rest) (.tuple []) (.box 53 [.ptr 0 0, buf] :: rest) := by
  refine fn39.st noHint (Nat.le_refl _) ?_
  simp (disch := omega) only [go_sem, reduceIte, reduceDIte, reduceCtorEq, Nat.reduceBEq, Nat.reduceEqDiff, Nat.reduceAdd, Nat.reduceSub, Nat.reduceMul, Nat.reduceLT, Nat.reduceLeDiff, Nat.reduceBNe, Int.reduceNeg, Int.reduceAdd, Int.reduceSub, Int.reduceMul, Int.reduceLT, Int.reduceLE, Int.reduceGT, Int.reduceGE, Int.reduceEq, Int.reduceNe, Int.reduceToNat, Int.reduceTMod, Int.reduceTDiv]

theorem check39b (buf : AV) (rest : ST) : SCall Try.prog 39 [.ptr 0 0] (.box 53 [.ptr 0 0, buf] :: rest) (.tuple []) (.box 53 [.ptr 0 0, buf] :: rest) := by
  refine fn39.st noHint (Nat.le_refl _) ?_
  simp (disch := omega) only [go_sem, reduceIte, reduceDIte, reduceCtorEq, Nat.reduceBEq, Nat.reduceEqDiff, Nat.reduceAdd, Nat.reduceSub, Nat.reduceMul, Nat.reduceLT, Nat.reduceLeDiff, Nat.reduceBNe, Int.reduceNeg, Int.reduceAdd, Int.reduceSub, Int.reduceMul, Int.reduceLT, Int.reduceLE, Int.reduceGT, Int.reduceGE, Int.reduceEq, Int.reduceNe, Int.reduceToNat, Int.reduceTMod, Int.reduceTDiv]

theorem write35a (s : List UInt8) (hs : s.length ≤ 1048576) (rest : ST) : SCall Try.prog 35 [.ptr 0 0, .d (.str s)] (.box 53 [.d .nilptr, .d .nilslice] :: rest) (.tuple [.d (.int .i64 s.length), .d .niliface])
    (.box 53 [.ptr 0 0, .own (rest.length + 1) 0 0 s.length] :: (rest ++ [.arr 0 ⟨1, 5⟩ (bD s)])) := by
  refine fn35.st noHint (Nat.le_refl _) ?_
  simp (disch := omega) only [go_sem, reduceIte, reduceDIte, reduceCtorEq, Nat.reduceBEq, Nat.reduceEqDiff, Nat.reduceAdd, Nat.reduceSub, Nat.reduceMul, Nat.reduceLT, Nat.reduceLeDiff, Nat.reduceBNe, Int.reduceNeg, Int.reduceAdd, Int.reduceSub, Int.reduceMul, Int.reduceLT, Int.reduceLE, Int.reduceGT, Int.reduceGE, Int.reduceEq, Int.reduceNe, Int.reduceToNat, Int.reduceTMod, Int.reduceTDiv]
  refine (check39a _ _).at ?_
  have e : (0 + s.length) * 1 ≤ 140737488355328 := by omega
  simp (disch := omega) only [go_sem, reduceIte, reduceDIte, reduceCtorEq, Nat.reduceBEq, Nat.reduceEqDiff, Nat.reduceAdd, Nat.reduceSub, Nat.reduceMul, Nat.reduceLT, Nat.reduceLeDiff, Nat.reduceBNe, Int.reduceNeg, Int.reduceAdd, Int.reduceSub, Int.reduceMul, Int.reduceLT, Int.reduceLE, Int.reduceGT, Int.reduceGE, Int.reduceEq, Int.reduceNe, Int.reduceToNat, Int.reduceTMod, Int.reduceTDiv, bD, e]

theorem write35b (s : List UInt8) (g n : Nat) (x : Blk) (bs : List DV) (hs : s.length ≤ 1048576) (hb : bs.length ≤ 1048576) (hn : n = bs.length) (rest : ST) :
    SCall Try.prog 35 [.ptr 0 0, .d (.str s)] (.box 53 [.ptr 0 0, .own 2 g 0 n] :: x :: .arr g ⟨1, 5⟩ bs :: rest) (.tuple [.d (.int .i64 s.length), .d .niliface])
    (.box 53 [.ptr 0 0, .own 2 (g + 1) 0 (n + s.length)] :: x :: .arr (g + 1) ⟨1, 5⟩ (bs ++ bD s) :: rest) := by
  subst hn
  refine fn35.st noHint (Nat.le_refl _) ?_
  simp (disch := omega) only [go_sem, reduceIte, reduceDIte, reduceCtorEq, Nat.reduceBEq, Nat.reduceEqDiff, Nat.reduceAdd, Nat.reduceSub, Nat.reduceMul, Nat.reduceLT, Nat.reduceLeDiff, Nat.reduceBNe, Int.reduceNeg, Int.reduceAdd, Int.reduceSub, Int.reduceMul, Int.reduceLT, Int.reduceLE, Int.reduceGT, Int.reduceGE, Int.reduceEq, Int.reduceNe, Int.reduceToNat, Int.reduceTMod, Int.reduceTDiv]
  refine (check39b _ _).at ?_
  have e : (bs.length + s.length) * 1 ≤ 140737488355328 := by omega
  simp (disch := omega) only [go_sem, reduceIte, reduceDIte, reduceCtorEq, Nat.reduceBEq, Nat.reduceEqDiff, Nat.reduceAdd, Nat.reduceSub, Nat.reduceMul, Nat.reduceLT, Nat.reduceLeDiff, Nat.reduceBNe, Int.reduceNeg, Int.reduceAdd, Int.reduceSub, Int.reduceMul, Int.reduceLT, Int.reduceLE, Int.reduceGT, Int.reduceGE, Int.reduceEq, Int.reduceNe, Int.reduceToNat, Int.reduceTMod, Int.reduceTDiv, bD, e, Nat.zero_add, Nat.le_refl, List.take_length, List.length_map]

theorem str36a (rest : ST) : SCall Try.prog 36 [.ptr 0 0] (.box 53 [.d .nilptr, .d .nilslice] :: rest) (.d (.str [])) (.box 53 [.d .nilptr, .d .nilslice] :: rest) := by
  refine fn36.st noHint (Nat.le_refl _) ?_
  simp (disch := omega) only [go_sem, reduceIte, reduceDIte, reduceCtorEq, Nat.reduceBEq, Nat.reduceEqDiff, Nat.reduceAdd, Nat.reduceSub, Nat.reduceMul, Nat.reduceLT, Nat.reduceLeDiff, Nat.reduceBNe, Int.reduceNeg, Int.reduceAdd, Int.reduceSub, Int.reduceMul, Int.reduceLT, Int.reduceLE, Int.reduceGT, Int.reduceGE, Int.reduceEq, Int.reduceNe, Int.reduceToNat, Int.reduceTMod, Int.reduceTDiv]

theorem str36b (s : List UInt8) (g n : Nat) (x : Blk) (hs : s.length ≤ 1048576) (hn : n = s.length) (rest : ST) :
    ∃ σ', SCall Try.prog 36 [.ptr 0 0] (.box 53 [.ptr 0 0, .own 2 g 0 n] :: x :: .arr g ⟨1, 5⟩ (bD s) :: rest) (.d (.str s)) σ' := by
  subst hn
  by_cases h0 : s.length = 0
  · refine ⟨.box 53 [.ptr 0 0, .own 2 g 0 s.length] :: x :: .arr g ⟨1, 5⟩ (bD s) :: rest, fn36.st noHint (Nat.le_refl _) ?_⟩
    obtain rfl : s = [] := List.length_eq_zero_iff.1 h0
    have hb : Nat.beq 0 0 = true := rfl
    simp (disch := omega) only [go_sem, reduceIte, reduceDIte, reduceCtorEq, Nat.reduceBEq, Nat.reduceEqDiff, Nat.reduceAdd, Nat.reduceSub, Nat.reduceMul, Nat.reduceLT, Nat.reduceLeDiff, Nat.reduceBNe, Int.reduceNeg, Int.reduceAdd, Int.reduceSub, Int.reduceMul, Int.reduceLT, Int.reduceLE, Int.reduceGT, Int.reduceGE, Int.reduceEq, Int.reduceNe, Int.reduceToNat, Int.reduceTMod, Int.reduceTDiv, hb, List.length_nil]
  · refine ⟨.box 53 [.ptr 0 0, .own 2 g 0 s.length] :: x :: .dead :: rest, fn36.st noHint (Nat.le_refl _) ?_⟩
    have hb : Nat.beq s.length 0 = false := by
      cases h : Nat.beq s.length 0
      · rfl
      · exact absurd (Nat.eq_of_beq_eq_true h) h0
    have e1 : (bD s).length = s.length := by simp [bD]
    have e2 : List.take s.length (bD s) = bD s := by rw [← e1, List.take_length]
    have e3 : (bD s).all isB = true := by simp [bD, go_sem]
    have e4 : (bD s).map ofB = s := by
      simp only [bD, List.map_map]
      have : (ofB ∘ fun b : UInt8 => DV.int .u8 (b.toNat : Nat)) = id := by funext b; simp only [Function.comp_apply, ofB_u8, id]
      rw [this, List.map_id]
    have e5 : 0 < (s.length : Int) ∧ 0 + s.length ≤ s.length ∧ (s.length : Int) ≤ 9223372036854775807 := by omega
    simp (disch := omega) only [go_sem, reduceIte, reduceDIte, reduceCtorEq, Nat.reduceBEq, Nat.reduceEqDiff, Nat.reduceAdd, Nat.reduceSub, Nat.reduceMul, Nat.reduceLT, Nat.reduceLeDiff, Nat.reduceBNe, Int.reduceNeg, Int.reduceAdd, Int.reduceSub, Int.reduceMul, Int.reduceLT, Int.reduceLE, Int.reduceGT, Int.reduceGE, Int.reduceEq, Int.reduceNe, Int.reduceToNat, Int.reduceTMod, Int.reduceTDiv, hb, e1, e2, e3, e4, e5]

def text (l : List Glyph) : List UInt8 := l.flatMap Glyph.text

theorem text29 (l : List Glyph) (hl : l.length ≤ 1048576) (ht : (text l).length ≤ 1048576) : PCall Try.prog 29 [glyphs l] (.d (.str (text l))) := by
  refine fn29.pure noHint (Nat.le_refl _) (by simp only [go_sem, glyphs]) (by simp only [go_sem]) ?_
  have hlen : ∀ k, (text (l.take k)).length ≤ 1048576 := by
    intro k
    have : text l = text (l.take k) ++ text (l.drop k) := by rw [text, text, text, ← List.flatMap_append, List.take_append_drop]
    rw [this, List.length_append] at ht
    omega
  simp (disch := omega) only [go_sem, reduceIte, reduceDIte, reduceCtorEq, Nat.reduceBEq, Nat.reduceEqDiff, Nat.reduceAdd, Nat.reduceSub, Nat.reduceMul, Nat.reduceLT, Nat.reduceLeDiff, Nat.reduceBNe, Int.reduceNeg, Int.reduceAdd, Int.reduceSub, Int.reduceMul, Int.reduceLT, Int.reduceLE, Int.reduceGT, Int.reduceGE, Int.reduceEq, Int.reduceNe, Int.reduceToNat, Int.reduceTMod, Int.reduceTDiv, glyphs]
  refine wL_ind (fun (k : Nat) fr σ => k ≤ l.length ∧ fr 3 = .ptr 0 0 ∧ fr 6 = .d (.list 3 (l.map Glyph.dv)) ∧ fr 7 = .d (.int .i64 l.length) ∧ fr 8 = .d (.int .i64 k) ∧
      ((k = 0 ∧ σ = [.box 53 [.d .nilptr, .d .nilslice]]) ∨ ∃ g n x rest, n = (text (l.take k)).length ∧ σ = .box 53 [.ptr 0 0, .own 2 g 0 n] :: x :: .arr g ⟨1, 5⟩ (bD (text (l.take k))) :: rest)) (fun k => l.length - k) ?_ 0 ?_
  · rintro k fr σ ⟨hk, h3, h6, h7, h8, hs⟩ ih
    have h10 := hlen k
    have h11 := hlen (k + 1)
    by_cases hlt : k < l.length
    · have et : text (l.take (k + 1)) = text (l.take k) ++ (l.getD k default).text := by
        rw [List.take_succ_eq_append_getElem hlt, text, List.flatMap_append, ← text]
        simp [List.getD_eq_getElem?_getD, hlt]
      have hgl : (l.getD k default).text.length ≤ 1048576 := by rw [et, List.length_append] at h11; omega
      rcases hs with ⟨h0, rfl⟩ | ⟨g, n, x, rest, hn, rfl⟩
      · simp (disch := omega) only [go_sem, reduceIte, reduceDIte, reduceCtorEq, Nat.reduceBEq, Nat.reduceEqDiff, Nat.reduceAdd, Nat.reduceSub, Nat.reduceMul, Nat.reduceLT, Nat.reduceLeDiff, Nat.reduceBNe, Int.reduceNeg, Int.reduceAdd, Int.reduceSub, Int.reduceMul, Int.reduceLT, Int.reduceLE, Int.reduceGT, Int.reduceGE, Int.reduceEq, Int.reduceNe, Int.reduceToNat, Int.reduceTMod, Int.reduceTDiv, h3, h6, h7, h8, hlt, Glyph.dv, Glyph.cs]
        refine (write35a _ hgl _).at ?_
        simp (disch := omega) only [go_sem, reduceIte, reduceDIte, reduceCtorEq, Nat.reduceBEq, Nat.reduceEqDiff, Nat.reduceAdd, Nat.reduceSub, Nat.reduceMul, Nat.reduceLT, Nat.reduceLeDiff, Nat.reduceBNe, Int.reduceNeg, Int.reduceAdd, Int.reduceSub, Int.reduceMul, Int.reduceLT, Int.reduceLE, Int.reduceGT, Int.reduceGE, Int.reduceEq, Int.reduceNe, Int.reduceToNat, Int.reduceTMod, Int.reduceTDiv, h8]
        refine ih (k + 1) _ _ (by omega) ⟨by omega, ?_, ?_, ?_, ?_, .inr ⟨0, (l.getD k default).text.length, .box 35 [.d (.str (l.getD k default).text), .d (.bool (l.getD k default).wide), .d (.int .i64 (l.getD k default).style)], [], ?_, ?_⟩⟩
        · simp (disch := omega) only [go_sem, reduceIte, reduceDIte, reduceCtorEq, Nat.reduceBEq, Nat.reduceEqDiff, Nat.reduceAdd, Nat.reduceSub, Nat.reduceMul, Nat.reduceLT, Nat.reduceLeDiff, Nat.reduceBNe, Int.reduceNeg, Int.reduceAdd, Int.reduceSub, Int.reduceMul, Int.reduceLT, Int.reduceLE, Int.reduceGT, Int.reduceGE, Int.reduceEq, Int.reduceNe, Int.reduceToNat, Int.reduceTMod, Int.reduceTDiv, h3]
        · simp (disch := omega) only [go_sem, reduceIte, reduceDIte, reduceCtorEq, Nat.reduceBEq, Nat.reduceEqDiff, Nat.reduceAdd, Nat.reduceSub, Nat.reduceMul, Nat.reduceLT, Nat.reduceLeDiff, Nat.reduceBNe, Int.reduceNeg, Int.reduceAdd, Int.reduceSub, Int.reduceMul, Int.reduceLT, Int.reduceLE, Int.reduceGT, Int.reduceGE, Int.reduceEq, Int.reduceNe, Int.reduceToNat, Int.reduceTMod, Int.reduceTDiv, h6]
        · simp (disch := omega) only [go_sem, reduceIte, reduceDIte, reduceCtorEq, Nat.reduceBEq, Nat.reduceEqDiff, Nat.reduceAdd, Nat.reduceSub, Nat.reduceMul, Nat.reduceLT, Nat.reduceLeDiff, Nat.reduceBNe, Int.reduceNeg, Int.reduceAdd, Int.reduceSub, Int.reduceMul, Int.reduceLT, Int.reduceLE, Int.reduceGT, Int.reduceGE, Int.reduceEq, Int.reduceNe, Int.reduceToNat, Int.reduceTMod, Int.reduceTDiv, h7]
        · simp (disch := omega) only [go_sem, reduceIte, reduceDIte, reduceCtorEq, Nat.reduceBEq, Nat.reduceEqDiff, Nat.reduceAdd, Nat.reduceSub, Nat.reduceMul, Nat.reduceLT, Nat.reduceLeDiff, Nat.reduceBNe, Int.reduceNeg, Int.reduceAdd, Int.reduceSub, Int.reduceMul, Int.reduceLT, Int.reduceLE, Int.reduceGT, Int.reduceGE, Int.reduceEq, Int.reduceNe, Int.reduceToNat, Int.reduceTMod, Int.reduceTDiv]
        · rw [et, h0]; rfl
        · rw [et, h0]; rfl
      · simp (disch := omega) only [go_sem, reduceIte, reduceDIte, reduceCtorEq, Nat.reduceBEq, Nat.reduceEqDiff, Nat.reduceAdd, Nat.reduceSub, Nat.reduceMul, Nat.reduceLT, Nat.reduceLeDiff, Nat.reduceBNe, Int.reduceNeg, Int.reduceAdd, Int.reduceSub, Int.reduceMul, Int.reduceLT, Int.reduceLE, Int.reduceGT, Int.reduceGE, Int.reduceEq, Int.reduceNe, Int.reduceToNat, Int.reduceTMod, Int.reduceTDiv, h3, h6, h7, h8, hlt, Glyph.dv, Glyph.cs]
        refine (write35b _ g n _ _ hgl (by simpa [bD] using h10) (by simpa [bD] using hn) _).at ?_
        simp (disch := omega) only [go_sem, reduceIte, reduceDIte, reduceCtorEq, Nat.reduceBEq, Nat.reduceEqDiff, Nat.reduceAdd, Nat.reduceSub, Nat.reduceMul, Nat.reduceLT, Nat.reduceLeDiff, Nat.reduceBNe, Int.reduceNeg, Int.reduceAdd, Int.reduceSub, Int.reduceMul, Int.reduceLT, Int.reduceLE, Int.reduceGT, Int.reduceGE, Int.reduceEq, Int.reduceNe, Int.reduceToNat, Int.reduceTMod, Int.reduceTDiv, h8]
        refine ih (k + 1) _ _ (by omega) ⟨by omega, ?_, ?_, ?_, ?_, .inr ⟨g + 1, n + (l.getD k default).text.length, x, rest ++ [.box 35 [.d (.str (l.getD k default).text), .d (.bool (l.getD k default).wide), .d (.int .i64 (l.getD k default).style)]], ?_, ?_⟩⟩
        rotate_right 1
        · rw [et]; simp only [bD, List.map_append]
        · simp (disch := omega) only [go_sem, reduceIte, reduceDIte, reduceCtorEq, Nat.reduceBEq, Nat.reduceEqDiff, Nat.reduceAdd, Nat.reduceSub, Nat.reduceMul, Nat.reduceLT, Nat.reduceLeDiff, Nat.reduceBNe, Int.reduceNeg, Int.reduceAdd, Int.reduceSub, Int.reduceMul, Int.reduceLT, Int.reduceLE, Int.reduceGT, Int.reduceGE, Int.reduceEq, Int.reduceNe, Int.reduceToNat, Int.reduceTMod, Int.reduceTDiv, h3]
        · simp (disch := omega) only [go_sem, reduceIte, reduceDIte, reduceCtorEq, Nat.reduceBEq, Nat.reduceEqDiff, Nat.reduceAdd, Nat.reduceSub, Nat.reduceMul, Nat.reduceLT, Nat.reduceLeDiff, Nat.reduceBNe, Int.reduceNeg, Int.reduceAdd, Int.reduceSub, Int.reduceMul, Int.reduceLT, Int.reduceLE, Int.reduceGT, Int.reduceGE, Int.reduceEq, Int.reduceNe, Int.reduceToNat, Int.reduceTMod, Int.reduceTDiv, h6]
        · simp (disch := omega) only [go_sem, reduceIte, reduceDIte, reduceCtorEq, Nat.reduceBEq, Nat.reduceEqDiff, Nat.reduceAdd, Nat.reduceSub, Nat.reduceMul, Nat.reduceLT, Nat.reduceLeDiff, Nat.reduceBNe, Int.reduceNeg, Int.reduceAdd, Int.reduceSub, Int.reduceMul, Int.reduceLT, Int.reduceLE, Int.reduceGT, Int.reduceGE, Int.reduceEq, Int.reduceNe, Int.reduceToNat, Int.reduceTMod, Int.reduceTDiv, h7]
        · simp (disch := omega) only [go_sem, reduceIte, reduceDIte, reduceCtorEq, Nat.reduceBEq, Nat.reduceEqDiff, Nat.reduceAdd, Nat.reduceSub, Nat.reduceMul, Nat.reduceLT, Nat.reduceLeDiff, Nat.reduceBNe, Int.reduceNeg, Int.reduceAdd, Int.reduceSub, Int.reduceMul, Int.reduceLT, Int.reduceLE, Int.reduceGT, Int.reduceGE, Int.reduceEq, Int.reduceNe, Int.reduceToNat, Int.reduceTMod, Int.reduceTDiv]
        · rw [et, hn, List.length_append]
    · have ek : text (l.take k) = text l := by rw [List.take_of_length_le (by omega)]
      simp (disch := omega) only [go_sem, reduceIte, reduceDIte, reduceCtorEq, Nat.reduceBEq, Nat.reduceEqDiff, Nat.reduceAdd, Nat.reduceSub, Nat.reduceMul, Nat.reduceLT, Nat.reduceLeDiff, Nat.reduceBNe, Int.reduceNeg, Int.reduceAdd, Int.reduceSub, Int.reduceMul, Int.reduceLT, Int.reduceLE, Int.reduceGT, Int.reduceGE, Int.reduceEq, Int.reduceNe, Int.reduceToNat, Int.reduceTMod, Int.reduceTDiv, h7, h8, hlt, h3]
      rcases hs with ⟨h0, rfl⟩ | ⟨g, n, x, rest, hn, rfl⟩
      · refine (str36a _).at ?_
        rw [h0] at ek
        have ez : text l = [] := by rw [← ek]; rfl
        simp (disch := omega) only [go_sem, reduceIte, reduceDIte, reduceCtorEq, Nat.reduceBEq, Nat.reduceEqDiff, Nat.reduceAdd, Nat.reduceSub, Nat.reduceMul, Nat.reduceLT, Nat.reduceLeDiff, Nat.reduceBNe, Int.reduceNeg, Int.reduceAdd, Int.reduceSub, Int.reduceMul, Int.reduceLT, Int.reduceLE, Int.reduceGT, Int.reduceGE, Int.reduceEq, Int.reduceNe, Int.reduceToNat, Int.reduceTMod, Int.reduceTDiv, ez]
      · rw [ek] at hn ⊢
        obtain ⟨σ', hc⟩ := str36b (text l) g n x ht hn rest
        refine hc.at ?_
        simp (disch := omega) only [go_sem, reduceIte, reduceDIte, reduceCtorEq, Nat.reduceBEq, Nat.reduceEqDiff, Nat.reduceAdd, Nat.reduceSub, Nat.reduceMul, Nat.reduceLT, Nat.reduceLeDiff, Nat.reduceBNe, Int.reduceNeg, Int.reduceAdd, Int.reduceSub, Int.reduceMul, Int.reduceLT, Int.reduceLE, Int.reduceGT, Int.reduceGE, Int.reduceEq, Int.reduceNe, Int.reduceToNat, Int.reduceTMod, Int.reduceTDiv]
  · refine ⟨by omega, ?_, ?_, ?_, ?_, .inl ⟨rfl, rfl⟩⟩ <;> simp (disch := omega) only [go_sem, reduceIte, reduceDIte, reduceCtorEq, Nat.reduceBEq, Nat.reduceEqDiff, Nat.reduceAdd, Nat.reduceSub, Nat.reduceMul, Nat.reduceLT, Nat.reduceLeDiff, Nat.reduceBNe, Int.reduceNeg, Int.reduceAdd, Int.reduceSub, Int.reduceMul, Int.reduceLT, Int.reduceLE, Int.reduceGT, Int.reduceGE, Int.reduceEq, Int.reduceNe, Int.reduceToNat, Int.reduceTMod, Int.reduceTDiv]
end Go.Proofs.Ytoenpoefcmikgaa
