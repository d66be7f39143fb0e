/- Part of a proof about the functions of this seat. -/
import Derived.Test.YtebejiilpedlmaaGreatDoorQ31
set_option linter.unusedVariables false
set_option linter.unusedSimpArgs false
set_option maxRecDepth 100000
namespace Go.Proofs.YtebejiilpedlmaaGreatDoor
open Go Nv Pat

def chkE (n : Tree) : Int := if 120 < n.nodes then 5 else chk n
theorem check13 (n : Tree) (h : Thin n) : PCall Tryz.prog 13 [nodeA n] (.d (.int .i64 (chkE n))) := by
  refine fn13.pure noHint (Nat.le_refl _) (by simp only [go_sem, nodeA, nodeF, setD]) (by simp only [go_sem]) ?_
  simp (disch := omega) only [go_sem, reduceIte, reduceDIte, reduceCtorEq, Nat.reduceBEq, Nat.reduceEqDiff, Nat.reduceAdd, Nat.reduceSub, Nat.reduceMul, Nat.reduceLT, Nat.reduceLeDiff, Nat.reduceBNe, Int.reduceNeg, Int.reduceAdd, Int.reduceSub, Int.reduceMul, Int.reduceLT, Int.reduceLE, Int.reduceGT, Int.reduceGE, Int.reduceEq, Int.reduceNe, Int.reduceToNat, Int.reduceTMod, Int.reduceTDiv, nodeA, nodeF]
  refine (count25 n 120 (by omega)).at ?_
  by_cases h1 : 120 < n.nodes
  · have e : ((cnt n 120 : Nat) : Int) = 121 := by rw [cnt]; omega
    have e2 : chkE n = 5 := by rw [chkE, if_pos h1]
    simp (disch := omega) only [go_sem, reduceIte, reduceDIte, reduceCtorEq, Nat.reduceBEq, Nat.reduceEqDiff, Nat.reduceAdd, Nat.reduceSub, Nat.reduceMul, Nat.reduceLT, Nat.reduceLeDiff, Nat.reduceBNe, Int.reduceNeg, Int.reduceAdd, Int.reduceSub, Int.reduceMul, Int.reduceLT, Int.reduceLE, Int.reduceGT, Int.reduceGE, Int.reduceEq, Int.reduceNe, Int.reduceToNat, Int.reduceTMod, Int.reduceTDiv, e, e2]
  · have e : ¬ (120 : Int) < ((cnt n 120 : Nat) : Int) := by rw [cnt]; omega
    have e2 : chkE n = chk n := by rw [chkE, if_neg h1]
    simp (disch := omega) only [go_sem, reduceIte, reduceDIte, reduceCtorEq, Nat.reduceBEq, Nat.reduceEqDiff, Nat.reduceAdd, Nat.reduceSub, Nat.reduceMul, Nat.reduceLT, Nat.reduceLeDiff, Nat.reduceBNe, Int.reduceNeg, Int.reduceAdd, Int.reduceSub, Int.reduceMul, Int.reduceLT, Int.reduceLE, Int.reduceGT, Int.reduceGE, Int.reduceEq, Int.reduceNe, Int.reduceToNat, Int.reduceTMod, Int.reduceTDiv, e, e2, nodeF]
    refine (check26 n (by omega) h).at ?_
    simp (disch := omega) only [go_sem, reduceIte, reduceDIte, reduceCtorEq, Nat.reduceBEq, Nat.reduceEqDiff, Nat.reduceAdd, Nat.reduceSub, Nat.reduceMul, Nat.reduceLT, Nat.reduceLeDiff, Nat.reduceBNe, Int.reduceNeg, Int.reduceAdd, Int.reduceSub, Int.reduceMul, Int.reduceLT, Int.reduceLE, Int.reduceGT, Int.reduceGE, Int.reduceEq, Int.reduceNe, Int.reduceToNat, Int.reduceTMod, Int.reduceTDiv, e2]

def inB (c : Int) (r : Int × Int) : Bool := decide (c ≥ r.1) && decide (c ≤ r.2)
def rgA (r : Int × Int) : AV := .agg [.d (.int .i32 r.1), .d (.int .i32 r.2)]
theorem in48 (r : Int × Int) (c : Int) (b : Nat) (σ : Nv.ST) (hb : b < σ.length) (hc : stGet σ b = .box 21 [.d (.int .i32 c)]) :
    RCall Tryz.prog 48 [rgA r, .ptr b 0] σ fun v σ' => v = .d (.bool (inB c r)) ∧ ∃ τ, σ' = σ ++ τ := by
  refine fn48.rel noHint (Nat.le_refl _) ?_
  have hc' : stGet (σ ++ [.box 44 [.d (.int .i32 r.1), .d (.int .i32 r.2)]]) b = .box 21 [.d (.int .i32 c)] := by rw [stGet_left _ _ _ hb, hc]
  simp (disch := omega) only [go_sem, reduceIte, reduceDIte, reduceCtorEq, Nat.reduceBEq, Nat.reduceEqDiff, Nat.reduceAdd, Nat.reduceSub, Nat.reduceMul, Nat.reduceLT, Nat.reduceLeDiff, Nat.reduceBNe, Int.reduceNeg, Int.reduceAdd, Int.reduceSub, Int.reduceMul, Int.reduceLT, Int.reduceLE, Int.reduceGT, Int.reduceGE, Int.reduceEq, Int.reduceNe, Int.reduceToNat, Int.reduceTMod, Int.reduceTDiv, rgA, hc']
  by_cases h : c ≥ r.1
  · simp (disch := omega) only [go_sem, reduceIte, reduceDIte, reduceCtorEq, Nat.reduceBEq, Nat.reduceEqDiff, Nat.reduceAdd, Nat.reduceSub, Nat.reduceMul, Nat.reduceLT, Nat.reduceLeDiff, Nat.reduceBNe, Int.reduceNeg, Int.reduceAdd, Int.reduceSub, Int.reduceMul, Int.reduceLT, Int.reduceLE, Int.reduceGT, Int.reduceGE, Int.reduceEq, Int.reduceNe, Int.reduceToNat, Int.reduceTMod, Int.reduceTDiv, h, hc', inB]
    exact ⟨_, rfl, rfl, _, rfl⟩
  · simp (disch := omega) only [go_sem, reduceIte, reduceDIte, reduceCtorEq, Nat.reduceBEq, Nat.reduceEqDiff, Nat.reduceAdd, Nat.reduceSub, Nat.reduceMul, Nat.reduceLT, Nat.reduceLeDiff, Nat.reduceBNe, Int.reduceNeg, Int.reduceAdd, Int.reduceSub, Int.reduceMul, Int.reduceLT, Int.reduceLE, Int.reduceGT, Int.reduceGE, Int.reduceEq, Int.reduceNe, Int.reduceToNat, Int.reduceTMod, Int.reduceTDiv, h, hc', inB]
    exact ⟨_, rfl, rfl, _, rfl⟩

def inS (s : List (Int × Int)) (c : Int) : Bool := s.any (inB c)

theorem index68 (s : List (Int × Int)) (hs : s.length ≤ 1000000) (c : Int) (b : Nat) (σ : Nv.ST) (hb : b < σ.length) (hc : stGet σ b = .box 21 [.d (.int .i32 c)]) :
    RCall Tryz.prog 68 [.d (setD s), .func (.func 48) [] [.ptr b 0]] σ fun v σ' => (∃ z : Int, v = .d (.int .i64 z) ∧ decide (z ≥ 0) = inS s c) ∧ ∃ τ, σ' = σ ++ τ := by
  refine fn68.rel noHint (Nat.le_refl _) ?_
  simp (disch := omega) only [go_sem, reduceIte, reduceDIte, reduceCtorEq, Nat.reduceBEq, Nat.reduceEqDiff, Nat.reduceAdd, Nat.reduceSub, Nat.reduceMul, Nat.reduceLT, Nat.reduceLeDiff, Nat.reduceBNe, Int.reduceNeg, Int.reduceAdd, Int.reduceSub, Int.reduceMul, Int.reduceLT, Int.reduceLE, Int.reduceGT, Int.reduceGE, Int.reduceEq, Int.reduceNe, Int.reduceToNat, Int.reduceTMod, Int.reduceTDiv, setD]
  refine wL_ind (fun (k : Nat) fr σ' => k ≤ s.length ∧ fr 0 = .d (.list 2 (s.map rgD)) ∧ fr 1 = .func (.func 48) [] [.ptr b 0] ∧ fr 7 = .d (.int .i64 s.length) ∧ fr 8 = .d (.int .i64 k) ∧ (∃ τ, σ' = σ ++ τ) ∧ inS (s.drop k) c = inS s c) (fun k => s.length - k) ?_ 0 ?_
  · rintro k fr σ' ⟨hk, f0, f1, f7, f8, ⟨τ, rfl⟩, hi⟩ ih
    by_cases hlt : k < s.length
    · obtain ⟨r, hr⟩ : ∃ r, r = s.getD k default := ⟨_, rfl⟩
      have hd : s.drop k = r :: s.drop (k + 1) := by rw [hr]; exact drop_getD s k hlt
      rw [hd] at hi
      simp (disch := omega) only [go_sem, reduceIte, reduceDIte, reduceCtorEq, Nat.reduceBEq, Nat.reduceEqDiff, Nat.reduceAdd, Nat.reduceSub, Nat.reduceMul, Nat.reduceLT, Nat.reduceLeDiff, Nat.reduceBNe, Int.reduceNeg, Int.reduceAdd, Int.reduceSub, Int.reduceMul, Int.reduceLT, Int.reduceLE, Int.reduceGT, Int.reduceGE, Int.reduceEq, Int.reduceNe, Int.reduceToNat, Int.reduceTMod, Int.reduceTDiv, f0, f1, f7, f8, hlt, rgD, ← hr]
      refine (in48 r c b (σ ++ τ) (by rw [List.length_append]; omega) (by rw [stGet_left _ _ _ hb, hc])).at ?_
      rintro v σ' ⟨rfl, τ', rfl⟩
      by_cases h : inB c r = true
      · have e : inS s c = true := by rw [← hi]; simp [inS, h]
        simp (disch := omega) only [go_sem, reduceIte, reduceDIte, reduceCtorEq, Nat.reduceBEq, Nat.reduceEqDiff, Nat.reduceAdd, Nat.reduceSub, Nat.reduceMul, Nat.reduceLT, Nat.reduceLeDiff, Nat.reduceBNe, Int.reduceNeg, Int.reduceAdd, Int.reduceSub, Int.reduceMul, Int.reduceLT, Int.reduceLE, Int.reduceGT, Int.reduceGE, Int.reduceEq, Int.reduceNe, Int.reduceToNat, Int.reduceTMod, Int.reduceTDiv, h]
        refine ⟨_, rfl, ⟨_, rfl, ?_⟩, τ ++ τ', by rw [List.append_assoc]⟩
        rw [e]; simp
      · have e : inS (s.drop (k + 1)) c = inS s c := by rw [← hi]; simp [inS, h]
        simp (disch := omega) only [go_sem, reduceIte, reduceDIte, reduceCtorEq, Nat.reduceBEq, Nat.reduceEqDiff, Nat.reduceAdd, Nat.reduceSub, Nat.reduceMul, Nat.reduceLT, Nat.reduceLeDiff, Nat.reduceBNe, Int.reduceNeg, Int.reduceAdd, Int.reduceSub, Int.reduceMul, Int.reduceLT, Int.reduceLE, Int.reduceGT, Int.reduceGE, Int.reduceEq, Int.reduceNe, Int.reduceToNat, Int.reduceTMod, Int.reduceTDiv, h, f8]
        refine ih (k + 1) _ _ (by omega) ⟨by omega, ?_, ?_, ?_, ?_, ⟨τ ++ τ', by rw [List.append_assoc]⟩, e⟩
        · simp (disch := omega) only [go_sem, reduceIte, reduceDIte, reduceCtorEq, Nat.reduceBEq, Nat.reduceEqDiff, Nat.reduceAdd, Nat.reduceSub, Nat.reduceMul, Nat.reduceLT, Nat.reduceLeDiff, Nat.reduceBNe, Int.reduceNeg, Int.reduceAdd, Int.reduceSub, Int.reduceMul, Int.reduceLT, Int.reduceLE, Int.reduceGT, Int.reduceGE, Int.reduceEq, Int.reduceNe, Int.reduceToNat, Int.reduceTMod, Int.reduceTDiv, f0]
        · simp (disch := omega) only [go_sem, reduceIte, reduceDIte, reduceCtorEq, Nat.reduceBEq, Nat.reduceEqDiff, Nat.reduceAdd, Nat.reduceSub, Nat.reduceMul, Nat.reduceLT, Nat.reduceLeDiff, Nat.reduceBNe, Int.reduceNeg, Int.reduceAdd, Int.reduceSub, Int.reduceMul, Int.reduceLT, Int.reduceLE, Int.reduceGT, Int.reduceGE, Int.reduceEq, Int.reduceNe, Int.reduceToNat, Int.reduceTMod, Int.reduceTDiv, f1]
        · simp (disch := omega) only [go_sem, reduceIte, reduceDIte, reduceCtorEq, Nat.reduceBEq, Nat.reduceEqDiff, Nat.reduceAdd, Nat.reduceSub, Nat.reduceMul, Nat.reduceLT, Nat.reduceLeDiff, Nat.reduceBNe, Int.reduceNeg, Int.reduceAdd, Int.reduceSub, Int.reduceMul, Int.reduceLT, Int.reduceLE, Int.reduceGT, Int.reduceGE, Int.reduceEq, Int.reduceNe, Int.reduceToNat, Int.reduceTMod, Int.reduceTDiv, f7]
        · simp (disch := omega) only [go_sem, reduceIte, reduceDIte, reduceCtorEq, Nat.reduceBEq, Nat.reduceEqDiff, Nat.reduceAdd, Nat.reduceSub, Nat.reduceMul, Nat.reduceLT, Nat.reduceLeDiff, Nat.reduceBNe, Int.reduceNeg, Int.reduceAdd, Int.reduceSub, Int.reduceMul, Int.reduceLT, Int.reduceLE, Int.reduceGT, Int.reduceGE, Int.reduceEq, Int.reduceNe, Int.reduceToNat, Int.reduceTMod, Int.reduceTDiv]
    · rw [List.drop_of_length_le (by omega)] at hi
      simp (disch := omega) only [go_sem, reduceIte, reduceDIte, reduceCtorEq, Nat.reduceBEq, Nat.reduceEqDiff, Nat.reduceAdd, Nat.reduceSub, Nat.reduceMul, Nat.reduceLT, Nat.reduceLeDiff, Nat.reduceBNe, Int.reduceNeg, Int.reduceAdd, Int.reduceSub, Int.reduceMul, Int.reduceLT, Int.reduceLE, Int.reduceGT, Int.reduceGE, Int.reduceEq, Int.reduceNe, Int.reduceToNat, Int.reduceTMod, Int.reduceTDiv, f0, f1, f7, f8, hlt]
      exact ⟨_, rfl, ⟨_, rfl, by rw [← hi]; rfl⟩, τ, rfl⟩
  · refine ⟨by omega, ?_, ?_, ?_, ?_, ⟨[], by simp⟩, rfl⟩
    · simp (disch := omega) only [go_sem, reduceIte, reduceDIte, reduceCtorEq, Nat.reduceBEq, Nat.reduceEqDiff, Nat.reduceAdd, Nat.reduceSub, Nat.reduceMul, Nat.reduceLT, Nat.reduceLeDiff, Nat.reduceBNe, Int.reduceNeg, Int.reduceAdd, Int.reduceSub, Int.reduceMul, Int.reduceLT, Int.reduceLE, Int.reduceGT, Int.reduceGE, Int.reduceEq, Int.reduceNe, Int.reduceToNat, Int.reduceTMod, Int.reduceTDiv]
    · simp (disch := omega) only [go_sem, reduceIte, reduceDIte, reduceCtorEq, Nat.reduceBEq, Nat.reduceEqDiff, Nat.reduceAdd, Nat.reduceSub, Nat.reduceMul, Nat.reduceLT, Nat.reduceLeDiff, Nat.reduceBNe, Int.reduceNeg, Int.reduceAdd, Int.reduceSub, Int.reduceMul, Int.reduceLT, Int.reduceLE, Int.reduceGT, Int.reduceGE, Int.reduceEq, Int.reduceNe, Int.reduceToNat, Int.reduceTMod, Int.reduceTDiv]
    · simp (disch := omega) only [go_sem, reduceIte, reduceDIte, reduceCtorEq, Nat.reduceBEq, Nat.reduceEqDiff, Nat.reduceAdd, Nat.reduceSub, Nat.reduceMul, Nat.reduceLT, Nat.reduceLeDiff, Nat.reduceBNe, Int.reduceNeg, Int.reduceAdd, Int.reduceSub, Int.reduceMul, Int.reduceLT, Int.reduceLE, Int.reduceGT, Int.reduceGE, Int.reduceEq, Int.reduceNe, Int.reduceToNat, Int.reduceTMod, Int.reduceTDiv]
    · simp (disch := omega) only [go_sem, reduceIte, reduceDIte, reduceCtorEq, Nat.reduceBEq, Nat.reduceEqDiff, Nat.reduceAdd, Nat.reduceSub, Nat.reduceMul, Nat.reduceLT, Nat.reduceLeDiff, Nat.reduceBNe, Int.reduceNeg, Int.reduceAdd, Int.reduceSub, Int.reduceMul, Int.reduceLT, Int.reduceLE, Int.reduceGT, Int.reduceGE, Int.reduceEq, Int.reduceNe, Int.reduceToNat, Int.reduceTMod, Int.reduceTDiv]

theorem contains47 (s : List (Int × Int)) (hs : s.length ≤ 1000000) (c : Int) (b : Nat) (σ : Nv.ST) (hb : b < σ.length) (hc : stGet σ b = .box 21 [.d (.int .i32 c)]) :
    RCall Tryz.prog 47 [.d (setD s), .func (.func 48) [] [.ptr b 0]] σ fun v σ' => v = .d (.bool (inS s c)) ∧ ∃ τ, σ' = σ ++ τ := by
  refine fn47.rel noHint (Nat.le_refl _) ?_
  simp (disch := omega) only [go_sem, reduceIte, reduceDIte, reduceCtorEq, Nat.reduceBEq, Nat.reduceEqDiff, Nat.reduceAdd, Nat.reduceSub, Nat.reduceMul, Nat.reduceLT, Nat.reduceLeDiff, Nat.reduceBNe, Int.reduceNeg, Int.reduceAdd, Int.reduceSub, Int.reduceMul, Int.reduceLT, Int.reduceLE, Int.reduceGT, Int.reduceGE, Int.reduceEq, Int.reduceNe, Int.reduceToNat, Int.reduceTMod, Int.reduceTDiv]
  refine (index68 s hs c b σ hb hc).at ?_
  rintro v σ' ⟨⟨z, rfl, hz⟩, τ, rfl⟩
  simp (disch := omega) only [go_sem, reduceIte, reduceDIte, reduceCtorEq, Nat.reduceBEq, Nat.reduceEqDiff, Nat.reduceAdd, Nat.reduceSub, Nat.reduceMul, Nat.reduceLT, Nat.reduceLeDiff, Nat.reduceBNe, Int.reduceNeg, Int.reduceAdd, Int.reduceSub, Int.reduceMul, Int.reduceLT, Int.reduceLE, Int.reduceGT, Int.reduceGE, Int.reduceEq, Int.reduceNe, Int.reduceToNat, Int.reduceTMod, Int.reduceTDiv, hz]
  exact ⟨_, rfl, rfl, _, rfl⟩
end Go.Proofs.YtebejiilpedlmaaGreatDoor
