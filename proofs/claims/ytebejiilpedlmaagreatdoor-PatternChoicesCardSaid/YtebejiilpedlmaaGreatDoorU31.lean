/- Part of a proof about the functions of this seat. -/
import Derived.Test.YtebejiilpedlmaaGreatDoorT31
set_option linter.unusedVariables false
set_option linter.unusedSimpArgs false
set_option maxRecDepth 100000
namespace Go.Proofs.YtebejiilpedlmaaGreatDoor
open Go Nv Pat

structure Sq where
  value : Int
  missing : Int
  low : Int
  high : Int
  deriving Inhabited
def Sq.avs (s : Sq) : List AV := [.d (.int .i32 s.value), .d (.int .i64 s.missing), .d (.int .u8 s.low), .d (.int .u8 s.high)]
def Sq.av (s : Sq) : AV := .agg s.avs

def m8 (b m : Int) : Int := ((BitVec.ofInt 8 b &&& BitVec.ofInt 8 m).toNat : Int)
def beginM (b : Int) : Sq :=
  if 194 ≤ b ∧ b ≤ 223 then ⟨m8 b 31, 1, 128, 191⟩
  else if 224 ≤ b ∧ b ≤ 239 then ⟨m8 b 15, 2, if b = 224 then 160 else 128, if b = 237 then 159 else 191⟩
  else if 240 ≤ b ∧ b ≤ 244 then ⟨m8 b 7, 3, if b = 240 then 144 else 128, if b = 244 then 143 else 191⟩
  else ⟨0, 0, 128, 191⟩

theorem begin46 (b : Int) : PCall Tryz.prog 46 [.d (.int .u8 b)] (beginM b).av := by
  refine fn46.pure noHint (Nat.le_refl _) (by simp only [go_sem]) (by simp only [go_sem, Sq.av, Sq.avs]) ?_
  simp (disch := omega) only [go_sem, reduceIte, reduceDIte, reduceCtorEq, Nat.reduceBEq, Nat.reduceEqDiff, Nat.reduceAdd, Nat.reduceSub, Nat.reduceMul, Nat.reduceLT, Nat.reduceLeDiff, Nat.reduceBNe, Int.reduceNeg, Int.reduceAdd, Int.reduceSub, Int.reduceMul, Int.reduceLT, Int.reduceLE, Int.reduceGT, Int.reduceGE, Int.reduceEq, Int.reduceNe, Int.reduceToNat, Int.reduceTMod, Int.reduceTDiv]
  have n224 : b < 224 → ¬ b = 224 ∧ ¬ b = 237 ∧ ¬ b = 240 ∧ ¬ b = 244 := fun _ => by omega
  by_cases h1 : 194 ≤ b ∧ b ≤ 223
  · have e : beginM b = ⟨m8 b 31, 1, 128, 191⟩ := if_pos h1
    have h1a : b ≥ 194 := h1.1
    have h1b := h1.2
    obtain ⟨q1, q2, q3, q4⟩ := n224 (by omega)
    simp (disch := omega) only [go_sem, reduceIte, reduceDIte, reduceCtorEq, Nat.reduceBEq, Nat.reduceEqDiff, Nat.reduceAdd, Nat.reduceSub, Nat.reduceMul, Nat.reduceLT, Nat.reduceLeDiff, Nat.reduceBNe, Int.reduceNeg, Int.reduceAdd, Int.reduceSub, Int.reduceMul, Int.reduceLT, Int.reduceLE, Int.reduceGT, Int.reduceGE, Int.reduceEq, Int.reduceNe, Int.reduceToNat, Int.reduceTMod, Int.reduceTDiv, h1a, h1b, q1, q2, q3, q4, e, Sq.av, Sq.avs, m8]
    rfl
  by_cases h2 : 224 ≤ b ∧ b ≤ 239
  · have e : beginM b = ⟨m8 b 15, 2, if b = 224 then 160 else 128, if b = 237 then 159 else 191⟩ := by rw [beginM, if_neg h1, if_pos h2]
    have h2a : b ≥ 224 := h2.1
    have h2b := h2.2
    have h1a : b ≥ 194 := by omega
    have h1b : ¬ b ≤ 223 := by omega
    have q3 : ¬ b = 240 := by omega
    have q4 : ¬ b = 244 := by omega
    by_cases q1 : b = 224
    · have q2 : ¬ b = 237 := by omega
      rw [if_pos q1, if_neg q2] at e
      simp (disch := omega) only [go_sem, reduceIte, reduceDIte, reduceCtorEq, Nat.reduceBEq, Nat.reduceEqDiff, Nat.reduceAdd, Nat.reduceSub, Nat.reduceMul, Nat.reduceLT, Nat.reduceLeDiff, Nat.reduceBNe, Int.reduceNeg, Int.reduceAdd, Int.reduceSub, Int.reduceMul, Int.reduceLT, Int.reduceLE, Int.reduceGT, Int.reduceGE, Int.reduceEq, Int.reduceNe, Int.reduceToNat, Int.reduceTMod, Int.reduceTDiv, h1a, h1b, h2a, h2b, e, Sq.av, Sq.avs, m8]
      simp (disch := omega) only [go_sem, reduceIte, reduceDIte, reduceCtorEq, Nat.reduceBEq, Nat.reduceEqDiff, Nat.reduceAdd, Nat.reduceSub, Nat.reduceMul, Nat.reduceLT, Nat.reduceLeDiff, Nat.reduceBNe, Int.reduceNeg, Int.reduceAdd, Int.reduceSub, Int.reduceMul, Int.reduceLT, Int.reduceLE, Int.reduceGT, Int.reduceGE, Int.reduceEq, Int.reduceNe, Int.reduceToNat, Int.reduceTMod, Int.reduceTDiv, q1]
      rfl
    · by_cases q2 : b = 237
      · rw [if_neg q1, if_pos q2] at e
        simp (disch := omega) only [go_sem, reduceIte, reduceDIte, reduceCtorEq, Nat.reduceBEq, Nat.reduceEqDiff, Nat.reduceAdd, Nat.reduceSub, Nat.reduceMul, Nat.reduceLT, Nat.reduceLeDiff, Nat.reduceBNe, Int.reduceNeg, Int.reduceAdd, Int.reduceSub, Int.reduceMul, Int.reduceLT, Int.reduceLE, Int.reduceGT, Int.reduceGE, Int.reduceEq, Int.reduceNe, Int.reduceToNat, Int.reduceTMod, Int.reduceTDiv, h1a, h1b, h2a, h2b, e, Sq.av, Sq.avs, m8]
        simp (disch := omega) only [go_sem, reduceIte, reduceDIte, reduceCtorEq, Nat.reduceBEq, Nat.reduceEqDiff, Nat.reduceAdd, Nat.reduceSub, Nat.reduceMul, Nat.reduceLT, Nat.reduceLeDiff, Nat.reduceBNe, Int.reduceNeg, Int.reduceAdd, Int.reduceSub, Int.reduceMul, Int.reduceLT, Int.reduceLE, Int.reduceGT, Int.reduceGE, Int.reduceEq, Int.reduceNe, Int.reduceToNat, Int.reduceTMod, Int.reduceTDiv, q1]
        simp (disch := omega) only [go_sem, reduceIte, reduceDIte, reduceCtorEq, Nat.reduceBEq, Nat.reduceEqDiff, Nat.reduceAdd, Nat.reduceSub, Nat.reduceMul, Nat.reduceLT, Nat.reduceLeDiff, Nat.reduceBNe, Int.reduceNeg, Int.reduceAdd, Int.reduceSub, Int.reduceMul, Int.reduceLT, Int.reduceLE, Int.reduceGT, Int.reduceGE, Int.reduceEq, Int.reduceNe, Int.reduceToNat, Int.reduceTMod, Int.reduceTDiv, q2]
        rfl
      · rw [if_neg q1, if_neg q2] at e
        simp (disch := omega) only [go_sem, reduceIte, reduceDIte, reduceCtorEq, Nat.reduceBEq, Nat.reduceEqDiff, Nat.reduceAdd, Nat.reduceSub, Nat.reduceMul, Nat.reduceLT, Nat.reduceLeDiff, Nat.reduceBNe, Int.reduceNeg, Int.reduceAdd, Int.reduceSub, Int.reduceMul, Int.reduceLT, Int.reduceLE, Int.reduceGT, Int.reduceGE, Int.reduceEq, Int.reduceNe, Int.reduceToNat, Int.reduceTMod, Int.reduceTDiv, h1a, h1b, h2a, h2b, e, Sq.av, Sq.avs, m8, q1, q2, q3, q4]
        rfl
  by_cases h3 : 240 ≤ b ∧ b ≤ 244
  · have e : beginM b = ⟨m8 b 7, 3, if b = 240 then 144 else 128, if b = 244 then 143 else 191⟩ := by rw [beginM, if_neg h1, if_neg h2, if_pos h3]
    have h3a : b ≥ 240 := h3.1
    have h3b := h3.2
    have h1a : b ≥ 194 := by omega
    have h1b : ¬ b ≤ 223 := by omega
    have h2a : b ≥ 224 := by omega
    have h2b : ¬ b ≤ 239 := by omega
    have q1 : ¬ b = 224 := by omega
    have q2 : ¬ b = 237 := by omega
    by_cases q3 : b = 240
    · have q4 : ¬ b = 244 := by omega
      rw [if_pos q3, if_neg q4] at e
      simp (disch := omega) only [go_sem, reduceIte, reduceDIte, reduceCtorEq, Nat.reduceBEq, Nat.reduceEqDiff, Nat.reduceAdd, Nat.reduceSub, Nat.reduceMul, Nat.reduceLT, Nat.reduceLeDiff, Nat.reduceBNe, Int.reduceNeg, Int.reduceAdd, Int.reduceSub, Int.reduceMul, Int.reduceLT, Int.reduceLE, Int.reduceGT, Int.reduceGE, Int.reduceEq, Int.reduceNe, Int.reduceToNat, Int.reduceTMod, Int.reduceTDiv, h1a, h1b, h2a, h2b, h3a, h3b, e, Sq.av, Sq.avs, m8, q1, q2]
      simp (disch := omega) only [go_sem, reduceIte, reduceDIte, reduceCtorEq, Nat.reduceBEq, Nat.reduceEqDiff, Nat.reduceAdd, Nat.reduceSub, Nat.reduceMul, Nat.reduceLT, Nat.reduceLeDiff, Nat.reduceBNe, Int.reduceNeg, Int.reduceAdd, Int.reduceSub, Int.reduceMul, Int.reduceLT, Int.reduceLE, Int.reduceGT, Int.reduceGE, Int.reduceEq, Int.reduceNe, Int.reduceToNat, Int.reduceTMod, Int.reduceTDiv, q3]
      rfl
    · by_cases q4 : b = 244
      · rw [if_neg q3, if_pos q4] at e
        simp (disch := omega) only [go_sem, reduceIte, reduceDIte, reduceCtorEq, Nat.reduceBEq, Nat.reduceEqDiff, Nat.reduceAdd, Nat.reduceSub, Nat.reduceMul, Nat.reduceLT, Nat.reduceLeDiff, Nat.reduceBNe, Int.reduceNeg, Int.reduceAdd, Int.reduceSub, Int.reduceMul, Int.reduceLT, Int.reduceLE, Int.reduceGT, Int.reduceGE, Int.reduceEq, Int.reduceNe, Int.reduceToNat, Int.reduceTMod, Int.reduceTDiv, h1a, h1b, h2a, h2b, h3a, h3b, e, Sq.av, Sq.avs, m8, q1, q2, q3]
        simp (disch := omega) only [go_sem, reduceIte, reduceDIte, reduceCtorEq, Nat.reduceBEq, Nat.reduceEqDiff, Nat.reduceAdd, Nat.reduceSub, Nat.reduceMul, Nat.reduceLT, Nat.reduceLeDiff, Nat.reduceBNe, Int.reduceNeg, Int.reduceAdd, Int.reduceSub, Int.reduceMul, Int.reduceLT, Int.reduceLE, Int.reduceGT, Int.reduceGE, Int.reduceEq, Int.reduceNe, Int.reduceToNat, Int.reduceTMod, Int.reduceTDiv, q4]
        rfl
      · rw [if_neg q3, if_neg q4] at e
        simp (disch := omega) only [go_sem, reduceIte, reduceDIte, reduceCtorEq, Nat.reduceBEq, Nat.reduceEqDiff, Nat.reduceAdd, Nat.reduceSub, Nat.reduceMul, Nat.reduceLT, Nat.reduceLeDiff, Nat.reduceBNe, Int.reduceNeg, Int.reduceAdd, Int.reduceSub, Int.reduceMul, Int.reduceLT, Int.reduceLE, Int.reduceGT, Int.reduceGE, Int.reduceEq, Int.reduceNe, Int.reduceToNat, Int.reduceTMod, Int.reduceTDiv, h1a, h1b, h2a, h2b, h3a, h3b, e, Sq.av, Sq.avs, m8, q1, q2, q3, q4]
        rfl
  · have e : beginM b = ⟨0, 0, 128, 191⟩ := by rw [beginM, if_neg h1, if_neg h2, if_neg h3]
    have q1 : ¬ b = 224 := by omega
    have q2 : ¬ b = 237 := by omega
    have q3 : ¬ b = 240 := by omega
    have q4 : ¬ b = 244 := by omega
    by_cases h1a : b ≥ 194
    · have h1b : ¬ b ≤ 223 := by omega
      have h2a : b ≥ 224 := by omega
      have h2b : ¬ b ≤ 239 := by omega
      have h3a : b ≥ 240 := by omega
      have h3b : ¬ b ≤ 244 := by omega
      simp (disch := omega) only [go_sem, reduceIte, reduceDIte, reduceCtorEq, Nat.reduceBEq, Nat.reduceEqDiff, Nat.reduceAdd, Nat.reduceSub, Nat.reduceMul, Nat.reduceLT, Nat.reduceLeDiff, Nat.reduceBNe, Int.reduceNeg, Int.reduceAdd, Int.reduceSub, Int.reduceMul, Int.reduceLT, Int.reduceLE, Int.reduceGT, Int.reduceGE, Int.reduceEq, Int.reduceNe, Int.reduceToNat, Int.reduceTMod, Int.reduceTDiv, h1a, h1b, h2a, h2b, h3a, h3b, e, Sq.av, Sq.avs, q1, q2, q3, q4]
    · have h2a : ¬ b ≥ 224 := by omega
      have h3a : ¬ b ≥ 240 := by omega
      simp (disch := omega) only [go_sem, reduceIte, reduceDIte, reduceCtorEq, Nat.reduceBEq, Nat.reduceEqDiff, Nat.reduceAdd, Nat.reduceSub, Nat.reduceMul, Nat.reduceLT, Nat.reduceLeDiff, Nat.reduceBNe, Int.reduceNeg, Int.reduceAdd, Int.reduceSub, Int.reduceMul, Int.reduceLT, Int.reduceLE, Int.reduceGT, Int.reduceGE, Int.reduceEq, Int.reduceNe, Int.reduceToNat, Int.reduceTMod, Int.reduceTDiv, h1a, h2a, h3a, e, Sq.av, Sq.avs, q1, q2, q3, q4]
end Go.Proofs.YtebejiilpedlmaaGreatDoor
