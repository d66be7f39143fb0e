/- Part of a proof about the functions of this seat. -/
import Derived.Test.YtebejiilpedlmaaGreatDoorEnc31
import Derived.Test.YtebejiilpedlmaaGreatDoorT31
import Derived.Test.YtebejiilpedlmaaGreatDoorBs31
import Derived.Test.YtebejiilpedlmaaGreatDoorEe31
import Derived.Test.YtebejiilpedlmaaGreatDoorCh31
import Derived.Test.YtebejiilpedlmaaGreatDoorPz31
import Derived.Test.YtebejiilpedlmaaGreatDoorPB31
set_option linter.unusedVariables false
set_option linter.unusedSimpArgs false
set_option maxRecDepth 100000
namespace Go.Proofs.YtebejiilpedlmaaGreatDoor
open Go Nv Pat

/- A character's bytes. -/
def bytesD (l : List UInt8) : List DV := l.map fun b => .int .u8 (b.toNat : Int)

theorem wrap_u32 {n : Int} (h1 : 0 ≤ n) (h2 : n < 4294967296) : IntKind.u32.wrap n = n := by
  have e1 : (2 : Int) ^ 32 = 4294967296 := by decide
  simp only [IntKind.wrap, IntKind.bits, IntKind.signed, Bool.false_and, e1, if_false, Bool.false_eq_true]
  omega
theorem wrap8 (x : Int) : IntKind.u8.wrap x = x % 256 := by
  have e1 : (2 : Int) ^ 8 = 256 := by decide
  simp only [IntKind.wrap, IntKind.bits, IntKind.signed, Bool.false_and, e1, if_false, Bool.false_eq_true]
theorem or6f : ∀ y : Fin 256, (BitVec.ofInt 8 128 ||| BitVec.ofInt 8 ((BitVec.ofInt 8 (y.val : Int) &&& BitVec.ofInt 8 63).toNat : Int)).toNat = 128 + y.val % 64 := by decide +kernel
theorem or6 (x : Nat) : (BitVec.ofInt 8 128 ||| BitVec.ofInt 8 ((BitVec.ofInt 8 (IntKind.u8.wrap (x : Int)) &&& BitVec.ofInt 8 63).toNat : Int)).toNat = 128 + x % 64 := by
  have h := or6f ⟨x % 256, by omega⟩
  rw [wrap8, show (x : Int) % 256 = ((x % 256 : Nat) : Int) by omega, h]
  simp only; omega
theorem orHf : (∀ y : Fin 32, (BitVec.ofInt 8 192 ||| BitVec.ofInt 8 (y.val : Int)).toNat = 192 + y.val) ∧ (∀ y : Fin 16, (BitVec.ofInt 8 224 ||| BitVec.ofInt 8 (y.val : Int)).toNat = 224 + y.val) ∧ ∀ y : Fin 8, (BitVec.ofInt 8 240 ||| BitVec.ofInt 8 (y.val : Int)).toNat = 240 + y.val := by decide +kernel
theorem or192 (x : Nat) (h : x < 32) : (BitVec.ofInt 8 192 ||| BitVec.ofInt 8 (IntKind.u8.wrap (x : Int))).toNat = 192 + x := by
  rw [wrap_u8 (by omega) (by omega)]; exact orHf.1 ⟨x, h⟩
theorem or224 (x : Nat) (h : x < 16) : (BitVec.ofInt 8 224 ||| BitVec.ofInt 8 (IntKind.u8.wrap (x : Int))).toNat = 224 + x := by
  rw [wrap_u8 (by omega) (by omega)]; exact orHf.2.1 ⟨x, h⟩
theorem or240 (x : Nat) (h : x < 8) : (BitVec.ofInt 8 240 ||| BitVec.ofInt 8 (IntKind.u8.wrap (x : Int))).toNat = 240 + x := by
  rw [wrap_u8 (by omega) (by omega)]; exact orHf.2.2 ⟨x, h⟩
theorem fdiv6 (r : Nat) : (r : Int).fdiv (2 ^ min 6 32) = ((r / 64 : Nat) : Int) := by
  rw [show (2 : Int) ^ min 6 32 = 64 by decide, Int.fdiv_eq_ediv_of_nonneg _ (by decide)]; omega
theorem fdiv12 (r : Nat) : (r : Int).fdiv (2 ^ min 12 32) = ((r / 4096 : Nat) : Int) := by
  rw [show (2 : Int) ^ min 12 32 = 4096 by decide, Int.fdiv_eq_ediv_of_nonneg _ (by decide)]; omega
theorem fdiv18 (r : Nat) : (r : Int).fdiv (2 ^ min 18 32) = ((r / 262144 : Nat) : Int) := by
  rw [show (2 : Int) ^ min 18 32 = 262144 by decide, Int.fdiv_eq_ediv_of_nonneg _ (by decide)]; omega
theorem out2 {a b a' b' : Nat} (h : a = a') (k : b = b') : Out.ret (AV.d (DV.list 1 [.int .u8 (a : Int), .int .u8 (b : Int)])) = Out.ret (.d (.list 1 [.int .u8 (a' : Int), .int .u8 (b' : Int)])) := by rw [h, k]
theorem out3 {a b c a' b' c' : Nat} (h : a = a') (k : b = b') (l : c = c') : Out.ret (AV.d (DV.list 1 [.int .u8 (a : Int), .int .u8 (b : Int), .int .u8 (c : Int)])) = Out.ret (.d (.list 1 [.int .u8 (a' : Int), .int .u8 (b' : Int), .int .u8 (c' : Int)])) := by rw [h, k, l]
theorem out4 {a b c d a' b' c' d' : Nat} (h : a = a') (k : b = b') (l : c = c') (m : d = d') : Out.ret (AV.d (DV.list 1 [.int .u8 (a : Int), .int .u8 (b : Int), .int .u8 (c : Int), .int .u8 (d : Int)])) = Out.ret (.d (.list 1 [.int .u8 (a' : Int), .int .u8 (b' : Int), .int .u8 (c' : Int), .int .u8 (d' : Int)])) := by rw [h, k, l, m]
theorem append57 (r : Nat) (h : 128 ≤ r) (hc : charB r = true) : PCall Tryz.prog 57 [.d .nilslice, .d (.int .i32 r)] (.d (.list 1 (bytesD (encB r)))) := by
  refine fn57.pure (hints2 4 4) (Nat.le_refl _) (by simp only [go_sem]) (by simp only [go_sem]) ?_
  have hc' := (charB_iff _).1 hc
  have hw : IntKind.u32.wrap (r : Int) = r := wrap_u32 (by omega) (by omega)
  by_cases h1 : (r : Int) ≤ 2047
  · simp (disch := omega) only [go_sem, reduceIte, reduceDIte, reduceCtorEq, Nat.reduceBEq, Nat.reduceEqDiff, Nat.reduceAdd, Nat.reduceSub, Nat.reduceMul, Nat.reduceLT, Nat.reduceLeDiff, Nat.reduceBNe, Int.reduceNeg, Int.reduceAdd, Int.reduceSub, Int.reduceMul, Int.reduceLT, Int.reduceLE, Int.reduceGT, Int.reduceGE, Int.reduceEq, Int.reduceNe, Int.reduceToNat, Int.reduceTMod, Int.reduceTDiv, hw, h1]
    rw [fdiv6, encB2 h (by omega), bytesD, List.map_cons, List.map_cons, u8n _ (by omega), u8n _ (by omega)]
    exact out2 (or192 _ (by omega)) (or6 _)
  · by_cases h2 : (r : Int) < 55296
    · have h3 : ¬ (57343 : Int) < r := by omega
      simp (disch := omega) only [go_sem, reduceIte, reduceDIte, reduceCtorEq, Nat.reduceBEq, Nat.reduceEqDiff, Nat.reduceAdd, Nat.reduceSub, Nat.reduceMul, Nat.reduceLT, Nat.reduceLeDiff, Nat.reduceBNe, Int.reduceNeg, Int.reduceAdd, Int.reduceSub, Int.reduceMul, Int.reduceLT, Int.reduceLE, Int.reduceGT, Int.reduceGE, Int.reduceEq, Int.reduceNe, Int.reduceToNat, Int.reduceTMod, Int.reduceTDiv, hw, h1, h2]
      rw [fdiv12, fdiv6, encB3 (by omega) (by omega) (by omega), bytesD, List.map_cons, List.map_cons, List.map_cons, u8n _ (by omega), u8n _ (by omega), u8n _ (by omega)]; exact out3 (or224 _ (by omega)) (or6 _) (or6 _)
    · have h3 : (57343 : Int) < r := by omega
      by_cases h4 : (r : Int) ≤ 65535
      · simp (disch := omega) only [go_sem, reduceIte, reduceDIte, reduceCtorEq, Nat.reduceBEq, Nat.reduceEqDiff, Nat.reduceAdd, Nat.reduceSub, Nat.reduceMul, Nat.reduceLT, Nat.reduceLeDiff, Nat.reduceBNe, Int.reduceNeg, Int.reduceAdd, Int.reduceSub, Int.reduceMul, Int.reduceLT, Int.reduceLE, Int.reduceGT, Int.reduceGE, Int.reduceEq, Int.reduceNe, Int.reduceToNat, Int.reduceTMod, Int.reduceTDiv, hw, h1, h2, h3, h4]
        rw [fdiv12, fdiv6, encB3 (by omega) (by omega) (by omega), bytesD, List.map_cons, List.map_cons, List.map_cons, u8n _ (by omega), u8n _ (by omega), u8n _ (by omega)]; exact out3 (or224 _ (by omega)) (or6 _) (or6 _)
      · have h5 : (65535 : Int) < r := by omega
        have h6 : (r : Int) ≤ 1114111 := by omega
        simp (disch := omega) only [go_sem, reduceIte, reduceDIte, reduceCtorEq, Nat.reduceBEq, Nat.reduceEqDiff, Nat.reduceAdd, Nat.reduceSub, Nat.reduceMul, Nat.reduceLT, Nat.reduceLeDiff, Nat.reduceBNe, Int.reduceNeg, Int.reduceAdd, Int.reduceSub, Int.reduceMul, Int.reduceLT, Int.reduceLE, Int.reduceGT, Int.reduceGE, Int.reduceEq, Int.reduceNe, Int.reduceToNat, Int.reduceTMod, Int.reduceTDiv, hw, h1, h2, h3, h4, h5, h6]
        rw [fdiv18, fdiv12, fdiv6, encB4 (by omega) (by omega), bytesD, List.map_cons, List.map_cons, List.map_cons, List.map_cons, u8n _ (by omega), u8n _ (by omega), u8n _ (by omega), u8n _ (by omega)]; exact out4 (or240 _ (by omega)) (or6 _) (or6 _) (or6 _)

/-- What stands for a number that is no character. -/
def noneB : List UInt8 := [239, 191, 189]
theorem append57n (c : Int) (h1 : -2147483648 ≤ c) (h2 : c < 2147483648) (hn : ¬ charB c = true) : PCall Tryz.prog 57 [.d .nilslice, .d (.int .i32 c)] (.d (.list 1 (bytesD noneB))) := by
  refine fn57.pure (hints2 4 4) (Nat.le_refl _) (by simp only [go_sem]) (by simp only [go_sem]) ?_
  obtain ⟨w, hw⟩ : ∃ w, w = IntKind.u32.wrap c := ⟨_, rfl⟩
  have hwv : w = c % 4294967296 := by
    have e1 : (2 : Int) ^ 32 = 4294967296 := by decide
    rw [hw]; simp only [IntKind.wrap, IntKind.bits, IntKind.signed, Bool.false_and, e1, if_false, Bool.false_eq_true]
  rw [charB_iff] at hn
  have k1 : ¬ w ≤ 2047 := by omega
  have k2 : ¬ w < 55296 := by omega
  have e : ∀ x : DV, Out.ret (AV.d x) = Out.ret (AV.d x) := fun _ => rfl
  by_cases k3 : (57343 : Int) < w
  · have k4 : ¬ w ≤ 65535 := by omega
    have k5 : (65535 : Int) < w := by omega
    have k6 : ¬ w ≤ 1114111 := by omega
    simp (disch := omega) only [go_sem, reduceIte, reduceDIte, reduceCtorEq, Nat.reduceBEq, Nat.reduceEqDiff, Nat.reduceAdd, Nat.reduceSub, Nat.reduceMul, Nat.reduceLT, Nat.reduceLeDiff, Nat.reduceBNe, Int.reduceNeg, Int.reduceAdd, Int.reduceSub, Int.reduceMul, Int.reduceLT, Int.reduceLE, Int.reduceGT, Int.reduceGE, Int.reduceEq, Int.reduceNe, Int.reduceToNat, Int.reduceTMod, Int.reduceTDiv, ← hw, k1, k2, k3, k4, k5, k6]
    rfl
  · have k5 : ¬ (65535 : Int) < w := by omega
    simp (disch := omega) only [go_sem, reduceIte, reduceDIte, reduceCtorEq, Nat.reduceBEq, Nat.reduceEqDiff, Nat.reduceAdd, Nat.reduceSub, Nat.reduceMul, Nat.reduceLT, Nat.reduceLeDiff, Nat.reduceBNe, Int.reduceNeg, Int.reduceAdd, Int.reduceSub, Int.reduceMul, Int.reduceLT, Int.reduceLE, Int.reduceGT, Int.reduceGE, Int.reduceEq, Int.reduceNe, Int.reduceToNat, Int.reduceTMod, Int.reduceTDiv, ← hw, k1, k2, k3, k5]
    rfl
def encA (c : Int) : List UInt8 := if charB c = true then encB c else noneB
theorem append38 (c : Int) (q1 : -2147483648 ≤ c) (q2 : c < 2147483648) : PCall Tryz.prog 38 [.d .nilslice, .d (.int .i32 c)] (.d (.list 1 (bytesD (encA c)))) := by
  refine fn38.pure (hints2 4 4) (Nat.le_refl _) (by simp only [go_sem]) (by simp only [go_sem]) ?_
  by_cases hc : charB c = true
  · rw [encA, if_pos hc]
    obtain ⟨r, rfl, _⟩ := char_cases hc
    have hc' := (charB_iff _).1 hc
    have hw : IntKind.u32.wrap (r : Int) = r := wrap_u32 (by omega) (by omega)
    by_cases h1 : (r : Int) ≤ 127
    · have hw8 : IntKind.u8.wrap (r : Int) = r := wrap_u8 (by omega) (by omega)
      simp (disch := omega) only [go_sem, reduceIte, reduceDIte, reduceCtorEq, Nat.reduceBEq, Nat.reduceEqDiff, Nat.reduceAdd, Nat.reduceSub, Nat.reduceMul, Nat.reduceLT, Nat.reduceLeDiff, Nat.reduceBNe, Int.reduceNeg, Int.reduceAdd, Int.reduceSub, Int.reduceMul, Int.reduceLT, Int.reduceLE, Int.reduceGT, Int.reduceGE, Int.reduceEq, Int.reduceNe, Int.reduceToNat, Int.reduceTMod, Int.reduceTDiv, hw, h1, hw8]
      rw [encB1 (by omega), bytesD, List.map_cons, u8n _ (by omega)]; rfl
    · simp (disch := omega) only [go_sem, reduceIte, reduceDIte, reduceCtorEq, Nat.reduceBEq, Nat.reduceEqDiff, Nat.reduceAdd, Nat.reduceSub, Nat.reduceMul, Nat.reduceLT, Nat.reduceLeDiff, Nat.reduceBNe, Int.reduceNeg, Int.reduceAdd, Int.reduceSub, Int.reduceMul, Int.reduceLT, Int.reduceLE, Int.reduceGT, Int.reduceGE, Int.reduceEq, Int.reduceNe, Int.reduceToNat, Int.reduceTMod, Int.reduceTDiv, hw, h1]
      refine (append57 r (by omega) hc).at ?_
      simp (disch := omega) only [go_sem, reduceIte, reduceDIte, reduceCtorEq, Nat.reduceBEq, Nat.reduceEqDiff, Nat.reduceAdd, Nat.reduceSub, Nat.reduceMul, Nat.reduceLT, Nat.reduceLeDiff, Nat.reduceBNe, Int.reduceNeg, Int.reduceAdd, Int.reduceSub, Int.reduceMul, Int.reduceLT, Int.reduceLE, Int.reduceGT, Int.reduceGE, Int.reduceEq, Int.reduceNe, Int.reduceToNat, Int.reduceTMod, Int.reduceTDiv]
  · rw [encA, if_neg hc]
    have hwv : IntKind.u32.wrap c = c % 4294967296 := by
      have e1 : (2 : Int) ^ 32 = 4294967296 := by decide
      simp only [IntKind.wrap, IntKind.bits, IntKind.signed, Bool.false_and, e1, if_false, Bool.false_eq_true]
    have h1 : ¬ IntKind.u32.wrap c ≤ 127 := by
      have := hc; rw [charB_iff] at this; omega
    simp (disch := omega) only [go_sem, reduceIte, reduceDIte, reduceCtorEq, Nat.reduceBEq, Nat.reduceEqDiff, Nat.reduceAdd, Nat.reduceSub, Nat.reduceMul, Nat.reduceLT, Nat.reduceLeDiff, Nat.reduceBNe, Int.reduceNeg, Int.reduceAdd, Int.reduceSub, Int.reduceMul, Int.reduceLT, Int.reduceLE, Int.reduceGT, Int.reduceGE, Int.reduceEq, Int.reduceNe, Int.reduceToNat, Int.reduceTMod, Int.reduceTDiv, h1]
    refine (append57n c q1 q2 hc).at ?_
    simp (disch := omega) only [go_sem, reduceIte, reduceDIte, reduceCtorEq, Nat.reduceBEq, Nat.reduceEqDiff, Nat.reduceAdd, Nat.reduceSub, Nat.reduceMul, Nat.reduceLT, Nat.reduceLeDiff, Nat.reduceBNe, Int.reduceNeg, Int.reduceAdd, Int.reduceSub, Int.reduceMul, Int.reduceLT, Int.reduceLE, Int.reduceGT, Int.reduceGE, Int.reduceEq, Int.reduceNe, Int.reduceToNat, Int.reduceTMod, Int.reduceTDiv]

theorem encode21 (c : Int) (q1 : -2147483648 ≤ c) (q2 : c < 2147483648) : PCall Tryz.prog 21 [.d (.list 1 [.int .i32 c])] (.d (.str (encA c))) := by
  refine fn21.pure noHint (Nat.le_refl _) (by simp only [go_sem]) (by simp only [go_sem]) ?_
  simp (disch := omega) only [go_sem, reduceIte, reduceDIte, reduceCtorEq, Nat.reduceBEq, Nat.reduceEqDiff, Nat.reduceAdd, Nat.reduceSub, Nat.reduceMul, Nat.reduceLT, Nat.reduceLeDiff, Nat.reduceBNe, Int.reduceNeg, Int.reduceAdd, Int.reduceSub, Int.reduceMul, Int.reduceLT, Int.reduceLE, Int.reduceGT, Int.reduceGE, Int.reduceEq, Int.reduceNe, Int.reduceToNat, Int.reduceTMod, Int.reduceTDiv]
  refine wL_ind (fun (j : Nat) fr σ => j ≤ 1 ∧ fr 3 = (if j = 0 then .d .nilslice else .d (.list 1 (bytesD (encA c)))) ∧ fr 6 = .d (.list 1 [.int .i32 c]) ∧ fr 7 = .d (.int .i64 ((1 : Nat) : Int)) ∧ fr 8 = .d (.int .i64 j) ∧ σ = []) (fun j => 1 - j) ?_ 0 ?_
  · rintro j fr σ ⟨hj, f3, f6, f7, f8, rfl⟩ ihl
    by_cases hlt : j < 1
    · have f3' : fr 3 = .d .nilslice := by rw [f3, if_pos (by omega)]
      have g1 : List.getD [DV.int .i32 c] j default = .int .i32 c := by rw [show j = 0 by omega]; rfl
      simp (disch := omega) only [go_sem, reduceIte, reduceDIte, reduceCtorEq, Nat.reduceBEq, Nat.reduceEqDiff, Nat.reduceAdd, Nat.reduceSub, Nat.reduceMul, Nat.reduceLT, Nat.reduceLeDiff, Nat.reduceBNe, Int.reduceNeg, Int.reduceAdd, Int.reduceSub, Int.reduceMul, Int.reduceLT, Int.reduceLE, Int.reduceGT, Int.reduceGE, Int.reduceEq, Int.reduceNe, Int.reduceToNat, Int.reduceTMod, Int.reduceTDiv, f3', f6, f7, f8, hlt, g1]
      refine (append38 c q1 q2).at ?_
      simp (disch := omega) only [go_sem, reduceIte, reduceDIte, reduceCtorEq, Nat.reduceBEq, Nat.reduceEqDiff, Nat.reduceAdd, Nat.reduceSub, Nat.reduceMul, Nat.reduceLT, Nat.reduceLeDiff, Nat.reduceBNe, Int.reduceNeg, Int.reduceAdd, Int.reduceSub, Int.reduceMul, Int.reduceLT, Int.reduceLE, Int.reduceGT, Int.reduceGE, Int.reduceEq, Int.reduceNe, Int.reduceToNat, Int.reduceTMod, Int.reduceTDiv, f8]
      refine ihl (j + 1) _ _ (by omega) ⟨by omega, ?_, ?_, ?_, ?_, rfl⟩
      · have : ¬ j + 1 = 0 := by omega
        simp (disch := omega) only [go_sem, reduceIte, reduceDIte, reduceCtorEq, Nat.reduceBEq, Nat.reduceEqDiff, Nat.reduceAdd, Nat.reduceSub, Nat.reduceMul, Nat.reduceLT, Nat.reduceLeDiff, Nat.reduceBNe, Int.reduceNeg, Int.reduceAdd, Int.reduceSub, Int.reduceMul, Int.reduceLT, Int.reduceLE, Int.reduceGT, Int.reduceGE, Int.reduceEq, Int.reduceNe, Int.reduceToNat, Int.reduceTMod, Int.reduceTDiv, this]
      · simp (disch := omega) only [go_sem, reduceIte, reduceDIte, reduceCtorEq, Nat.reduceBEq, Nat.reduceEqDiff, Nat.reduceAdd, Nat.reduceSub, Nat.reduceMul, Nat.reduceLT, Nat.reduceLeDiff, Nat.reduceBNe, Int.reduceNeg, Int.reduceAdd, Int.reduceSub, Int.reduceMul, Int.reduceLT, Int.reduceLE, Int.reduceGT, Int.reduceGE, Int.reduceEq, Int.reduceNe, Int.reduceToNat, Int.reduceTMod, Int.reduceTDiv, f6]
      · simp (disch := omega) only [go_sem, reduceIte, reduceDIte, reduceCtorEq, Nat.reduceBEq, Nat.reduceEqDiff, Nat.reduceAdd, Nat.reduceSub, Nat.reduceMul, Nat.reduceLT, Nat.reduceLeDiff, Nat.reduceBNe, Int.reduceNeg, Int.reduceAdd, Int.reduceSub, Int.reduceMul, Int.reduceLT, Int.reduceLE, Int.reduceGT, Int.reduceGE, Int.reduceEq, Int.reduceNe, Int.reduceToNat, Int.reduceTMod, Int.reduceTDiv, f7]
      · simp (disch := omega) only [go_sem, reduceIte, reduceDIte, reduceCtorEq, Nat.reduceBEq, Nat.reduceEqDiff, Nat.reduceAdd, Nat.reduceSub, Nat.reduceMul, Nat.reduceLT, Nat.reduceLeDiff, Nat.reduceBNe, Int.reduceNeg, Int.reduceAdd, Int.reduceSub, Int.reduceMul, Int.reduceLT, Int.reduceLE, Int.reduceGT, Int.reduceGE, Int.reduceEq, Int.reduceNe, Int.reduceToNat, Int.reduceTMod, Int.reduceTDiv]
    · have f3' : fr 3 = .d (.list 1 (bytesD (encA c))) := by rw [f3, if_neg (by omega)]
      simp (disch := omega) only [go_sem, reduceIte, reduceDIte, reduceCtorEq, Nat.reduceBEq, Nat.reduceEqDiff, Nat.reduceAdd, Nat.reduceSub, Nat.reduceMul, Nat.reduceLT, Nat.reduceLeDiff, Nat.reduceBNe, Int.reduceNeg, Int.reduceAdd, Int.reduceSub, Int.reduceMul, Int.reduceLT, Int.reduceLE, Int.reduceGT, Int.reduceGE, Int.reduceEq, Int.reduceNe, Int.reduceToNat, Int.reduceTMod, Int.reduceTDiv, f3', f6, f7, f8, hlt, bytesD]
  · refine ⟨by omega, ?_, ?_, ?_, ?_, rfl⟩
    · simp (disch := omega) only [go_sem, reduceIte, reduceDIte, reduceCtorEq, Nat.reduceBEq, Nat.reduceEqDiff, Nat.reduceAdd, Nat.reduceSub, Nat.reduceMul, Nat.reduceLT, Nat.reduceLeDiff, Nat.reduceBNe, Int.reduceNeg, Int.reduceAdd, Int.reduceSub, Int.reduceMul, Int.reduceLT, Int.reduceLE, Int.reduceGT, Int.reduceGE, Int.reduceEq, Int.reduceNe, Int.reduceToNat, Int.reduceTMod, Int.reduceTDiv]
    · simp (disch := omega) only [go_sem, reduceIte, reduceDIte, reduceCtorEq, Nat.reduceBEq, Nat.reduceEqDiff, Nat.reduceAdd, Nat.reduceSub, Nat.reduceMul, Nat.reduceLT, Nat.reduceLeDiff, Nat.reduceBNe, Int.reduceNeg, Int.reduceAdd, Int.reduceSub, Int.reduceMul, Int.reduceLT, Int.reduceLE, Int.reduceGT, Int.reduceGE, Int.reduceEq, Int.reduceNe, Int.reduceToNat, Int.reduceTMod, Int.reduceTDiv]
    · simp (disch := omega) only [go_sem, reduceIte, reduceDIte, reduceCtorEq, Nat.reduceBEq, Nat.reduceEqDiff, Nat.reduceAdd, Nat.reduceSub, Nat.reduceMul, Nat.reduceLT, Nat.reduceLeDiff, Nat.reduceBNe, Int.reduceNeg, Int.reduceAdd, Int.reduceSub, Int.reduceMul, Int.reduceLT, Int.reduceLE, Int.reduceGT, Int.reduceGE, Int.reduceEq, Int.reduceNe, Int.reduceToNat, Int.reduceTMod, Int.reduceTDiv]
    · simp (disch := omega) only [go_sem, reduceIte, reduceDIte, reduceCtorEq, Nat.reduceBEq, Nat.reduceEqDiff, Nat.reduceAdd, Nat.reduceSub, Nat.reduceMul, Nat.reduceLT, Nat.reduceLeDiff, Nat.reduceBNe, Int.reduceNeg, Int.reduceAdd, Int.reduceSub, Int.reduceMul, Int.reduceLT, Int.reduceLE, Int.reduceGT, Int.reduceGE, Int.reduceEq, Int.reduceNe, Int.reduceToNat, Int.reduceTMod, Int.reduceTDiv]
end Go.Proofs.YtebejiilpedlmaaGreatDoor
set_option linter.unusedVariables false
set_option linter.unusedSimpArgs false
set_option maxRecDepth 100000
namespace Go.Proofs.YtebejiilpedlmaaGreatDoor
open Go Nv Pat

/- The characters of a text that was written of characters. -/
def valL : List UInt8 → Int
  | [] => 0
  | [b] => bt b
  | b :: l => (l.map bt).foldl valM (beginM (bt b)).value
theorem seq_out {p : List UInt8} (hp : OkSeq p) : (decM p).out = [valL p] := by
  cases hp with
  | @one b h =>
    have h1 : ¬ goesOn dec0.q (bt b) := fun g => by have := g.1; simp [dec0] at this
    have e : stepD dec0 0 (bt b) = ⟨[bt b], beginM (bt b), 0⟩ := by
      unfold stepD; rw [if_neg h1]
      simp only [dec0, show ¬ (0 : Int) < 0 by omega, if_false, show bt b < 128 by unfold bt; omega, if_true, List.nil_append]
    show (stepD dec0 0 (bt b)).out = _
    rw [e]; rfl
  | @two b c h1 h2 h3 =>
    have e : decM [b, c] = stepD (stepD dec0 0 (bt b)) 1 (bt c) := rfl
    rw [step0 b (by omega), stepD, if_pos (show goesOn (beginM (bt b)) (bt c) from ⟨by omega, h2, h3⟩)] at e
    simp only [h1, show (1 : Int) - 1 = 0 by omega, if_true] at e
    rw [e]; rfl
  | @three b c d h1 h2 h3 h4 h5 =>
    have e : decM [b, c, d] = stepD (stepD (stepD dec0 0 (bt b)) 1 (bt c)) 2 (bt d) := rfl
    rw [step0 b (by omega), stepD, stepD, if_pos (show goesOn (beginM (bt b)) (bt c) from ⟨by omega, h2, h3⟩)] at e
    simp only [h1, show ¬ (2 : Int) - 1 = 0 by omega, if_false] at e
    rw [if_pos (show goesOn (more (beginM (bt b)) (bt c)) (bt d) from ⟨by simp only [more]; omega, h4, h5⟩)] at e
    simp only [more, h1, show (2 : Int) - 1 - 1 = 0 by omega, if_true] at e
    rw [e]; rfl
  | @four b c d f h1 h2 h3 h4 h5 h6 h7 =>
    have e : decM [b, c, d, f] = stepD (stepD (stepD (stepD dec0 0 (bt b)) 1 (bt c)) 2 (bt d)) 3 (bt f) := rfl
    rw [step0 b (by omega), stepD, stepD, stepD, if_pos (show goesOn (beginM (bt b)) (bt c) from ⟨by omega, h2, h3⟩)] at e
    simp only [h1, show ¬ (3 : Int) - 1 = 0 by omega, if_false] at e
    rw [if_pos (show goesOn (more (beginM (bt b)) (bt c)) (bt d) from ⟨by simp only [more]; omega, h4, h5⟩)] at e
    simp only [more, h1, show ¬ (3 : Int) - 1 - 1 = 0 by omega, if_false] at e
    rw [if_pos (show goesOn ⟨_, 3 - 1 - 1, 128, 191⟩ (bt f) from ⟨by simp, h6, h7⟩)] at e
    simp only [show (3 : Int) - 1 - 1 - 1 = 0 by omega, if_true] at e
    rw [e]; rfl

theorem m8_63 : ∀ y : Fin 64, m8 (128 + (y.val : Int)) 63 = y.val := by decide +kernel
theorem m8_31 : ∀ y : Fin 32, m8 (192 + (y.val : Int)) 31 = y.val := by decide +kernel
theorem m8_15 : ∀ y : Fin 16, m8 (224 + (y.val : Int)) 15 = y.val := by decide +kernel
theorem m8_7 : ∀ y : Fin 8, m8 (240 + (y.val : Int)) 7 = y.val := by decide +kernel
theorem val_more (x y : Nat) (hx : x < 1048576) (hy : y < 64) : valM (x : Int) (128 + (y : Int)) = ((64 * x + y : Nat) : Int) := by
  unfold valM
  rw [m8_63 ⟨y, hy⟩, show (2 : Int) ^ min 6 32 = 64 by decide, wrap_i32 (n := (x : Int) * 64) (by omega) (by omega)]
  have e : (BitVec.ofInt 32 ((x : Int) * 64) ||| BitVec.ofInt 32 ((y : Nat) : Int)).toNat = 64 * x + y := by
    have h1 : (x : Int) * 64 = ((64 * x : Nat) : Int) := by omega
    rw [h1, BitVec.ofInt_natCast, BitVec.ofInt_natCast, BitVec.toNat_or, BitVec.toNat_ofNat, BitVec.toNat_ofNat, Nat.mod_eq_of_lt (by omega), Nat.mod_eq_of_lt (by omega)]
    exact (Nat.two_pow_add_eq_or_of_lt (i := 6) hy x).symm
  exact (congrArg (fun z : Nat => IntKind.i32.wrap (z : Int)) e).trans (wrap_i32 (by omega) (by omega))
theorem bt_of (n : Nat) (h : n < 256) : bt (UInt8.ofNat n) = (n : Int) := by unfold bt; rw [u8n n h]
theorem val_enc {c : Int} (h : charB c = true) : valL (encB c) = c := by
  obtain ⟨r, rfl, h1 | ⟨h1, h2⟩ | ⟨h1, h2, h3⟩ | ⟨h1, h2⟩⟩ := char_cases h
  · rw [encB1 h1, valL, bt_of _ (by omega)]
  · have e : (beginM (192 + ((r / 64 : Nat) : Int))).value = ((r / 64 : Nat) : Int) := by
      rw [beginM, if_pos (by omega)]; exact m8_31 ⟨r / 64, by omega⟩
    rw [encB2 h1 h2, valL]
    · simp only [List.map_cons, List.map_nil, List.foldl_cons, List.foldl_nil]
      rw [bt_of _ (by omega), bt_of _ (by omega), show ((192 + r / 64 : Nat) : Int) = 192 + ((r / 64 : Nat) : Int) by omega, e,
        show ((128 + r % 64 : Nat) : Int) = 128 + ((r % 64 : Nat) : Int) by omega, val_more _ _ (by omega) (by omega)]
      omega
    · simp
  · have e : (beginM (224 + ((r / 4096 : Nat) : Int))).value = ((r / 4096 : Nat) : Int) := by
      rw [beginM, if_neg (by omega), if_pos (by omega)]; exact m8_15 ⟨r / 4096, by omega⟩
    rw [encB3 h1 h2 h3, valL]
    · simp only [List.map_cons, List.map_nil, List.foldl_cons, List.foldl_nil]
      rw [bt_of _ (by omega), bt_of _ (by omega), bt_of _ (by omega), show ((224 + r / 4096 : Nat) : Int) = 224 + ((r / 4096 : Nat) : Int) by omega, e,
        show ((128 + r / 64 % 64 : Nat) : Int) = 128 + ((r / 64 % 64 : Nat) : Int) by omega, show ((128 + r % 64 : Nat) : Int) = 128 + ((r % 64 : Nat) : Int) by omega,
        val_more _ _ (by omega) (by omega), val_more _ _ (by omega) (by omega)]
      omega
    · simp
  · have e : (beginM (240 + ((r / 262144 : Nat) : Int))).value = ((r / 262144 : Nat) : Int) := by
      rw [beginM, if_neg (by omega), if_neg (by omega), if_pos (by omega)]; exact m8_7 ⟨r / 262144, by omega⟩
    rw [encB4 h1 h2, valL]
    · simp only [List.map_cons, List.map_nil, List.foldl_cons, List.foldl_nil]
      rw [bt_of _ (by omega), bt_of _ (by omega), bt_of _ (by omega), bt_of _ (by omega), show ((240 + r / 262144 : Nat) : Int) = 240 + ((r / 262144 : Nat) : Int) by omega, e,
        show ((128 + r / 4096 % 64 : Nat) : Int) = 128 + ((r / 4096 % 64 : Nat) : Int) by omega, show ((128 + r / 64 % 64 : Nat) : Int) = 128 + ((r / 64 % 64 : Nat) : Int) by omega, show ((128 + r % 64 : Nat) : Int) = 128 + ((r % 64 : Nat) : Int) by omega,
        val_more _ _ (by omega) (by omega), val_more _ _ (by omega) (by omega), val_more _ _ (by omega) (by omega)]
      omega
    · simp
theorem chars_enc1 {c : Int} (h : charB c = true) : charsM (encB c) = [c] := by
  have hs := enc_seq h
  rw [chars_closed (seq_dec hs).1, seq_out hs, val_enc h]
theorem chars_enc2 {c : Int} (h : charB c = true) : charsM (encB c ++ encB c) = [c, c] := by
  rw [chars_append (seq_dec (enc_seq h)).1, chars_enc1 h]; rfl

/-- A set holds the texts of one of its characters. -/
theorem lang_set (s : List (Int × Int)) (w : List Int) : Lang (.mk 2 s [] 0 0) w ↔ ∃ c, w = [c] ∧ InSet s c := by simp [Lang]
theorem match_one {s : List (Int × Int)} {c : Int} (h : charB c = true) (hs : chkE (.mk 2 s [] 0 0) = 0) : matchB (.mk 2 s [] 0 0) (encB c) = true ↔ InSet s c := by
  rw [matchB_iff, chars_enc1 h, lang_set]
  constructor
  · rintro ⟨_, d, hd, hin⟩; simp at hd; rw [hd]; exact hin
  · intro hin; exact ⟨hs, c, rfl, hin⟩
theorem match_none (s : List (Int × Int)) : matchB (.mk 2 s [] 0 0) [] = false := by
  rw [← Bool.not_eq_true, matchB_iff, chars_nil, lang_set]
  rintro ⟨_, d, hd, _⟩; cases hd
theorem match_two (s : List (Int × Int)) {c : Int} (h : charB c = true) : matchB (.mk 2 s [] 0 0) (encB c ++ encB c) = false := by
  rw [← Bool.not_eq_true, matchB_iff, chars_enc2 h, lang_set]
  rintro ⟨_, d, hd, _⟩; simp at hd
end Go.Proofs.YtebejiilpedlmaaGreatDoor
set_option linter.unusedVariables false
set_option linter.unusedSimpArgs false
set_option maxRecDepth 100000
namespace Go.Proofs.YtebejiilpedlmaaGreatDoor
open Go Nv Pat

/- A class, and the class with a sign before it. -/
theorem in_app (s t : List (Int × Int)) (c : Int) : InSet (s ++ t) c ↔ InSet s c ∨ InSet t c := by
  unfold InSet
  constructor
  · rintro ⟨r, hr, h⟩
    rcases List.mem_append.1 hr with hr | hr
    · exact .inl ⟨r, hr, h⟩
    · exact .inr ⟨r, hr, h⟩
  · rintro (⟨r, hr, h⟩ | ⟨r, hr, h⟩)
    · exact ⟨r, by simp [hr], h⟩
    · exact ⟨r, by simp [hr], h⟩
theorem in_clip1 (a b x y c : Int) : InSet (clip1 a b (x, y)) c ↔ a ≤ c ∧ c ≤ b ∧ x ≤ c ∧ c ≤ y := by
  unfold InSet clip1
  split
  · rename_i h
    simp only at h ⊢
    constructor
    · rintro ⟨r, hr, h1, h2⟩; simp at hr; subst hr; simp only at h1 h2; omega
    · rintro h1; exact ⟨(max a x, min b y), by simp, by simp only; omega, by simp only; omega⟩
  · rename_i h
    simp only at h
    constructor
    · rintro ⟨r, hr, _⟩; cases hr
    · intro h1; omega
theorem in_clip {a b c : Int} (hc : charB c = true) : InSet (clipS a b) c ↔ a ≤ c ∧ c ≤ b := by
  rw [charB_iff] at hc
  rw [clipS, in_app, in_clip1, in_clip1]; omega
theorem in_cons (r : Int × Int) (l : List (Int × Int)) (c : Int) : InSet (r :: l) c ↔ (r.1 ≤ c ∧ c ≤ r.2) ∨ InSet l c := by
  unfold InSet
  constructor
  · rintro ⟨q, hq, h⟩
    rcases List.mem_cons.1 hq with e | hq
    · rw [e] at h; exact .inl h
    · exact .inr ⟨q, hq, h⟩
  · rintro (h | ⟨q, hq, h⟩)
    · exact ⟨r, by simp, h⟩
    · exact ⟨q, by simp [hq], h⟩
theorem comp_in {c : Int} (hc : charB c = true) : ∀ (l : List (Int × Int)) (low : Int), Apart l → (∀ r, r ∈ l → low ≤ r.1) → (InSet (compL low l) c ↔ low ≤ c ∧ ¬ InSet l c)
  | [], low, _, _ => by
    have h := (charB_iff c).1 hc
    rw [compL, in_clip hc]
    constructor
    · rintro ⟨h1, _⟩; exact ⟨h1, fun ⟨r, hr, _⟩ => by cases hr⟩
    · rintro ⟨h1, _⟩; exact ⟨h1, by omega⟩
  | r :: l, low, h, hlow => by
    have hp := List.pairwise_cons.1 h.2
    have hr := rgB_ok (h.1 r (by simp))
    have ih := comp_in hc l (r.2 + 1) ⟨fun x hx => h.1 x (by simp [hx]), hp.2⟩ (fun y hy => by have := hp.1 y hy; omega)
    have hl0 := hlow r (by simp)
    rw [compL, in_app, ih, in_clip hc, in_cons]
    have hfar : InSet l c → r.2 + 2 ≤ c := fun ⟨q, hq, h1, h2⟩ => by have := hp.1 q hq; omega
    constructor
    · rintro (h1 | ⟨h1, h2⟩)
      · refine ⟨h1.1, ?_⟩
        rintro (h3 | h3)
        · omega
        · have := hfar h3; omega
      · refine ⟨by omega, ?_⟩
        rintro (h3 | h3)
        · omega
        · exact h2 h3
    · rintro ⟨h1, h2⟩
      by_cases h3 : c < r.1
      · exact .inl ⟨h1, by omega⟩
      · refine .inr ⟨?_, fun h4 => h2 (.inr h4)⟩
        rcases Int.lt_or_le r.2 c with h5 | h5
        · omega
        · exact absurd (.inl ⟨by omega, h5⟩) h2

theorem clsP_more : ∀ (f : Nat) {acc : List (Int × Int)} {l : List Int} {x : List (Int × Int) × List Int}, clsP f acc l = some x → clsP (f + 1) acc l = some x
  | 0, _, _, _, h => by cases h
  | f + 1, acc, l, x, h => by
    rw [clsP] at h ⊢
    split at h
    · rename_i h1; rw [if_pos h1]; exact h
    · rename_i h1
      rw [if_neg h1]
      cases hi : itemP l with
      | none => rw [hi] at h; cases h
      | some y =>
        rw [hi] at h
        simp only at h ⊢
        split at h
        · cases h
        · rename_i h2; rw [if_neg h2]; exact clsP_more f h

section
variable {sort : List (Int × Int) → List (Int × Int)}
theorem joinL_nil {ch : List Int → Option (Tree × List Int)} : ∀ {f : Nat} {r t : List Int}, joinL sort ch f r = some ([], t) → t = r
  | 0, _, _, h => by cases h
  | f + 1, r, t, h => by
    rw [joinL] at h
    split at h
    · simp only [Option.some.injEq, Prod.mk.injEq] at h; exact h.2.symm
    · cases hx : repP sort ch r with
      | none => rw [hx] at h; cases h
      | some y =>
        rw [hx] at h
        simp only [Option.map_eq_some_iff, Prod.mk.injEq] at h
        obtain ⟨z, _, h1, _⟩ := h
        cases h1
/-- A pattern that begins as a class does, and whose tree is a set, is this class. -/
theorem parse_set {t : List Int} {n : Tree} (h : parseC sort (91 :: t) = some n) (hk : n.kind = 2) : ∃ s, classP sort t = some (s, []) ∧ n = setT s := by
  unfold parseC at h
  split at h
  rotate_left
  · cases h
  rename_i m he
  simp only [Option.some.injEq] at h
  subst h
  rw [chP, choiceP, Option.map_eq_some_iff] at he
  obtain ⟨⟨xs, r0⟩, hc, h1⟩ := he
  simp only [Prod.mk.injEq] at h1
  rw [choiceL] at hc
  cases hj : joinP sort (chP sort ((91 :: t).length)) (91 :: t) with
  | none => rw [hj] at hc; cases hc
  | some y =>
    obtain ⟨x, r1⟩ := y
    rw [hj] at hc
    simp only at hc
    have key : xs = [x] ∧ r0 = r1 := by
      split at hc
      · rw [Option.map_eq_some_iff] at hc
        obtain ⟨⟨ys, r2⟩, h2, h3⟩ := hc
        simp only [Prod.mk.injEq] at h3
        cases ys with
        | nil =>
          exfalso
          revert h2
          cases (91 :: t).length <;> intro h2
          · rw [choiceL] at h2; cases h2
          · rename_i k
            rw [choiceL] at h2
            split at h2
            · cases h2
            · split at h2
              · rw [Option.map_eq_some_iff] at h2; obtain ⟨z, _, h4⟩ := h2; cases h4
              · cases h2
        | cons y ys =>
          exfalso
          rw [← h3.1] at h1
          rw [← h1.1] at hk
          exact absurd hk (by show (4 : Int) ≠ 2; decide)
      · simp only [Option.some.injEq, Prod.mk.injEq] at hc
        exact ⟨hc.1.symm, hc.2.symm⟩
    obtain ⟨rfl, rfl⟩ := key
    obtain ⟨h1a, rfl⟩ := h1
    simp only [mkChoice] at h1a
    subst h1a
    rw [joinP, Option.map_eq_some_iff] at hj
    obtain ⟨⟨ys, r1⟩, hL, h2⟩ := hj
    simp only [Prod.mk.injEq] at h2
    obtain ⟨h2a, rfl⟩ := h2
    rw [joinL, if_neg (by simp)] at hL
    cases hr : repP sort (chP sort ((91 :: t).length)) (91 :: t) with
    | none => rw [hr] at hL; cases hL
    | some z =>
      obtain ⟨z, r2⟩ := z
      rw [hr] at hL
      simp only [Option.map_eq_some_iff, Prod.mk.injEq] at hL
      obtain ⟨⟨zs, r3⟩, hL2, h3, rfl⟩ := hL
      have hzs : zs = [] := by
        cases zs with
        | nil => rfl
        | cons a zs =>
          exfalso
          rw [← h3] at h2a
          rw [← h2a] at hk
          exact absurd hk (by show (3 : Int) ≠ 2; decide)
      subst hzs
      have hr2 := joinL_nil hL2
      subst h3
      simp only [mkJoin] at h2a
      subst h2a
      unfold repP at hr
      cases ha : atomP sort (chP sort ((91 :: t).length)) (91 :: t) with
      | none => rw [ha] at hr; cases hr
      | some w =>
        obtain ⟨w, r4⟩ := w
        rw [ha] at hr
        simp only at hr
        have h5 : ∀ (a b : Int), z ≠ rep5 w a b := fun a b he => by rw [he] at hk; exact absurd hk (by show (5 : Int) ≠ 2; decide)
        have key : z = w ∧ r2 = r4 := by
          split at hr
          · simp only [Option.some.injEq, Prod.mk.injEq] at hr; exact absurd hr.1.symm (h5 _ _)
          · split at hr
            · simp only [Option.some.injEq, Prod.mk.injEq] at hr; exact absurd hr.1.symm (h5 _ _)
            · split at hr
              · simp only [Option.some.injEq, Prod.mk.injEq] at hr; exact absurd hr.1.symm (h5 _ _)
              · split at hr
                · rw [Option.map_eq_some_iff] at hr
                  obtain ⟨q, _, h6⟩ := hr
                  simp only [Prod.mk.injEq] at h6
                  exact absurd h6.1.symm (h5 _ _)
                · simp only [Option.some.injEq, Prod.mk.injEq] at hr
                  exact ⟨hr.1.symm, hr.2.symm⟩
        obtain ⟨rfl, rfl⟩ := key
        unfold atomP at ha
        simp only [show ¬ ((91 : Int) = 40) by decide, show ¬ ((91 : Int) = 46) by decide, if_false, if_true, Option.map_eq_some_iff, Prod.mk.injEq] at ha
        obtain ⟨⟨s, r5⟩, h7, h8, h9⟩ := ha
        simp only at h8 h9
        refine ⟨s, ?_, h8.symm⟩
        rw [h7, h9, ← hr2]
end

theorem sortUp : SortUp sortR := fun s => ⟨sort_perm s, sort_sorted s⟩
theorem parse_good {s : List UInt8} (h : (parseM s).2 = 0) : chkE (parseM s).1 = 0 ∧ Thin (parseM s).1 := by
  unfold parseM at h ⊢
  split at h
  · simp at h
  · rename_i h60
    split at h
    · simp at h
    · rename_i hv
      have hv' : Lib.validD s = true := by simpa using hv
      obtain ⟨l, hl, rfl⟩ := valid_as hv'
      rw [charsOf_enc hl] at h ⊢
      have hlen := len_enc l
      rw [if_neg h60, if_neg hv]
      cases hp : parseC sortR l with
      | none => rw [hp] at h; simp at h
      | some n =>
        obtain ⟨h1, h2⟩ := parse_proper sortUp hp hl
        refine ⟨?_, thin_chk n h1⟩
        simp only [chkE]
        rw [if_neg (by omega)]; exact h1

/-- What was read of a text that parses: its characters. -/
theorem parse_chars {s : List UInt8} (h : (parseM s).2 = 0) : ∃ l, Chars l ∧ s = encS l ∧ parseC sortR l = some (parseM s).1 := by
  unfold parseM at h ⊢
  split at h
  · simp at h
  · rename_i h60
    split at h
    · simp at h
    · rename_i hv
      have hv' : Lib.validD s = true := by simpa using hv
      obtain ⟨l, hl, rfl⟩ := valid_as hv'
      rw [charsOf_enc hl] at h ⊢
      rw [if_neg h60, if_neg hv]
      cases hp : parseC sortR l with
      | none => rw [hp] at h; simp at h
      | some n => exact ⟨l, hl, rfl, by first | rfl | exact hp | (simp only; exact hp) | (rw [hp])⟩
theorem encB_small {b : Nat} (h : b < 128) : encB (b : Int) = [UInt8.ofNat b] := encB1 h
theorem encB_head {c : Int} (h : charB c = true) {b : UInt8} {r : List UInt8} (he : encB c = b :: r) (hb : b.toNat < 128) : c = (b.toNat : Int) ∧ r = [] := by
  obtain ⟨k, rfl, h1 | ⟨h1, h2⟩ | ⟨h1, h2, h3⟩ | ⟨h1, h2⟩⟩ := char_cases h
  · rw [encB1 h1] at he
    simp only [List.cons.injEq] at he
    rw [← he.1, u8n _ (by omega)]; exact ⟨rfl, he.2.symm⟩
  · rw [encB2 h1 h2] at he
    simp only [List.cons.injEq] at he
    rw [← he.1, u8n _ (by omega)] at hb; omega
  · rw [encB3 h1 h2 h3] at he
    simp only [List.cons.injEq] at he
    rw [← he.1, u8n _ (by omega)] at hb; omega
  · rw [encB4 h1 h2] at he
    simp only [List.cons.injEq] at he
    rw [← he.1, u8n _ (by omega)] at hb; omega
theorem encS_head {l : List Int} (h : Chars l) {b : UInt8} {r : List UInt8} (he : encS l = b :: r) (hb : b.toNat < 128) : ∃ m, l = (b.toNat : Int) :: m ∧ r = encS m := by
  cases l with
  | nil => cases he
  | cons c m =>
    rw [encS_cons] at he
    have hp := encB_pos c
    cases hc : encB c with
    | nil => rw [hc] at hp; simp at hp
    | cons d q =>
      rw [hc, List.cons_append, List.cons.injEq] at he
      obtain ⟨h1, h2⟩ := encB_head h.cons.1 hc (by rw [he.1]; exact hb)
      subst h2
      exact ⟨m, by rw [h1, he.1], by simpa using he.2.symm⟩

/-- A text that parses, and the text with a sign behind its first one. -/
theorem class_pair {items : List UInt8} (ha : (parseM (91 :: (items ++ [93]))).2 = 0) (hb : (parseM (91 :: 94 :: (items ++ [93]))).2 = 0) (hka : (parseM (91 :: (items ++ [93]))).1.kind = 2) (hkb : (parseM (91 :: 94 :: (items ++ [93]))).1.kind = 2)
    (h94 : ∀ r, items ≠ 94 :: r) {c : Int} (hc : charB c = true) : ∃ s1 s2, (parseM (91 :: (items ++ [93]))).1 = setT s1 ∧ (parseM (91 :: 94 :: (items ++ [93]))).1 = setT s2 ∧ (InSet s2 c ↔ ¬ InSet s1 c) := by
  obtain ⟨l1, hl1, e1, p1⟩ := parse_chars ha
  obtain ⟨l2, hl2, e2, p2⟩ := parse_chars hb
  generalize (parseM (91 :: (items ++ [93]))).1 = n1 at *
  generalize (parseM (91 :: 94 :: (items ++ [93]))).1 = n2 at *
  obtain ⟨m1, rfl, e1'⟩ := encS_head hl1 e1.symm (by decide)
  obtain ⟨m2, rfl, e2'⟩ := encS_head hl2 e2.symm (by decide)
  obtain ⟨m3, rfl, e3'⟩ := encS_head hl2.cons.2 e2'.symm (by decide)
  have hm : m1 = m3 := by
    have k1 := charsOf_enc (l := m1) (fun d hd => hl1 d (by simp [hd]))
    have k2 := charsOf_enc (l := m3) (fun d hd => hl2 d (by simp [hd]))
    rw [← k1, ← k2, ← e1', ← e3']
  subst hm
  have hm1 : Chars m1 := fun d hd => hl1 d (by simp [hd])
  obtain ⟨s1, q1, rfl⟩ := parse_set p1 hka
  obtain ⟨s2, q2, rfl⟩ := parse_set p2 hkb
  have hh : m1.headD (-1) ≠ 94 := by
    intro h
    cases m1 with
    | nil => cases h
    | cons d m =>
      simp only [List.headD_cons] at h
      subst h
      rw [encS_cons, show encB 94 = [94] from encB_small (b := 94) (by decide)] at e1'
      cases items with
      | nil => simp at e1'
      | cons x items =>
        simp only [List.cons_append, List.nil_append, List.cons.injEq] at e1'
        exact h94 items (by rw [e1'.1])
  unfold classP at q1 q2
  rw [if_neg hh, Option.map_eq_some_iff] at q1
  rw [if_pos (show List.headD (((94 : UInt8).toNat : Int) :: m1) (-1) = 94 from rfl), Option.map_eq_some_iff] at q2
  obtain ⟨⟨a1, r1⟩, c1, d1⟩ := q1
  obtain ⟨⟨a2, r2⟩, c2, d2⟩ := q2
  simp only [Prod.mk.injEq] at d1 d2
  have c1' := clsP_more _ c1
  simp only [List.tail_cons, List.length_cons] at c2
  rw [c1'] at c2
  simp only [Option.some.injEq, Prod.mk.injEq] at c2
  obtain ⟨rfl, _⟩ := c2
  have hg := clsP_ch _ c1 hm1 (by simp)
  have hap := norm_apart sortUp hg.1
  refine ⟨s1, s2, rfl, rfl, ?_⟩
  rw [← d1.1, ← d2.1, compS, comp_in hc _ 0 hap fun y hy => by
    have := (rgB_ok (hap.1 y hy)).1
    rw [charB_iff] at this; omega]
  have h0 : 0 ≤ c := by rw [charB_iff] at hc; omega
  exact ⟨fun h => h.2, fun h => ⟨h0, h⟩⟩
theorem class_match {items : List UInt8} (ha : (parseM (91 :: (items ++ [93]))).2 = 0) (hb : (parseM (91 :: 94 :: (items ++ [93]))).2 = 0) (hka : (parseM (91 :: (items ++ [93]))).1.kind = 2) (hkb : (parseM (91 :: 94 :: (items ++ [93]))).1.kind = 2)
    (h94 : ∀ r, items ≠ 94 :: r) {c : Int} (hc : charB c = true) : matchB (parseM (91 :: 94 :: (items ++ [93]))).1 (encB c) = !matchB (parseM (91 :: (items ++ [93]))).1 (encB c) := by
  have g1 := parse_good ha
  have g2 := parse_good hb
  obtain ⟨s1, s2, e1, e2, hiff⟩ := class_pair ha hb hka hkb h94 hc
  rw [e1] at g1 ⊢
  rw [e2] at g2 ⊢
  have k1 := match_one hc g1.1
  have k2 := match_one hc g2.1
  rw [Bool.eq_iff_iff, setT, setT, k2, hiff, Bool.not_eq_true', ← Bool.not_eq_true, k1]
end Go.Proofs.YtebejiilpedlmaaGreatDoor
set_option linter.unusedVariables false
set_option linter.unusedSimpArgs false
set_option maxRecDepth 100000
namespace Go.Proofs.YtebejiilpedlmaaGreatDoor
open Go Nv Pat

theorem i32_wf {z : Int} (h : (Lit.int .i32 z).wf = true) : -2147483648 ≤ z ∧ z < 2147483648 := by
  simp only [Lit.wf, Bool.and_eq_true, decide_eq_true_eq] at h
  have a : IntKind.i32.min = -2147483648 := by decide
  have b : IntKind.i32.max = 2147483647 := by decide
  omega
def nodeS (s : List (Int × Int)) : AV := .agg [.d (.int .i64 2), .d (setD s), .d .nilslice, .d (.int .i64 0), .d (.int .i64 0)]
def setN (s : List (Int × Int)) : Tree := .mk 2 s [] 0 0
theorem wk_setN (s : List (Int × Int)) : WkA (nodeS s) (nodeA (setN s)) := by
  refine .agg rfl fun i hi => ?_
  match i, hi with
  | 0, _ => exact .refl _
  | 1, _ => exact .refl _
  | 2, _ => exact .nil 5
  | 3, _ => exact .refl _
  | 4, _ => exact .refl _
  | i + 5, hi => simp at hi; omega
theorem wks_one {f : FuncId} {s : List (Int × Int)} {r : AV} (h : PCall Tryz.prog f [nodeA (setN s)] r) : PCall Tryz.prog f [nodeS s] r := by
  refine h.wk rfl fun i hi => ?_
  match i, hi with
  | 0, _ => exact wk_setN s
theorem wks_two {f : FuncId} {s : List (Int × Int)} {x r : AV} (h : PCall Tryz.prog f [nodeA (setN s), x] r) : PCall Tryz.prog f [nodeS s, x] r := by
  refine h.wk rfl fun i hi => ?_
  match i, hi with
  | 0, _ => exact wk_setN s
  | 1, _ => exact .refl _
theorem enc_len (c : Int) (h : charB c = true) : (encB c).length ≤ 4 := by
  obtain ⟨k, rfl, h1 | ⟨h1, h2⟩ | ⟨h1, h2, h3⟩ | ⟨h1, h2⟩⟩ := char_cases h
  · rw [encB1 h1]; simp
  · rw [encB2 h1 h2]; simp
  · rw [encB3 h1 h2 h3]; simp
  · rw [encB4 h1 h2]; simp
def hasB (s : List (Int × Int)) (c : Int) : Bool := s.any fun r => decide (r.1 ≤ c) && decide (c ≤ r.2)
theorem hasB_iff (s : List (Int × Int)) (c : Int) : hasB s c = true ↔ InSet s c := by
  simp [hasB, InSet]
theorem hasB_take (s : List (Int × Int)) (c : Int) (j : Nat) (h : j < s.length) : hasB (s.take (j + 1)) c = (hasB (s.take j) c || (decide ((s.getD j default).1 ≤ c) && decide (c ≤ (s.getD j default).2))) := by
  unfold hasB
  rw [List.take_add_one, List.getElem?_eq_getElem h, List.any_append, List.getD_eq_getElem?_getD, List.getElem?_eq_getElem h]
  simp

def hint16 : Nat → Hint := fun i => if i = 16 then .freeze else .no
@[go_sem] theorem hint16_at (i : Nat) : hint16 i = if i = 16 then .freeze else .no := nrfl rfl

theorem law9 (aw : PCall Tryz.prog 11 [] (.d (.bool true))) (l : List (Int × Int)) (c : Int) (q1 : -2147483648 ≤ c) (q2 : c < 2147483648) (items : List UInt8) (hi : items.length ≤ 140737488355328) :
    PCall Tryz.prog 9 [.d (setD l), .d (.int .i32 c), .d (.str items)] (.d (.bool true)) := by
  refine fn9.pure hint16 (Nat.le_refl _) (by simp only [go_sem, setD]) (by simp only [go_sem]) ?_
  refine wW_cut (fun fr σ => fr 0 = .d (setD l) ∧ fr 1 = .d (.int .i32 c) ∧ fr 2 = .d (.str items) ∧ σ = []) ?_ ?_
  · simp (disch := omega) only [go_sem, reduceIte, reduceDIte, reduceCtorEq, Nat.reduceBEq, Nat.reduceEqDiff, Nat.reduceAdd, Nat.reduceSub, Nat.reduceMul, Nat.reduceLT, Nat.reduceLeDiff, Nat.reduceBNe, Int.reduceNeg, Int.reduceAdd, Int.reduceSub, Int.reduceMul, Int.reduceLT, Int.reduceLE, Int.reduceGT, Int.reduceGE, Int.reduceEq, Int.reduceNe, Int.reduceToNat, Int.reduceTMod, Int.reduceTDiv, setD]
  rintro fr σ ⟨f0, f1, f2, rfl⟩
  refine wW_cut (fun fr σ => fr 0 = .d (setD l) ∧ fr 1 = .d (.int .i32 c) ∧ fr 2 = .d (.str items) ∧ fr 7 = .d (.str (encA c)) ∧ ∃ b0, σ = [b0]) ?_ ?_
  · simp (disch := omega) only [go_sem, reduceIte, reduceDIte, reduceCtorEq, Nat.reduceBEq, Nat.reduceEqDiff, Nat.reduceAdd, Nat.reduceSub, Nat.reduceMul, Nat.reduceLT, Nat.reduceLeDiff, Nat.reduceBNe, Int.reduceNeg, Int.reduceAdd, Int.reduceSub, Int.reduceMul, Int.reduceLT, Int.reduceLE, Int.reduceGT, Int.reduceGE, Int.reduceEq, Int.reduceNe, Int.reduceToNat, Int.reduceTMod, Int.reduceTDiv, f1]
    refine (encode21 c q1 q2).at ?_
    simp (disch := omega) only [go_sem, reduceIte, reduceDIte, reduceCtorEq, Nat.reduceBEq, Nat.reduceEqDiff, Nat.reduceAdd, Nat.reduceSub, Nat.reduceMul, Nat.reduceLT, Nat.reduceLeDiff, Nat.reduceBNe, Int.reduceNeg, Int.reduceAdd, Int.reduceSub, Int.reduceMul, Int.reduceLT, Int.reduceLE, Int.reduceGT, Int.reduceGE, Int.reduceEq, Int.reduceNe, Int.reduceToNat, Int.reduceTMod, Int.reduceTDiv, f0, f1, f2]
    exact ⟨_, rfl⟩
  rintro fr σ ⟨f0, f1, f2, f7, b0, rfl⟩
  refine wW_cut (fun fr σ => (fr 0 = .d (setD l) ∧ fr 1 = .d (.int .i32 c) ∧ fr 2 = .d (.str items) ∧ fr 7 = .d (.str (encA c)) ∧ ∃ b0, σ = [b0]) ∧ charB c = true ∧ items.length ≤ 40) ?_ ?_
  · by_cases h1 : c < 0
    · simp (disch := omega) only [go_sem, reduceIte, reduceDIte, reduceCtorEq, Nat.reduceBEq, Nat.reduceEqDiff, Nat.reduceAdd, Nat.reduceSub, Nat.reduceMul, Nat.reduceLT, Nat.reduceLeDiff, Nat.reduceBNe, Int.reduceNeg, Int.reduceAdd, Int.reduceSub, Int.reduceMul, Int.reduceLT, Int.reduceLE, Int.reduceGT, Int.reduceGE, Int.reduceEq, Int.reduceNe, Int.reduceToNat, Int.reduceTMod, Int.reduceTDiv, f1, f2, h1]; refine aw.at ?_; simp (disch := omega) only [go_sem, reduceIte, reduceDIte, reduceCtorEq, Nat.reduceBEq, Nat.reduceEqDiff, Nat.reduceAdd, Nat.reduceSub, Nat.reduceMul, Nat.reduceLT, Nat.reduceLeDiff, Nat.reduceBNe, Int.reduceNeg, Int.reduceAdd, Int.reduceSub, Int.reduceMul, Int.reduceLT, Int.reduceLE, Int.reduceGT, Int.reduceGE, Int.reduceEq, Int.reduceNe, Int.reduceToNat, Int.reduceTMod, Int.reduceTDiv]
    by_cases h2 : 1114111 < c
    · simp (disch := omega) only [go_sem, reduceIte, reduceDIte, reduceCtorEq, Nat.reduceBEq, Nat.reduceEqDiff, Nat.reduceAdd, Nat.reduceSub, Nat.reduceMul, Nat.reduceLT, Nat.reduceLeDiff, Nat.reduceBNe, Int.reduceNeg, Int.reduceAdd, Int.reduceSub, Int.reduceMul, Int.reduceLT, Int.reduceLE, Int.reduceGT, Int.reduceGE, Int.reduceEq, Int.reduceNe, Int.reduceToNat, Int.reduceTMod, Int.reduceTDiv, f1, f2, h1, h2]; refine aw.at ?_; simp (disch := omega) only [go_sem, reduceIte, reduceDIte, reduceCtorEq, Nat.reduceBEq, Nat.reduceEqDiff, Nat.reduceAdd, Nat.reduceSub, Nat.reduceMul, Nat.reduceLT, Nat.reduceLeDiff, Nat.reduceBNe, Int.reduceNeg, Int.reduceAdd, Int.reduceSub, Int.reduceMul, Int.reduceLT, Int.reduceLE, Int.reduceGT, Int.reduceGE, Int.reduceEq, Int.reduceNe, Int.reduceToNat, Int.reduceTMod, Int.reduceTDiv]
    by_cases h3 : 55296 ≤ c
    · by_cases h4 : c ≤ 57343
      · simp (disch := omega) only [go_sem, reduceIte, reduceDIte, reduceCtorEq, Nat.reduceBEq, Nat.reduceEqDiff, Nat.reduceAdd, Nat.reduceSub, Nat.reduceMul, Nat.reduceLT, Nat.reduceLeDiff, Nat.reduceBNe, Int.reduceNeg, Int.reduceAdd, Int.reduceSub, Int.reduceMul, Int.reduceLT, Int.reduceLE, Int.reduceGT, Int.reduceGE, Int.reduceEq, Int.reduceNe, Int.reduceToNat, Int.reduceTMod, Int.reduceTDiv, f1, f2, h1, h2, h3, h4]; refine aw.at ?_; simp (disch := omega) only [go_sem, reduceIte, reduceDIte, reduceCtorEq, Nat.reduceBEq, Nat.reduceEqDiff, Nat.reduceAdd, Nat.reduceSub, Nat.reduceMul, Nat.reduceLT, Nat.reduceLeDiff, Nat.reduceBNe, Int.reduceNeg, Int.reduceAdd, Int.reduceSub, Int.reduceMul, Int.reduceLT, Int.reduceLE, Int.reduceGT, Int.reduceGE, Int.reduceEq, Int.reduceNe, Int.reduceToNat, Int.reduceTMod, Int.reduceTDiv]
      by_cases h5 : (40 : Int) < items.length
      · simp (disch := omega) only [go_sem, reduceIte, reduceDIte, reduceCtorEq, Nat.reduceBEq, Nat.reduceEqDiff, Nat.reduceAdd, Nat.reduceSub, Nat.reduceMul, Nat.reduceLT, Nat.reduceLeDiff, Nat.reduceBNe, Int.reduceNeg, Int.reduceAdd, Int.reduceSub, Int.reduceMul, Int.reduceLT, Int.reduceLE, Int.reduceGT, Int.reduceGE, Int.reduceEq, Int.reduceNe, Int.reduceToNat, Int.reduceTMod, Int.reduceTDiv, f1, f2, h1, h2, h3, h4, h5]; refine aw.at ?_; simp (disch := omega) only [go_sem, reduceIte, reduceDIte, reduceCtorEq, Nat.reduceBEq, Nat.reduceEqDiff, Nat.reduceAdd, Nat.reduceSub, Nat.reduceMul, Nat.reduceLT, Nat.reduceLeDiff, Nat.reduceBNe, Int.reduceNeg, Int.reduceAdd, Int.reduceSub, Int.reduceMul, Int.reduceLT, Int.reduceLE, Int.reduceGT, Int.reduceGE, Int.reduceEq, Int.reduceNe, Int.reduceToNat, Int.reduceTMod, Int.reduceTDiv]
      · simp (disch := omega) only [go_sem, reduceIte, reduceDIte, reduceCtorEq, Nat.reduceBEq, Nat.reduceEqDiff, Nat.reduceAdd, Nat.reduceSub, Nat.reduceMul, Nat.reduceLT, Nat.reduceLeDiff, Nat.reduceBNe, Int.reduceNeg, Int.reduceAdd, Int.reduceSub, Int.reduceMul, Int.reduceLT, Int.reduceLE, Int.reduceGT, Int.reduceGE, Int.reduceEq, Int.reduceNe, Int.reduceToNat, Int.reduceTMod, Int.reduceTDiv, f0, f1, f2, f7, h1, h2, h3, h4, h5]
        refine ⟨⟨_, rfl⟩, ?_, by omega⟩
        rw [charB_iff]; omega
    · by_cases h5 : (40 : Int) < items.length
      · simp (disch := omega) only [go_sem, reduceIte, reduceDIte, reduceCtorEq, Nat.reduceBEq, Nat.reduceEqDiff, Nat.reduceAdd, Nat.reduceSub, Nat.reduceMul, Nat.reduceLT, Nat.reduceLeDiff, Nat.reduceBNe, Int.reduceNeg, Int.reduceAdd, Int.reduceSub, Int.reduceMul, Int.reduceLT, Int.reduceLE, Int.reduceGT, Int.reduceGE, Int.reduceEq, Int.reduceNe, Int.reduceToNat, Int.reduceTMod, Int.reduceTDiv, f1, f2, h1, h2, h3, h5]; refine aw.at ?_; simp (disch := omega) only [go_sem, reduceIte, reduceDIte, reduceCtorEq, Nat.reduceBEq, Nat.reduceEqDiff, Nat.reduceAdd, Nat.reduceSub, Nat.reduceMul, Nat.reduceLT, Nat.reduceLeDiff, Nat.reduceBNe, Int.reduceNeg, Int.reduceAdd, Int.reduceSub, Int.reduceMul, Int.reduceLT, Int.reduceLE, Int.reduceGT, Int.reduceGE, Int.reduceEq, Int.reduceNe, Int.reduceToNat, Int.reduceTMod, Int.reduceTDiv]
      · simp (disch := omega) only [go_sem, reduceIte, reduceDIte, reduceCtorEq, Nat.reduceBEq, Nat.reduceEqDiff, Nat.reduceAdd, Nat.reduceSub, Nat.reduceMul, Nat.reduceLT, Nat.reduceLeDiff, Nat.reduceBNe, Int.reduceNeg, Int.reduceAdd, Int.reduceSub, Int.reduceMul, Int.reduceLT, Int.reduceLE, Int.reduceGT, Int.reduceGE, Int.reduceEq, Int.reduceNe, Int.reduceToNat, Int.reduceTMod, Int.reduceTDiv, f0, f1, f2, f7, h1, h2, h3, h5]
        refine ⟨⟨_, rfl⟩, ?_, by omega⟩
        rw [charB_iff]; omega
  rintro fr σ ⟨⟨f0, f1, f2, f7, b0, rfl⟩, hc, hlen⟩
  rw [encA, if_pos hc] at f7
  refine wW_cut (fun fr σ => fr 0 = .d (setD l) ∧ fr 1 = .d (.int .i32 c) ∧ fr 2 = .d (.str items) ∧ fr 7 = .d (.str (encB c)) ∧ fr 8 = .ptr 1 0 ∧ σ = [b0, .box 25 [.d (.int .i64 2), .d (setD l), .d .nilslice, .d (.int .i64 0), .d (.int .i64 0)]]) ?_ ?_
  · simp (disch := omega) only [go_sem, reduceIte, reduceDIte, reduceCtorEq, Nat.reduceBEq, Nat.reduceEqDiff, Nat.reduceAdd, Nat.reduceSub, Nat.reduceMul, Nat.reduceLT, Nat.reduceLeDiff, Nat.reduceBNe, Int.reduceNeg, Int.reduceAdd, Int.reduceSub, Int.reduceMul, Int.reduceLT, Int.reduceLE, Int.reduceGT, Int.reduceGE, Int.reduceEq, Int.reduceNe, Int.reduceToNat, Int.reduceTMod, Int.reduceTDiv, f0, f1, f2, f7, setD]
  rintro fr σ ⟨f0, f1, f2, f7, f8, rfl⟩
  refine wW_cut (fun fr σ => fr 1 = .d (.int .i32 c) ∧ fr 2 = .d (.str items) ∧ fr 7 = .d (.str (encB c)) ∧ ∃ b0 blk, σ = [b0, blk]) ?_ ?_
  · have mrg : ∀ {σ : Nv.ST}, σ = [b0, .box 25 [.d (.int .i64 2), .d (setD l), .d .nilslice, .d (.int .i64 0), .d (.int .i64 0)]] → ∃ b0 blk, σ = [b0, blk] := fun h => ⟨_, _, h⟩
    by_cases h60 : (l.length : Int) ≤ 60
    · have hth : Thin (setN l) := ⟨by omega, trivial⟩
      have hck := wks_one (check13 (setN l) hth)
      simp only [nodeS, setD] at hck
      simp (disch := omega) only [go_sem, reduceIte, reduceDIte, reduceCtorEq, Nat.reduceBEq, Nat.reduceEqDiff, Nat.reduceAdd, Nat.reduceSub, Nat.reduceMul, Nat.reduceLT, Nat.reduceLeDiff, Nat.reduceBNe, Int.reduceNeg, Int.reduceAdd, Int.reduceSub, Int.reduceMul, Int.reduceLT, Int.reduceLE, Int.reduceGT, Int.reduceGE, Int.reduceEq, Int.reduceNe, Int.reduceToNat, Int.reduceTMod, Int.reduceTDiv, f0, f1, f2, f7, f8, setD, List.length_map, h60]
      refine hck.at ?_
      by_cases h0 : chkE (setN l) = 0
      · have hm := fun z hz => wks_two (match17 (setN l) hth z hz)
        simp only [nodeS, setD] at hm
        have hm1 := hm (encB c) (by have := enc_len c hc; omega)
        have hm2 := hm [] (by simp)
        have hm3 := hm (encB c ++ encB c) (by have := enc_len c hc; simp; omega)
        have e1 : matchB (setN l) (encB c) = hasB l c := by rw [Bool.eq_iff_iff, setN, match_one hc h0, hasB_iff]
        have e2 : matchB (setN l) [] = false := match_none l
        have e3 : matchB (setN l) (encB c ++ encB c) = false := match_two l hc
        rw [e1] at hm1
        rw [e2] at hm2
        rw [e3] at hm3
        simp (disch := omega) only [go_sem, reduceIte, reduceDIte, reduceCtorEq, Nat.reduceBEq, Nat.reduceEqDiff, Nat.reduceAdd, Nat.reduceSub, Nat.reduceMul, Nat.reduceLT, Nat.reduceLeDiff, Nat.reduceBNe, Int.reduceNeg, Int.reduceAdd, Int.reduceSub, Int.reduceMul, Int.reduceLT, Int.reduceLE, Int.reduceGT, Int.reduceGE, Int.reduceEq, Int.reduceNe, Int.reduceToNat, Int.reduceTMod, Int.reduceTDiv, h0]
        refine wL_ind (fun (j : Nat) fr σ => j ≤ l.length ∧ fr 0 = .d (.list 2 (l.map rgD)) ∧ fr 1 = .d (.int .i32 c) ∧ fr 2 = .d (.str items) ∧ fr 7 = .d (.str (encB c)) ∧ fr 8 = .ptr 1 0 ∧ fr 9 = .d (.bool (hasB (l.take j) c)) ∧ fr 10 = .d (.int .i64 j) ∧ σ = [b0, .box 25 [.d (.int .i64 2), .d (.list 2 (l.map rgD)), .d .nilslice, .d (.int .i64 0), .d (.int .i64 0)]]) (fun j => l.length - j) ?_ 0 ?_
        · rintro j fr σ ⟨hj, g0, g1, g2, g7, g8, g9, g10, rfl⟩ ihl
          by_cases hlt : j < l.length
          · have ht := hasB_take l c j hlt
            have gd : (l.map rgD).getD j default = rgD (l.getD j default) := by simp [List.getD_eq_getElem?_getD, hlt]
            obtain ⟨r, hr⟩ : ∃ r, r = l.getD j default := ⟨_, rfl⟩
            rw [← hr] at ht gd
            cases hb : hasB (l.take j) c
            · rw [hb, Bool.false_or] at ht
              rw [hb] at g9
              by_cases h1 : r.1 ≤ c
              · by_cases h2 : c ≤ r.2
                · simp (disch := omega) only [go_sem, reduceIte, reduceDIte, reduceCtorEq, Nat.reduceBEq, Nat.reduceEqDiff, Nat.reduceAdd, Nat.reduceSub, Nat.reduceMul, Nat.reduceLT, Nat.reduceLeDiff, Nat.reduceBNe, Int.reduceNeg, Int.reduceAdd, Int.reduceSub, Int.reduceMul, Int.reduceLT, Int.reduceLE, Int.reduceGT, Int.reduceGE, Int.reduceEq, Int.reduceNe, Int.reduceToNat, Int.reduceTMod, Int.reduceTDiv, g0, g1, g2, g7, g8, g9, g10, List.length_map, hlt, gd, rgD, h1, h2]
                  refine ihl (j + 1) _ _ (by omega) ⟨by omega, ?_, ?_, ?_, ?_, ?_, ?_, ?_, ?_⟩ <;> simp (disch := omega) only [go_sem, reduceIte, reduceDIte, reduceCtorEq, Nat.reduceBEq, Nat.reduceEqDiff, Nat.reduceAdd, Nat.reduceSub, Nat.reduceMul, Nat.reduceLT, Nat.reduceLeDiff, Nat.reduceBNe, Int.reduceNeg, Int.reduceAdd, Int.reduceSub, Int.reduceMul, Int.reduceLT, Int.reduceLE, Int.reduceGT, Int.reduceGE, Int.reduceEq, Int.reduceNe, Int.reduceToNat, Int.reduceTMod, Int.reduceTDiv, g0, g1, g2, g7, g8, g10, ht, h1, h2, decide_true, decide_false]
                · simp (disch := omega) only [go_sem, reduceIte, reduceDIte, reduceCtorEq, Nat.reduceBEq, Nat.reduceEqDiff, Nat.reduceAdd, Nat.reduceSub, Nat.reduceMul, Nat.reduceLT, Nat.reduceLeDiff, Nat.reduceBNe, Int.reduceNeg, Int.reduceAdd, Int.reduceSub, Int.reduceMul, Int.reduceLT, Int.reduceLE, Int.reduceGT, Int.reduceGE, Int.reduceEq, Int.reduceNe, Int.reduceToNat, Int.reduceTMod, Int.reduceTDiv, g0, g1, g2, g7, g8, g9, g10, List.length_map, hlt, gd, rgD, h1, h2]
                  refine ihl (j + 1) _ _ (by omega) ⟨by omega, ?_, ?_, ?_, ?_, ?_, ?_, ?_, ?_⟩ <;> simp (disch := omega) only [go_sem, reduceIte, reduceDIte, reduceCtorEq, Nat.reduceBEq, Nat.reduceEqDiff, Nat.reduceAdd, Nat.reduceSub, Nat.reduceMul, Nat.reduceLT, Nat.reduceLeDiff, Nat.reduceBNe, Int.reduceNeg, Int.reduceAdd, Int.reduceSub, Int.reduceMul, Int.reduceLT, Int.reduceLE, Int.reduceGT, Int.reduceGE, Int.reduceEq, Int.reduceNe, Int.reduceToNat, Int.reduceTMod, Int.reduceTDiv, g0, g1, g2, g7, g8, g10, ht, h1, h2, decide_true, decide_false]
              · simp (disch := omega) only [go_sem, reduceIte, reduceDIte, reduceCtorEq, Nat.reduceBEq, Nat.reduceEqDiff, Nat.reduceAdd, Nat.reduceSub, Nat.reduceMul, Nat.reduceLT, Nat.reduceLeDiff, Nat.reduceBNe, Int.reduceNeg, Int.reduceAdd, Int.reduceSub, Int.reduceMul, Int.reduceLT, Int.reduceLE, Int.reduceGT, Int.reduceGE, Int.reduceEq, Int.reduceNe, Int.reduceToNat, Int.reduceTMod, Int.reduceTDiv, g0, g1, g2, g7, g8, g9, g10, List.length_map, hlt, gd, rgD, h1]
                refine ihl (j + 1) _ _ (by omega) ⟨by omega, ?_, ?_, ?_, ?_, ?_, ?_, ?_, ?_⟩ <;> simp (disch := omega) only [go_sem, reduceIte, reduceDIte, reduceCtorEq, Nat.reduceBEq, Nat.reduceEqDiff, Nat.reduceAdd, Nat.reduceSub, Nat.reduceMul, Nat.reduceLT, Nat.reduceLeDiff, Nat.reduceBNe, Int.reduceNeg, Int.reduceAdd, Int.reduceSub, Int.reduceMul, Int.reduceLT, Int.reduceLE, Int.reduceGT, Int.reduceGE, Int.reduceEq, Int.reduceNe, Int.reduceToNat, Int.reduceTMod, Int.reduceTDiv, g0, g1, g2, g7, g8, g10, ht, h1, decide_true, decide_false]
            · rw [hb, Bool.true_or] at ht
              rw [hb] at g9
              simp (disch := omega) only [go_sem, reduceIte, reduceDIte, reduceCtorEq, Nat.reduceBEq, Nat.reduceEqDiff, Nat.reduceAdd, Nat.reduceSub, Nat.reduceMul, Nat.reduceLT, Nat.reduceLeDiff, Nat.reduceBNe, Int.reduceNeg, Int.reduceAdd, Int.reduceSub, Int.reduceMul, Int.reduceLT, Int.reduceLE, Int.reduceGT, Int.reduceGE, Int.reduceEq, Int.reduceNe, Int.reduceToNat, Int.reduceTMod, Int.reduceTDiv, g0, g1, g2, g7, g8, g9, g10, List.length_map, hlt]
              refine ihl (j + 1) _ _ (by omega) ⟨by omega, ?_, ?_, ?_, ?_, ?_, ?_, ?_, ?_⟩ <;> simp (disch := omega) only [go_sem, reduceIte, reduceDIte, reduceCtorEq, Nat.reduceBEq, Nat.reduceEqDiff, Nat.reduceAdd, Nat.reduceSub, Nat.reduceMul, Nat.reduceLT, Nat.reduceLeDiff, Nat.reduceBNe, Int.reduceNeg, Int.reduceAdd, Int.reduceSub, Int.reduceMul, Int.reduceLT, Int.reduceLE, Int.reduceGT, Int.reduceGE, Int.reduceEq, Int.reduceNe, Int.reduceToNat, Int.reduceTMod, Int.reduceTDiv, g0, g1, g2, g7, g8, g10, ht]
          · have e : l.take j = l := List.take_of_length_le (by omega)
            rw [e] at g9
            generalize hasB l c = want at hm1 g9
            cases want
            all_goals (
              simp (disch := omega) only [go_sem, reduceIte, reduceDIte, reduceCtorEq, Nat.reduceBEq, Nat.reduceEqDiff, Nat.reduceAdd, Nat.reduceSub, Nat.reduceMul, Nat.reduceLT, Nat.reduceLeDiff, Nat.reduceBNe, Int.reduceNeg, Int.reduceAdd, Int.reduceSub, Int.reduceMul, Int.reduceLT, Int.reduceLE, Int.reduceGT, Int.reduceGE, Int.reduceEq, Int.reduceNe, Int.reduceToNat, Int.reduceTMod, Int.reduceTDiv, g0, g1, g2, g7, g8, g9, g10, List.length_map, hlt]
              refine hm1.at ?_
              simp (disch := omega) only [go_sem, reduceIte, reduceDIte, reduceCtorEq, Nat.reduceBEq, Nat.reduceEqDiff, Nat.reduceAdd, Nat.reduceSub, Nat.reduceMul, Nat.reduceLT, Nat.reduceLeDiff, Nat.reduceBNe, Int.reduceNeg, Int.reduceAdd, Int.reduceSub, Int.reduceMul, Int.reduceLT, Int.reduceLE, Int.reduceGT, Int.reduceGE, Int.reduceEq, Int.reduceNe, Int.reduceToNat, Int.reduceTMod, Int.reduceTDiv, g0, g1, g2, g7, g8, g9, g10]
              refine hm2.at ?_
              simp (disch := omega) only [go_sem, reduceIte, reduceDIte, reduceCtorEq, Nat.reduceBEq, Nat.reduceEqDiff, Nat.reduceAdd, Nat.reduceSub, Nat.reduceMul, Nat.reduceLT, Nat.reduceLeDiff, Nat.reduceBNe, Int.reduceNeg, Int.reduceAdd, Int.reduceSub, Int.reduceMul, Int.reduceLT, Int.reduceLE, Int.reduceGT, Int.reduceGE, Int.reduceEq, Int.reduceNe, Int.reduceToNat, Int.reduceTMod, Int.reduceTDiv, g0, g1, g2, g7, g8, g9, g10]
              refine ⟨by have := enc_len c hc; omega, ?_⟩
              refine hm3.at ?_
              simp (disch := omega) only [go_sem, reduceIte, reduceDIte, reduceCtorEq, Nat.reduceBEq, Nat.reduceEqDiff, Nat.reduceAdd, Nat.reduceSub, Nat.reduceMul, Nat.reduceLT, Nat.reduceLeDiff, Nat.reduceBNe, Int.reduceNeg, Int.reduceAdd, Int.reduceSub, Int.reduceMul, Int.reduceLT, Int.reduceLE, Int.reduceGT, Int.reduceGE, Int.reduceEq, Int.reduceNe, Int.reduceToNat, Int.reduceTMod, Int.reduceTDiv, g0, g1, g2, g7, g8, g9, g10]
              exact ⟨_, _, rfl⟩)
        · have hn : hasB [] c = false := rfl
          refine ⟨by omega, ?_, ?_, ?_, ?_, ?_, ?_, ?_, ?_⟩ <;> simp (disch := omega) only [go_sem, reduceIte, reduceDIte, reduceCtorEq, Nat.reduceBEq, Nat.reduceEqDiff, Nat.reduceAdd, Nat.reduceSub, Nat.reduceMul, Nat.reduceLT, Nat.reduceLeDiff, Nat.reduceBNe, Int.reduceNeg, Int.reduceAdd, Int.reduceSub, Int.reduceMul, Int.reduceLT, Int.reduceLE, Int.reduceGT, Int.reduceGE, Int.reduceEq, Int.reduceNe, Int.reduceToNat, Int.reduceTMod, Int.reduceTDiv, f0, f1, f2, f7, f8, setD, hn]
      · simp (disch := omega) only [go_sem, reduceIte, reduceDIte, reduceCtorEq, Nat.reduceBEq, Nat.reduceEqDiff, Nat.reduceAdd, Nat.reduceSub, Nat.reduceMul, Nat.reduceLT, Nat.reduceLeDiff, Nat.reduceBNe, Int.reduceNeg, Int.reduceAdd, Int.reduceSub, Int.reduceMul, Int.reduceLT, Int.reduceLE, Int.reduceGT, Int.reduceGE, Int.reduceEq, Int.reduceNe, Int.reduceToNat, Int.reduceTMod, Int.reduceTDiv, h0, f0, f1, f2, f7, f8]
        exact ⟨_, _, rfl⟩
    · simp (disch := omega) only [go_sem, reduceIte, reduceDIte, reduceCtorEq, Nat.reduceBEq, Nat.reduceEqDiff, Nat.reduceAdd, Nat.reduceSub, Nat.reduceMul, Nat.reduceLT, Nat.reduceLeDiff, Nat.reduceBNe, Int.reduceNeg, Int.reduceAdd, Int.reduceSub, Int.reduceMul, Int.reduceLT, Int.reduceLE, Int.reduceGT, Int.reduceGE, Int.reduceEq, Int.reduceNe, Int.reduceToNat, Int.reduceTMod, Int.reduceTDiv, f0, f1, f2, f7, f8, setD, List.length_map, h60]
      exact ⟨_, _, rfl⟩
  rintro fr σ ⟨f1, f2, f7, b0, blk, rfl⟩
  have hpa := parse14 (91 :: (items ++ [93])) (by simp; omega)
  have hpb := parse14 (91 :: 94 :: (items ++ [93])) (by simp; omega)
  have hma := fun h z hz => match17 (parseM (91 :: (items ++ [93]))).1 h z hz
  have hmb := fun h z hz => match17 (parseM (91 :: 94 :: (items ++ [93]))).1 h z hz
  have hcm := fun a b k1 k2 h94 => class_match (items := items) a b k1 k2 h94 hc
  have ga := fun h => parse_good (s := 91 :: (items ++ [93])) h
  have gb := fun h => parse_good (s := 91 :: 94 :: (items ++ [93])) h
  generalize parseM (91 :: (items ++ [93])) = A at hpa hma hcm ga
  generalize parseM (91 :: 94 :: (items ++ [93])) = B at hpb hmb hcm gb
  obtain ⟨n1, x1⟩ := A
  obtain ⟨n2, x2⟩ := B
  simp only at hpa hpb hma hmb hcm ga gb
  simp only [nodeA, nodeF] at hpa hpb hma hmb
  refine wW_cut (fun fr σ => fr 2 = .d (.str items) ∧ fr 7 = .d (.str (encB c)) ∧ fr 11 = .ptr 2 0 ∧ fr 12 = .d (.int .i64 x1) ∧ σ = [b0, blk, .box 25 (nodeF n1)]) ?_ ?_
  · simp (disch := omega) only [go_sem, reduceIte, reduceDIte, reduceCtorEq, Nat.reduceBEq, Nat.reduceEqDiff, Nat.reduceAdd, Nat.reduceSub, Nat.reduceMul, Nat.reduceLT, Nat.reduceLeDiff, Nat.reduceBNe, Int.reduceNeg, Int.reduceAdd, Int.reduceSub, Int.reduceMul, Int.reduceLT, Int.reduceLE, Int.reduceGT, Int.reduceGE, Int.reduceEq, Int.reduceNe, Int.reduceToNat, Int.reduceTMod, Int.reduceTDiv, f1, f2, f7]
    refine ⟨by omega, by omega, ?_⟩
    refine hpa.at ?_
    simp (disch := omega) only [go_sem, reduceIte, reduceDIte, reduceCtorEq, Nat.reduceBEq, Nat.reduceEqDiff, Nat.reduceAdd, Nat.reduceSub, Nat.reduceMul, Nat.reduceLT, Nat.reduceLeDiff, Nat.reduceBNe, Int.reduceNeg, Int.reduceAdd, Int.reduceSub, Int.reduceMul, Int.reduceLT, Int.reduceLE, Int.reduceGT, Int.reduceGE, Int.reduceEq, Int.reduceNe, Int.reduceToNat, Int.reduceTMod, Int.reduceTDiv, f1, f2, f7, nodeF]
  rintro fr σ ⟨f2, f7, f11, f12, rfl⟩
  refine wW_cut (fun fr σ => fr 2 = .d (.str items) ∧ fr 7 = .d (.str (encB c)) ∧ fr 11 = .ptr 2 0 ∧ fr 12 = .d (.int .i64 x1) ∧ fr 13 = .ptr 3 0 ∧ fr 14 = .d (.int .i64 x2) ∧ σ = [b0, blk, .box 25 (nodeF n1), .box 25 (nodeF n2)]) ?_ ?_
  · simp (disch := omega) only [go_sem, reduceIte, reduceDIte, reduceCtorEq, Nat.reduceBEq, Nat.reduceEqDiff, Nat.reduceAdd, Nat.reduceSub, Nat.reduceMul, Nat.reduceLT, Nat.reduceLeDiff, Nat.reduceBNe, Int.reduceNeg, Int.reduceAdd, Int.reduceSub, Int.reduceMul, Int.reduceLT, Int.reduceLE, Int.reduceGT, Int.reduceGE, Int.reduceEq, Int.reduceNe, Int.reduceToNat, Int.reduceTMod, Int.reduceTDiv, f2, f7, f11, f12]
    refine ⟨by omega, by omega, ?_⟩
    refine hpb.at ?_
    simp (disch := omega) only [go_sem, reduceIte, reduceDIte, reduceCtorEq, Nat.reduceBEq, Nat.reduceEqDiff, Nat.reduceAdd, Nat.reduceSub, Nat.reduceMul, Nat.reduceLT, Nat.reduceLeDiff, Nat.reduceBNe, Int.reduceNeg, Int.reduceAdd, Int.reduceSub, Int.reduceMul, Int.reduceLT, Int.reduceLE, Int.reduceGT, Int.reduceGE, Int.reduceEq, Int.reduceNe, Int.reduceToNat, Int.reduceTMod, Int.reduceTDiv, f2, f7, f11, f12, nodeF]
  rintro fr σ ⟨f2, f7, f11, f12, f13, f14, rfl⟩
  refine wW_cut (fun fr σ => (fr 7 = .d (.str (encB c)) ∧ fr 11 = .ptr 2 0 ∧ fr 13 = .ptr 3 0 ∧ σ = [b0, blk, .box 25 (nodeF n1), .box 25 (nodeF n2)]) ∧ x1 = 0 ∧ x2 = 0 ∧ n1.kind = 2 ∧ n2.kind = 2 ∧ ∀ r, items ≠ 94 :: r) ?_ ?_
  · by_cases h1 : x1 = 0
    · by_cases h2 : x2 = 0
      · by_cases h3 : n1.kind = 2
        · by_cases h4 : n2.kind = 2
          · cases hit : items with
            | nil =>
              rw [hit] at f2
              simp (disch := omega) only [go_sem, reduceIte, reduceDIte, reduceCtorEq, Nat.reduceBEq, Nat.reduceEqDiff, Nat.reduceAdd, Nat.reduceSub, Nat.reduceMul, Nat.reduceLT, Nat.reduceLeDiff, Nat.reduceBNe, Int.reduceNeg, Int.reduceAdd, Int.reduceSub, Int.reduceMul, Int.reduceLT, Int.reduceLE, Int.reduceGT, Int.reduceGE, Int.reduceEq, Int.reduceNe, Int.reduceToNat, Int.reduceTMod, Int.reduceTDiv, f2, f7, f11, f12, f13, f14, h1, h2, h3, h4, nodeF]
              done
            | cons b rest =>
              rw [hit] at f2
              have hpos : (0 : Int) < ((rest.length + 1 : Nat) : Int) := by omega
              by_cases h5 : (b.toNat : Int) = 94
              · simp (disch := omega) only [go_sem, reduceIte, reduceDIte, reduceCtorEq, Nat.reduceBEq, Nat.reduceEqDiff, Nat.reduceAdd, Nat.reduceSub, Nat.reduceMul, Nat.reduceLT, Nat.reduceLeDiff, Nat.reduceBNe, Int.reduceNeg, Int.reduceAdd, Int.reduceSub, Int.reduceMul, Int.reduceLT, Int.reduceLE, Int.reduceGT, Int.reduceGE, Int.reduceEq, Int.reduceNe, Int.reduceToNat, Int.reduceTMod, Int.reduceTDiv, f2, f7, f11, f12, f13, f14, h1, h2, h3, h4, h5, hpos, nodeF]
                refine aw.at ?_
                simp (disch := omega) only [go_sem, reduceIte, reduceDIte, reduceCtorEq, Nat.reduceBEq, Nat.reduceEqDiff, Nat.reduceAdd, Nat.reduceSub, Nat.reduceMul, Nat.reduceLT, Nat.reduceLeDiff, Nat.reduceBNe, Int.reduceNeg, Int.reduceAdd, Int.reduceSub, Int.reduceMul, Int.reduceLT, Int.reduceLE, Int.reduceGT, Int.reduceGE, Int.reduceEq, Int.reduceNe, Int.reduceToNat, Int.reduceTMod, Int.reduceTDiv]
              · simp (disch := omega) only [go_sem, reduceIte, reduceDIte, reduceCtorEq, Nat.reduceBEq, Nat.reduceEqDiff, Nat.reduceAdd, Nat.reduceSub, Nat.reduceMul, Nat.reduceLT, Nat.reduceLeDiff, Nat.reduceBNe, Int.reduceNeg, Int.reduceAdd, Int.reduceSub, Int.reduceMul, Int.reduceLT, Int.reduceLE, Int.reduceGT, Int.reduceGE, Int.reduceEq, Int.reduceNe, Int.reduceToNat, Int.reduceTMod, Int.reduceTDiv, f2, f7, f11, f12, f13, f14, h1, h2, h3, h4, h5, hpos, nodeF]
                have hne : b ≠ 94 := fun e => h5 (by rw [e]; rfl)
                intro r hr
                exact hne (List.cons.inj hr).1
          · simp (disch := omega) only [go_sem, reduceIte, reduceDIte, reduceCtorEq, Nat.reduceBEq, Nat.reduceEqDiff, Nat.reduceAdd, Nat.reduceSub, Nat.reduceMul, Nat.reduceLT, Nat.reduceLeDiff, Nat.reduceBNe, Int.reduceNeg, Int.reduceAdd, Int.reduceSub, Int.reduceMul, Int.reduceLT, Int.reduceLE, Int.reduceGT, Int.reduceGE, Int.reduceEq, Int.reduceNe, Int.reduceToNat, Int.reduceTMod, Int.reduceTDiv, f2, f7, f11, f12, f13, f14, h1, h2, h3, h4, nodeF]
            refine aw.at ?_
            simp (disch := omega) only [go_sem, reduceIte, reduceDIte, reduceCtorEq, Nat.reduceBEq, Nat.reduceEqDiff, Nat.reduceAdd, Nat.reduceSub, Nat.reduceMul, Nat.reduceLT, Nat.reduceLeDiff, Nat.reduceBNe, Int.reduceNeg, Int.reduceAdd, Int.reduceSub, Int.reduceMul, Int.reduceLT, Int.reduceLE, Int.reduceGT, Int.reduceGE, Int.reduceEq, Int.reduceNe, Int.reduceToNat, Int.reduceTMod, Int.reduceTDiv]
        · simp (disch := omega) only [go_sem, reduceIte, reduceDIte, reduceCtorEq, Nat.reduceBEq, Nat.reduceEqDiff, Nat.reduceAdd, Nat.reduceSub, Nat.reduceMul, Nat.reduceLT, Nat.reduceLeDiff, Nat.reduceBNe, Int.reduceNeg, Int.reduceAdd, Int.reduceSub, Int.reduceMul, Int.reduceLT, Int.reduceLE, Int.reduceGT, Int.reduceGE, Int.reduceEq, Int.reduceNe, Int.reduceToNat, Int.reduceTMod, Int.reduceTDiv, f2, f7, f11, f12, f13, f14, h1, h2, h3, nodeF]
          refine aw.at ?_
          simp (disch := omega) only [go_sem, reduceIte, reduceDIte, reduceCtorEq, Nat.reduceBEq, Nat.reduceEqDiff, Nat.reduceAdd, Nat.reduceSub, Nat.reduceMul, Nat.reduceLT, Nat.reduceLeDiff, Nat.reduceBNe, Int.reduceNeg, Int.reduceAdd, Int.reduceSub, Int.reduceMul, Int.reduceLT, Int.reduceLE, Int.reduceGT, Int.reduceGE, Int.reduceEq, Int.reduceNe, Int.reduceToNat, Int.reduceTMod, Int.reduceTDiv]
      · simp (disch := omega) only [go_sem, reduceIte, reduceDIte, reduceCtorEq, Nat.reduceBEq, Nat.reduceEqDiff, Nat.reduceAdd, Nat.reduceSub, Nat.reduceMul, Nat.reduceLT, Nat.reduceLeDiff, Nat.reduceBNe, Int.reduceNeg, Int.reduceAdd, Int.reduceSub, Int.reduceMul, Int.reduceLT, Int.reduceLE, Int.reduceGT, Int.reduceGE, Int.reduceEq, Int.reduceNe, Int.reduceToNat, Int.reduceTMod, Int.reduceTDiv, f2, f7, f11, f12, f13, f14, h1, h2, nodeF]
        refine aw.at ?_
        simp (disch := omega) only [go_sem, reduceIte, reduceDIte, reduceCtorEq, Nat.reduceBEq, Nat.reduceEqDiff, Nat.reduceAdd, Nat.reduceSub, Nat.reduceMul, Nat.reduceLT, Nat.reduceLeDiff, Nat.reduceBNe, Int.reduceNeg, Int.reduceAdd, Int.reduceSub, Int.reduceMul, Int.reduceLT, Int.reduceLE, Int.reduceGT, Int.reduceGE, Int.reduceEq, Int.reduceNe, Int.reduceToNat, Int.reduceTMod, Int.reduceTDiv]
    · simp (disch := omega) only [go_sem, reduceIte, reduceDIte, reduceCtorEq, Nat.reduceBEq, Nat.reduceEqDiff, Nat.reduceAdd, Nat.reduceSub, Nat.reduceMul, Nat.reduceLT, Nat.reduceLeDiff, Nat.reduceBNe, Int.reduceNeg, Int.reduceAdd, Int.reduceSub, Int.reduceMul, Int.reduceLT, Int.reduceLE, Int.reduceGT, Int.reduceGE, Int.reduceEq, Int.reduceNe, Int.reduceToNat, Int.reduceTMod, Int.reduceTDiv, f2, f7, f11, f12, f13, f14, h1, nodeF]
      refine aw.at ?_
      simp (disch := omega) only [go_sem, reduceIte, reduceDIte, reduceCtorEq, Nat.reduceBEq, Nat.reduceEqDiff, Nat.reduceAdd, Nat.reduceSub, Nat.reduceMul, Nat.reduceLT, Nat.reduceLeDiff, Nat.reduceBNe, Int.reduceNeg, Int.reduceAdd, Int.reduceSub, Int.reduceMul, Int.reduceLT, Int.reduceLE, Int.reduceGT, Int.reduceGE, Int.reduceEq, Int.reduceNe, Int.reduceToNat, Int.reduceTMod, Int.reduceTDiv]
  rintro fr σ ⟨⟨f7, f11, f13, rfl⟩, rfl, rfl, k1, k2, h94⟩
  have hA := hma (ga rfl).2 (encB c) (by have := enc_len c hc; omega)
  have hB := hmb (gb rfl).2 (encB c) (by have := enc_len c hc; omega)
  rw [hcm rfl rfl k1 k2 h94] at hB
  generalize matchB n1 (encB c) = w at hA hB
  cases w
  all_goals (
    simp (disch := omega) only [go_sem, reduceIte, reduceDIte, reduceCtorEq, Nat.reduceBEq, Nat.reduceEqDiff, Nat.reduceAdd, Nat.reduceSub, Nat.reduceMul, Nat.reduceLT, Nat.reduceLeDiff, Nat.reduceBNe, Int.reduceNeg, Int.reduceAdd, Int.reduceSub, Int.reduceMul, Int.reduceLT, Int.reduceLE, Int.reduceGT, Int.reduceGE, Int.reduceEq, Int.reduceNe, Int.reduceToNat, Int.reduceTMod, Int.reduceTDiv, f7, f11, f13, nodeF]
    refine hA.dat ?_
    simp (disch := omega) only [go_sem, reduceIte, reduceDIte, reduceCtorEq, Nat.reduceBEq, Nat.reduceEqDiff, Nat.reduceAdd, Nat.reduceSub, Nat.reduceMul, Nat.reduceLT, Nat.reduceLeDiff, Nat.reduceBNe, Int.reduceNeg, Int.reduceAdd, Int.reduceSub, Int.reduceMul, Int.reduceLT, Int.reduceLE, Int.reduceGT, Int.reduceGE, Int.reduceEq, Int.reduceNe, Int.reduceToNat, Int.reduceTMod, Int.reduceTDiv, f7, f11, f13, nodeF]
    refine hB.dat ?_
    simp (disch := omega) only [go_sem, reduceIte, reduceDIte, reduceCtorEq, Nat.reduceBEq, Nat.reduceEqDiff, Nat.reduceAdd, Nat.reduceSub, Nat.reduceMul, Nat.reduceLT, Nat.reduceLeDiff, Nat.reduceBNe, Int.reduceNeg, Int.reduceAdd, Int.reduceSub, Int.reduceMul, Int.reduceLT, Int.reduceLE, Int.reduceGT, Int.reduceGE, Int.reduceEq, Int.reduceNe, Int.reduceToNat, Int.reduceTMod, Int.reduceTDiv, f7, f11, f13, nodeF]
    refine aw.dat ?_
    simp (disch := omega) only [go_sem, reduceIte, reduceDIte, reduceCtorEq, Nat.reduceBEq, Nat.reduceEqDiff, Nat.reduceAdd, Nat.reduceSub, Nat.reduceMul, Nat.reduceLT, Nat.reduceLeDiff, Nat.reduceBNe, Int.reduceNeg, Int.reduceAdd, Int.reduceSub, Int.reduceMul, Int.reduceLT, Int.reduceLE, Int.reduceGT, Int.reduceGE, Int.reduceEq, Int.reduceNe, Int.reduceToNat, Int.reduceTMod, Int.reduceTDiv, f7, f11, f13, nodeF])
end Go.Proofs.YtebejiilpedlmaaGreatDoor
