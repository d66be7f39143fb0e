/- Part of a proof about the functions of this seat. -/
import Derived.Test.YtjgbdlaecpkmhaaGreatDoorG14Sl34
import Derived.Test.YtjgbdlaecpkmhaaGreatDoorG15NvS
import Derived.Test.YtjgbdlaecpkmhaaGreatDoorG23Rc34
set_option linter.unusedVariables false
set_option linter.unusedSimpArgs false
set_option maxRecDepth 100000
namespace Go.Proofs.YtjgbdlaecpkmhaaGreatDoor
open Go Nv Rul

/- The program's number. -/
theorem numerals_eq : numerals = [48, 49, 50, 51, 52, 53, 54, 55, 56, 57] := rfl
theorem number43 (s : List UInt8) (hs : s.length ≤ 9223372036854775807) : PCall Tryz.prog 43 [.d (.str s)] (.tuple [.d (.int .i64 (numOf s)), .d (.bool (numB s))]) := by
  refine fn43.pure noHint (Nat.le_refl _) (by simp only [go_sem]) (by simp only [go_sem]) ?_
  have no : numB s = false → numOf s = 0 := fun h => by rw [numOf, h]; rfl
  by_cases h1 : s = []
  · subst h1
    have e : numB [] = false := rfl
    have e2 := no e
    simp (disch := omega) only [go_sem, reduceIte, reduceDIte, reduceCtorEq, Nat.reduceBEq, Nat.reduceEqDiff, Nat.reduceAdd, Nat.reduceSub, Nat.reduceMul, Nat.reduceLT, Nat.reduceLeDiff, Nat.reduceBNe, Int.reduceNeg, Int.reduceAdd, Int.reduceSub, Int.reduceMul, Int.reduceLT, Int.reduceLE, Int.reduceGT, Int.reduceGE, Int.reduceEq, Int.reduceNe, Int.reduceToNat, Int.reduceTMod, Int.reduceTDiv, e, e2]
    done
  by_cases h2 : (9 : Int) < s.length
  · have e : numB s = false := by rw [numB, decide_eq_false (show ¬ s.length ≤ 9 by omega)]; simp
    have e2 := no e
    simp (disch := omega) only [go_sem, reduceIte, reduceDIte, reduceCtorEq, Nat.reduceBEq, Nat.reduceEqDiff, Nat.reduceAdd, Nat.reduceSub, Nat.reduceMul, Nat.reduceLT, Nat.reduceLeDiff, Nat.reduceBNe, Int.reduceNeg, Int.reduceAdd, Int.reduceSub, Int.reduceMul, Int.reduceLT, Int.reduceLE, Int.reduceGT, Int.reduceGE, Int.reduceEq, Int.reduceNe, Int.reduceToNat, Int.reduceTMod, Int.reduceTDiv, h1, h2, e, e2]
    done
  have hpos : (0 : Int) < s.length := by have : s.length ≠ 0 := fun h => h1 (List.eq_nil_of_length_eq_zero h); omega
  have hh0 : s.headD 0 = s.getD 0 0 := by cases s <;> rfl
  have ht := trim57 s hs
  have hd := trim_digits s
  rw [numerals_eq] at ht hd
  have rest : numB s = ((decide (s.length ≤ 1) || !decide (s.headD 0 = 48)) && digitsB s) := by
    rw [numB, decide_eq_false h1, decide_eq_true (show s.length ≤ 9 by omega)]; rfl
  obtain ⟨u, hu⟩ : ∃ u, u = Lib.trimS s [48, 49, 50, 51, 52, 53, 54, 55, 56, 57] := ⟨_, rfl⟩
  rw [← hu] at ht hd
  by_cases h3 : (1 : Int) < s.length
  · by_cases h4 : s.getD 0 0 = 48
    · have h4' : ((s.getD 0 0).toNat : Int) = 48 := by rw [h4]; rfl
      have e : numB s = false := by rw [numB, decide_eq_false (show ¬ s.length ≤ 1 by omega), hh0, decide_eq_true h4]; simp
      have e2 := no e
      simp (disch := omega) only [go_sem, reduceIte, reduceDIte, reduceCtorEq, Nat.reduceBEq, Nat.reduceEqDiff, Nat.reduceAdd, Nat.reduceSub, Nat.reduceMul, Nat.reduceLT, Nat.reduceLeDiff, Nat.reduceBNe, Int.reduceNeg, Int.reduceAdd, Int.reduceSub, Int.reduceMul, Int.reduceLT, Int.reduceLE, Int.reduceGT, Int.reduceGE, Int.reduceEq, Int.reduceNe, Int.reduceToNat, Int.reduceTMod, Int.reduceTDiv, h1, h2, h3, hpos, h4', e, e2]
    · have h4' : ¬ ((s.getD 0 0).toNat : Int) = 48 := fun h => h4 (UInt8.toNat_inj.1 (by have : (48 : UInt8).toNat = 48 := rfl; omega))
      simp (disch := omega) only [go_sem, reduceIte, reduceDIte, reduceCtorEq, Nat.reduceBEq, Nat.reduceEqDiff, Nat.reduceAdd, Nat.reduceSub, Nat.reduceMul, Nat.reduceLT, Nat.reduceLeDiff, Nat.reduceBNe, Int.reduceNeg, Int.reduceAdd, Int.reduceSub, Int.reduceMul, Int.reduceLT, Int.reduceLE, Int.reduceGT, Int.reduceGE, Int.reduceEq, Int.reduceNe, Int.reduceToNat, Int.reduceTMod, Int.reduceTDiv, h1, h2, h3, hpos, h4']
      refine ht.at ?_
      by_cases h5 : u = []
      · have e : numB s = true := by rw [rest, ← hd, decide_eq_true h5, hh0, decide_eq_false h4, Bool.not_false, Bool.or_true]; rfl
        have e3 : numOf s = Rul.valOf s := by rw [numOf, if_pos e]
        simp (disch := omega) only [go_sem, reduceIte, reduceDIte, reduceCtorEq, Nat.reduceBEq, Nat.reduceEqDiff, Nat.reduceAdd, Nat.reduceSub, Nat.reduceMul, Nat.reduceLT, Nat.reduceLeDiff, Nat.reduceBNe, Int.reduceNeg, Int.reduceAdd, Int.reduceSub, Int.reduceMul, Int.reduceLT, Int.reduceLE, Int.reduceGT, Int.reduceGE, Int.reduceEq, Int.reduceNe, Int.reduceToNat, Int.reduceTMod, Int.reduceTDiv, h5]
        refine (atoi58 s e).at ?_
        simp (disch := omega) only [go_sem, reduceIte, reduceDIte, reduceCtorEq, Nat.reduceBEq, Nat.reduceEqDiff, Nat.reduceAdd, Nat.reduceSub, Nat.reduceMul, Nat.reduceLT, Nat.reduceLeDiff, Nat.reduceBNe, Int.reduceNeg, Int.reduceAdd, Int.reduceSub, Int.reduceMul, Int.reduceLT, Int.reduceLE, Int.reduceGT, Int.reduceGE, Int.reduceEq, Int.reduceNe, Int.reduceToNat, Int.reduceTMod, Int.reduceTDiv, e, e3]
      · have e : numB s = false := by rw [rest, ← hd, decide_eq_false h5]; simp
        have e2 := no e
        simp (disch := omega) only [go_sem, reduceIte, reduceDIte, reduceCtorEq, Nat.reduceBEq, Nat.reduceEqDiff, Nat.reduceAdd, Nat.reduceSub, Nat.reduceMul, Nat.reduceLT, Nat.reduceLeDiff, Nat.reduceBNe, Int.reduceNeg, Int.reduceAdd, Int.reduceSub, Int.reduceMul, Int.reduceLT, Int.reduceLE, Int.reduceGT, Int.reduceGE, Int.reduceEq, Int.reduceNe, Int.reduceToNat, Int.reduceTMod, Int.reduceTDiv, h5, e, e2]
  · simp (disch := omega) only [go_sem, reduceIte, reduceDIte, reduceCtorEq, Nat.reduceBEq, Nat.reduceEqDiff, Nat.reduceAdd, Nat.reduceSub, Nat.reduceMul, Nat.reduceLT, Nat.reduceLeDiff, Nat.reduceBNe, Int.reduceNeg, Int.reduceAdd, Int.reduceSub, Int.reduceMul, Int.reduceLT, Int.reduceLE, Int.reduceGT, Int.reduceGE, Int.reduceEq, Int.reduceNe, Int.reduceToNat, Int.reduceTMod, Int.reduceTDiv, h1, h2, h3]
    refine ht.at ?_
    by_cases h5 : u = []
    · have e : numB s = true := by rw [rest, ← hd, decide_eq_true h5, decide_eq_true (show s.length ≤ 1 by omega), Bool.true_or]; rfl
      have e3 : numOf s = Rul.valOf s := by rw [numOf, if_pos e]
      simp (disch := omega) only [go_sem, reduceIte, reduceDIte, reduceCtorEq, Nat.reduceBEq, Nat.reduceEqDiff, Nat.reduceAdd, Nat.reduceSub, Nat.reduceMul, Nat.reduceLT, Nat.reduceLeDiff, Nat.reduceBNe, Int.reduceNeg, Int.reduceAdd, Int.reduceSub, Int.reduceMul, Int.reduceLT, Int.reduceLE, Int.reduceGT, Int.reduceGE, Int.reduceEq, Int.reduceNe, Int.reduceToNat, Int.reduceTMod, Int.reduceTDiv, h5]
      refine (atoi58 s e).at ?_
      simp (disch := omega) only [go_sem, reduceIte, reduceDIte, reduceCtorEq, Nat.reduceBEq, Nat.reduceEqDiff, Nat.reduceAdd, Nat.reduceSub, Nat.reduceMul, Nat.reduceLT, Nat.reduceLeDiff, Nat.reduceBNe, Int.reduceNeg, Int.reduceAdd, Int.reduceSub, Int.reduceMul, Int.reduceLT, Int.reduceLE, Int.reduceGT, Int.reduceGE, Int.reduceEq, Int.reduceNe, Int.reduceToNat, Int.reduceTMod, Int.reduceTDiv, e, e3]
    · have e : numB s = false := by rw [rest, ← hd, decide_eq_false h5]; simp
      have e2 := no e
      simp (disch := omega) only [go_sem, reduceIte, reduceDIte, reduceCtorEq, Nat.reduceBEq, Nat.reduceEqDiff, Nat.reduceAdd, Nat.reduceSub, Nat.reduceMul, Nat.reduceLT, Nat.reduceLeDiff, Nat.reduceBNe, Int.reduceNeg, Int.reduceAdd, Int.reduceSub, Int.reduceMul, Int.reduceLT, Int.reduceLE, Int.reduceGT, Int.reduceGE, Int.reduceEq, Int.reduceNe, Int.reduceToNat, Int.reduceTMod, Int.reduceTDiv, h5, e, e2]
end Go.Proofs.YtjgbdlaecpkmhaaGreatDoor
set_option linter.unusedVariables false
set_option linter.unusedSimpArgs false
set_option maxRecDepth 100000
namespace Go.Proofs.YtjgbdlaecpkmhaaGreatDoor
open Go Nv Rul

/- The readers of the options' values. -/
theorem fold_range : ∀ (s : List UInt8) (n : Int), digitsB s = true → 0 ≤ n → 0 ≤ s.foldl (fun n c => n * 10 + ((c.toNat : Int) - 48)) n ∧ s.foldl (fun n c => n * 10 + ((c.toNat : Int) - 48)) n < (n + 1) * (10 : Int) ^ s.length
  | [], n, _, h => by simp; omega
  | c :: s, n, hd, h => by
    simp only [digitsB, List.all_cons, Bool.and_eq_true, decide_eq_true_eq] at hd
    have := fold_range s (n * 10 + ((c.toNat : Int) - 48)) hd.2 (by omega)
    rw [List.foldl_cons, List.length_cons, Int.pow_succ]
    refine ⟨this.1, Int.lt_of_lt_of_le this.2 ?_⟩
    have hp : (0 : Int) ≤ (10 : Int) ^ s.length := Int.pow_nonneg (by decide)
    have h2 : (n * 10 + ((c.toNat : Int) - 48) + 1) ≤ (n + 1) * 10 := by omega
    calc (n * 10 + ((c.toNat : Int) - 48) + 1) * (10 : Int) ^ s.length ≤ ((n + 1) * 10) * (10 : Int) ^ s.length := Int.mul_le_mul_of_nonneg_right h2 hp
      _ = (n + 1) * ((10 : Int) ^ s.length * 10) := by rw [Int.mul_assoc, Int.mul_comm 10]
theorem num_range (s : List UInt8) : 0 ≤ numOf s ∧ numOf s < 1000000000 := by
  rw [numOf]
  split
  · rename_i h
    simp only [numB, Bool.and_eq_true, decide_eq_true_eq] at h
    have := fold_range s 0 h.2 (Int.le_refl _)
    refine ⟨this.1, Int.lt_of_lt_of_le this.2 ?_⟩
    have hl := h.1.1.2
    have : ∀ k : Nat, k ≤ 9 → (0 + 1) * (10 : Int) ^ k ≤ 1000000000 := by
      intro k hk
      match k, hk with
      | 0, _ => decide
      | 1, _ => decide
      | 2, _ => decide
      | 3, _ => decide
      | 4, _ => decide
      | 5, _ => decide
      | 6, _ => decide
      | 7, _ => decide
      | 8, _ => decide
      | 9, _ => decide
      | k + 10, hk => omega
    exact this _ hl
  · omega
def ruleS (B0 : Blk) (r : Rule) : Nv.ST := [B0, .box 33 (ruleC r)]
theorem wait42 (B0 : Blk) (r : Rule) (s : List UInt8) (hs : s.length ≤ 9223372036854775807) : RCall Tryz.prog 42 [.d (.str s), .ptr 1 0] (ruleS B0 r) fun v σ' => v = .d (.bool (numB s)) ∧ σ' = ruleS B0 { r with wait := numOf s } := by
  refine fn42.rel noHint (Nat.le_refl _) ?_
  simp (disch := omega) only [go_sem, reduceIte, reduceDIte, reduceCtorEq, Nat.reduceBEq, Nat.reduceEqDiff, Nat.reduceAdd, Nat.reduceSub, Nat.reduceMul, Nat.reduceLT, Nat.reduceLeDiff, Nat.reduceBNe, Int.reduceNeg, Int.reduceAdd, Int.reduceSub, Int.reduceMul, Int.reduceLT, Int.reduceLE, Int.reduceGT, Int.reduceGE, Int.reduceEq, Int.reduceNe, Int.reduceToNat, Int.reduceTMod, Int.reduceTDiv, ruleS, ruleC]
  refine (number43 s hs).at ?_
  simp (disch := omega) only [go_sem, reduceIte, reduceDIte, reduceCtorEq, Nat.reduceBEq, Nat.reduceEqDiff, Nat.reduceAdd, Nat.reduceSub, Nat.reduceMul, Nat.reduceLT, Nat.reduceLeDiff, Nat.reduceBNe, Int.reduceNeg, Int.reduceAdd, Int.reduceSub, Int.reduceMul, Int.reduceLT, Int.reduceLE, Int.reduceGT, Int.reduceGE, Int.reduceEq, Int.reduceNe, Int.reduceToNat, Int.reduceTMod, Int.reduceTDiv]
  exact ⟨_, rfl, rfl⟩
theorem rows44 (B0 : Blk) (r : Rule) (s : List UInt8) (hs : s.length < 4294967281) : RCall Tryz.prog 44 [.d (.str s), .ptr 1 0] (ruleS B0 r) fun v σ' => v = .d (.bool (rowsOk s)) ∧ σ' = ruleS B0 { r with lo := numOf (cutAt 45 s).1 - 1, hi := numOf (cutAt 45 s).2.1 } := by
  refine fn44.rel noHint (Nat.le_refl _) ?_
  have hl : (cutAt 45 s).1.length ≤ s.length ∧ (cutAt 45 s).2.1.length ≤ s.length := by
    have := congrArg List.length (cut_as 45 s)
    cases hb : (cutAt 45 s).2.2
    · rw [hb] at this
      have h2 := cut_rest_false 45 s hb
      rw [h2]
      simp only [Bool.false_eq_true, if_false] at this
      simp; omega
    · rw [hb] at this
      simp only [if_true, List.length_append, List.length_cons] at this
      omega
  have hr := num_range (cutAt 45 s).1
  have hr2 := num_range (cutAt 45 s).2.1
  simp (disch := omega) only [go_sem, reduceIte, reduceDIte, reduceCtorEq, Nat.reduceBEq, Nat.reduceEqDiff, Nat.reduceAdd, Nat.reduceSub, Nat.reduceMul, Nat.reduceLT, Nat.reduceLeDiff, Nat.reduceBNe, Int.reduceNeg, Int.reduceAdd, Int.reduceSub, Int.reduceMul, Int.reduceLT, Int.reduceLE, Int.reduceGT, Int.reduceGE, Int.reduceEq, Int.reduceNe, Int.reduceToNat, Int.reduceTMod, Int.reduceTDiv, ruleS, ruleC]
  refine (cut19 s 45 hs).at ?_
  simp (disch := omega) only [go_sem, reduceIte, reduceDIte, reduceCtorEq, Nat.reduceBEq, Nat.reduceEqDiff, Nat.reduceAdd, Nat.reduceSub, Nat.reduceMul, Nat.reduceLT, Nat.reduceLeDiff, Nat.reduceBNe, Int.reduceNeg, Int.reduceAdd, Int.reduceSub, Int.reduceMul, Int.reduceLT, Int.reduceLE, Int.reduceGT, Int.reduceGE, Int.reduceEq, Int.reduceNe, Int.reduceToNat, Int.reduceTMod, Int.reduceTDiv]
  refine (number43 (cutAt 45 s).1 (by omega)).at ?_
  simp (disch := omega) only [go_sem, reduceIte, reduceDIte, reduceCtorEq, Nat.reduceBEq, Nat.reduceEqDiff, Nat.reduceAdd, Nat.reduceSub, Nat.reduceMul, Nat.reduceLT, Nat.reduceLeDiff, Nat.reduceBNe, Int.reduceNeg, Int.reduceAdd, Int.reduceSub, Int.reduceMul, Int.reduceLT, Int.reduceLE, Int.reduceGT, Int.reduceGE, Int.reduceEq, Int.reduceNe, Int.reduceToNat, Int.reduceTMod, Int.reduceTDiv]
  refine (number43 (cutAt 45 s).2.1 (by omega)).at ?_
  cases h1 : numB (cutAt 45 s).1
  · have e : rowsOk s = false := by rw [rowsOk, h1]; rfl
    simp (disch := omega) only [go_sem, reduceIte, reduceDIte, reduceCtorEq, Nat.reduceBEq, Nat.reduceEqDiff, Nat.reduceAdd, Nat.reduceSub, Nat.reduceMul, Nat.reduceLT, Nat.reduceLeDiff, Nat.reduceBNe, Int.reduceNeg, Int.reduceAdd, Int.reduceSub, Int.reduceMul, Int.reduceLT, Int.reduceLE, Int.reduceGT, Int.reduceGE, Int.reduceEq, Int.reduceNe, Int.reduceToNat, Int.reduceTMod, Int.reduceTDiv, e]
    exact ⟨_, rfl, rfl⟩
  · have e : rowsOk s = numB (cutAt 45 s).2.1 := by rw [rowsOk, h1]; rfl
    simp (disch := omega) only [go_sem, reduceIte, reduceDIte, reduceCtorEq, Nat.reduceBEq, Nat.reduceEqDiff, Nat.reduceAdd, Nat.reduceSub, Nat.reduceMul, Nat.reduceLT, Nat.reduceLeDiff, Nat.reduceBNe, Int.reduceNeg, Int.reduceAdd, Int.reduceSub, Int.reduceMul, Int.reduceLT, Int.reduceLE, Int.reduceGT, Int.reduceGE, Int.reduceEq, Int.reduceNe, Int.reduceToNat, Int.reduceTMod, Int.reduceTDiv, e]
    exact ⟨_, rfl, rfl⟩
end Go.Proofs.YtjgbdlaecpkmhaaGreatDoor
set_option linter.unusedVariables false
set_option linter.unusedSimpArgs false
set_option maxRecDepth 100000
namespace Go.Proofs.YtjgbdlaecpkmhaaGreatDoor
open Go Nv Rul

/- The classes by their words; an option. -/
def classE : List (DV × DV) := [(.str [117, 114, 103, 101, 110, 116], .int .i64 1), (.str [110, 111, 114, 109, 97, 108], .int .i64 2), (.str [108, 97, 116, 101, 114], .int .i64 3)]
def hints40 : Nat → Hint := fun i => if i = 2 then .freeze else .no
@[go_sem] theorem hints40_at (i : Nat) : hints40 i = if i = 2 then .freeze else .no := nrfl rfl
theorem classes40 : PCall Tryz.prog 40 [] (.d (.map classE)) := by
  refine fn40.pure hints40 (Nat.le_refl _) (by simp only [go_sem]) (by rfl) ?_
  have k1 : keyAt [117, 114, 103, 101, 110, 116] [] 0 = some none := rfl
  have k2 : keyAt [110, 111, 114, 109, 97, 108] [(.str [117, 114, 103, 101, 110, 116], .int .i64 1)] 0 = some none := rfl
  have k3 : keyAt [108, 97, 116, 101, 114] [(.str [117, 114, 103, 101, 110, 116], .int .i64 1), (.str [110, 111, 114, 109, 97, 108], .int .i64 2)] 0 = some none := rfl
  simp (disch := omega) only [go_sem, reduceIte, reduceDIte, reduceCtorEq, Nat.reduceBEq, Nat.reduceEqDiff, Nat.reduceAdd, Nat.reduceSub, Nat.reduceMul, Nat.reduceLT, Nat.reduceLeDiff, Nat.reduceBNe, Int.reduceNeg, Int.reduceAdd, Int.reduceSub, Int.reduceMul, Int.reduceLT, Int.reduceLE, Int.reduceGT, Int.reduceGE, Int.reduceEq, Int.reduceNe, Int.reduceToNat, Int.reduceTMod, Int.reduceTDiv, k1, k2, k3]
  rfl
theorem class_look (s : List UInt8) : (keyAt s classE 0 = some none ∧ classOf s = 0) ∨ ∃ j, keyAt s classE 0 = some (some j) ∧ (classE.getD j default).2 = .int .i64 (classOf s) := by
  by_cases h1 : s = kUrgent
  · subst h1; exact .inr ⟨0, rfl, rfl⟩
  · by_cases h2 : s = kNormal
    · subst h2; exact .inr ⟨1, rfl, rfl⟩
    · by_cases h3 : s = kLater
      · subst h3; exact .inr ⟨2, rfl, rfl⟩
      · refine .inl ⟨?_, by rw [classOf, if_neg h1, if_neg h2, if_neg h3]⟩
        have e1 : decide (s = [117, 114, 103, 101, 110, 116]) = false := decide_eq_false h1
        have e2 : decide (s = [110, 111, 114, 109, 97, 108]) = false := decide_eq_false h2
        have e3 : decide (s = [108, 97, 116, 101, 114]) = false := decide_eq_false h3
        simp only [classE, keyAt, e1, e2, e3, cond_false]
/- option, at a reader that leaves its box as it says. -/
theorem option41 (σ σ1 : Nv.ST) (l : List (List UInt8)) (k : List UInt8) (g : Nat) (b : List UInt8 → Bool) (hl : l.length ≤ 1000000)
    (hg : ∀ x r, optOf k l = (some x, r) → plainFn Tryz.prog g = true ∧ RCall Tryz.prog g [.d (.str x), .ptr 1 0] σ fun v σ' => v = .d (.bool (b x)) ∧ σ' = σ1) :
    RCall Tryz.prog 41 [.d (.list 1 (strsD l)), .d (.str k), .func (.func g) [] [.ptr 1 0]] σ fun v σ' => v = .tuple [.d (.list 1 (strsD (optOf k l).2)), .d (.bool ((optOf k l).1.all b))] ∧ σ' = if (optOf k l).1.isSome then σ1 else σ := by
  refine fn41.rel (fun i => if i = 100019 then .lst 6 else .no) (Nat.le_refl _) ?_
  match l, hl, hg with
  | [], _, hg =>
    simp (disch := omega) only [go_sem, reduceIte, reduceDIte, reduceCtorEq, Nat.reduceBEq, Nat.reduceEqDiff, Nat.reduceAdd, Nat.reduceSub, Nat.reduceMul, Nat.reduceLT, Nat.reduceLeDiff, Nat.reduceBNe, Int.reduceNeg, Int.reduceAdd, Int.reduceSub, Int.reduceMul, Int.reduceLT, Int.reduceLE, Int.reduceGT, Int.reduceGE, Int.reduceEq, Int.reduceNe, Int.reduceToNat, Int.reduceTMod, Int.reduceTDiv, strsD, optOf]
    exact ⟨_, rfl, rfl, rfl⟩
  | [x], _, hg =>
    have h2 : ((1 : Nat) : Int) < 2 := by decide
    simp (disch := omega) only [go_sem, reduceIte, reduceDIte, reduceCtorEq, Nat.reduceBEq, Nat.reduceEqDiff, Nat.reduceAdd, Nat.reduceSub, Nat.reduceMul, Nat.reduceLT, Nat.reduceLeDiff, Nat.reduceBNe, Int.reduceNeg, Int.reduceAdd, Int.reduceSub, Int.reduceMul, Int.reduceLT, Int.reduceLE, Int.reduceGT, Int.reduceGE, Int.reduceEq, Int.reduceNe, Int.reduceToNat, Int.reduceTMod, Int.reduceTDiv, strsD, optOf, h2]
    exact ⟨_, rfl, rfl, rfl⟩
  | x :: y :: r, hl, hg =>
    by_cases h : x = k
    · have e : optOf k (x :: y :: r) = (some y, r) := by simp [optOf, h]
      have h2 : ¬ ((r.length + 1 + 1 : Nat) : Int) < 2 := by omega
      obtain ⟨hp, hc⟩ := hg y r e
      simp (disch := omega) only [go_sem, reduceIte, reduceDIte, reduceCtorEq, Nat.reduceBEq, Nat.reduceEqDiff, Nat.reduceAdd, Nat.reduceSub, Nat.reduceMul, Nat.reduceLT, Nat.reduceLeDiff, Nat.reduceBNe, Int.reduceNeg, Int.reduceAdd, Int.reduceSub, Int.reduceMul, Int.reduceLT, Int.reduceLE, Int.reduceGT, Int.reduceGE, Int.reduceEq, Int.reduceNe, Int.reduceToNat, Int.reduceTMod, Int.reduceTDiv, strsD, e, h, h2, List.length_map]
      refine ⟨by omega, ?_⟩
      refine w1_of σ1 ?_
      simp (disch := omega) only [go_sem, reduceIte, reduceDIte, reduceCtorEq, Nat.reduceBEq, Nat.reduceEqDiff, Nat.reduceAdd, Nat.reduceSub, Nat.reduceMul, Nat.reduceLT, Nat.reduceLeDiff, Nat.reduceBNe, Int.reduceNeg, Int.reduceAdd, Int.reduceSub, Int.reduceMul, Int.reduceLT, Int.reduceLE, Int.reduceGT, Int.reduceGE, Int.reduceEq, Int.reduceNe, Int.reduceToNat, Int.reduceTMod, Int.reduceTDiv, List.length_map, hp]
      refine ⟨⟨by omega, Nat.le_refl _⟩, ⟨by omega, Nat.le_refl _⟩, by omega, by omega, ?_⟩
      refine hc.one ?_
      have ht : List.take r.length (r.map DV.str) = r.map DV.str := List.take_of_length_le (by simp)
      simp (disch := omega) only [go_sem, reduceIte, reduceDIte, reduceCtorEq, Nat.reduceBEq, Nat.reduceEqDiff, Nat.reduceAdd, Nat.reduceSub, Nat.reduceMul, Nat.reduceLT, Nat.reduceLeDiff, Nat.reduceBNe, Int.reduceNeg, Int.reduceAdd, Int.reduceSub, Int.reduceMul, Int.reduceLT, Int.reduceLE, Int.reduceGT, Int.reduceGE, Int.reduceEq, Int.reduceNe, Int.reduceToNat, Int.reduceTMod, Int.reduceTDiv, List.length_map, ht]
      exact ⟨_, rfl, by rw [e]; simp, by rw [e]; rfl⟩
    · have e : optOf k (x :: y :: r) = (none, x :: y :: r) := by simp [optOf, h]
      have h2 : ¬ ((r.length + 1 + 1 : Nat) : Int) < 2 := by omega
      simp (disch := omega) only [go_sem, reduceIte, reduceDIte, reduceCtorEq, Nat.reduceBEq, Nat.reduceEqDiff, Nat.reduceAdd, Nat.reduceSub, Nat.reduceMul, Nat.reduceLT, Nat.reduceLeDiff, Nat.reduceBNe, Int.reduceNeg, Int.reduceAdd, Int.reduceSub, Int.reduceMul, Int.reduceLT, Int.reduceLE, Int.reduceGT, Int.reduceGE, Int.reduceEq, Int.reduceNe, Int.reduceToNat, Int.reduceTMod, Int.reduceTDiv, strsD, e, h, h2, List.length_map]
      exact ⟨by omega, _, rfl, rfl, rfl⟩
end Go.Proofs.YtjgbdlaecpkmhaaGreatDoor
set_option linter.unusedVariables false
set_option linter.unusedSimpArgs false
set_option maxRecDepth 100000
namespace Go.Proofs.YtjgbdlaecpkmhaaGreatDoor
open Go Nv Rul

@[go_sem] theorem wE_lookup {P : Program} {h : Nat → Hint} {d : Option Nat} {tt : Nat} {Kv : AV → Nv.ST → Prop} {fr : FR} {σ : Nv.ST} {tk : Tk Kv} (u : Nat) (x y : Operand) (b : Bool) {t : Tk (Op.lookup u x y b)} : wE P h d tt (.lookup u x y b) Kv t tk fr σ = wRd (rLookup P u (aeval fr x) (aeval fr y) b σ) Kv ⟨⟩ := by unfold wE DOp wRd; dsimp only; unfold evalOp; rfl
/- The program's words and line. -/
theorem words21 (s : List UInt8) (hs : s.length ≤ 4294967296) : PCall Tryz.prog 21 [.d (.str s)] (.d (.list 1 (strsD (wordsOf s)))) := by
  refine fn21.pure noHint (Nat.le_refl _) (by simp only [go_sem]) (by simp only [go_sem]) ?_
  simp (disch := omega) only [go_sem, reduceIte, reduceDIte, reduceCtorEq, Nat.reduceBEq, Nat.reduceEqDiff, Nat.reduceAdd, Nat.reduceSub, Nat.reduceMul, Nat.reduceLT, Nat.reduceLeDiff, Nat.reduceBNe, Int.reduceNeg, Int.reduceAdd, Int.reduceSub, Int.reduceMul, Int.reduceLT, Int.reduceLE, Int.reduceGT, Int.reduceGE, Int.reduceEq, Int.reduceNe, Int.reduceToNat, Int.reduceTMod, Int.reduceTDiv]
  refine (fields36 s hs).at ?_
  simp (disch := omega) only [go_sem, reduceIte, reduceDIte, reduceCtorEq, Nat.reduceBEq, Nat.reduceEqDiff, Nat.reduceAdd, Nat.reduceSub, Nat.reduceMul, Nat.reduceLT, Nat.reduceLeDiff, Nat.reduceBNe, Int.reduceNeg, Int.reduceAdd, Int.reduceSub, Int.reduceMul, Int.reduceLT, Int.reduceLE, Int.reduceGT, Int.reduceGE, Int.reduceEq, Int.reduceNe, Int.reduceToNat, Int.reduceTMod, Int.reduceTDiv]
theorem trimR_len (s : List UInt8) : (trimR s).length ≤ s.length := by
  unfold trimR
  rw [List.length_reverse]
  have := (List.dropWhile_suffix (l := s.reverse) (· == 32)).length_le
  simpa using this
theorem unquote_len {s t : List UInt8} (h : unquote s = some t) : t.length ≤ s.length := by
  unfold unquote at h
  split at h
  · rename_i r hr
    simp only [Option.some.injEq] at h
    subst h
    have := congrArg List.length hr
    simp at this ⊢; omega
  · cases h
theorem opt_mem {k : List UInt8} {l : List (List UInt8)} {x : List UInt8} {r : List (List UInt8)} (h : optOf k l = (some x, r)) : x ∈ l := by
  match l with
  | [] => simp [optOf] at h
  | [y] => simp [optOf] at h
  | a :: b :: l =>
    simp only [optOf] at h
    split at h
    · simp only [Prod.mk.injEq, Option.some.injEq] at h; simp [h.1]
    · simp at h
theorem opt_rest {k : List UInt8} {l : List (List UInt8)} : ∀ x, x ∈ (optOf k l).2 → x ∈ l := by
  intro x hx
  match l with
  | [] => simp only [optOf] at hx; exact hx
  | [y] => simp only [optOf] at hx; exact hx
  | a :: b :: l =>
    simp only [optOf] at hx
    split at hx
    · simp at hx; simp [hx]
    · simpa using hx
theorem opt_len {k : List UInt8} {l : List (List UInt8)} : (optOf k l).2.length ≤ l.length := by
  match l with
  | [] => simp [optOf]
  | [y] => simp [optOf]
  | a :: b :: l =>
    simp only [optOf]
    split <;> simp <;> omega
def withWait (r : Rule) (w : Option (List UInt8)) : Rule := match w with | some x => { r with wait := numOf x } | none => r
def withRows (r : Rule) (w : Option (List UInt8)) : Rule := match w with | some x => { r with lo := numOf (cutAt 45 x).1 - 1, hi := numOf (cutAt 45 x).2.1 } | none => r
theorem opt_wait (B0 : Blk) (r : Rule) (l : List (List UInt8)) (hl : l.length ≤ 1000000) (hx : ∀ x, x ∈ l → x.length < 4294967281) :
    RCall Tryz.prog 41 [.d (.list 1 (strsD l)), .d (.str kWait), .func (.func 42) [] [.ptr 1 0]] (ruleS B0 r) fun v σ' => v = .tuple [.d (.list 1 (strsD (optOf kWait l).2)), .d (.bool ((optOf kWait l).1.all numB))] ∧ σ' = ruleS B0 (withWait r (optOf kWait l).1) := by
  have := option41 (ruleS B0 r) (ruleS B0 (withWait r (optOf kWait l).1)) l kWait 42 numB hl (fun x q he => ⟨rfl, by
    rw [he]; have := hx x (opt_mem he); exact wait42 B0 r x (by omega)⟩)
  have e : (if (optOf kWait l).1.isSome = true then ruleS B0 (withWait r (optOf kWait l).1) else ruleS B0 r) = ruleS B0 (withWait r (optOf kWait l).1) := by
    cases (optOf kWait l).1 <;> rfl
  rw [e] at this; exact this
theorem opt_rows (B0 : Blk) (r : Rule) (l : List (List UInt8)) (hl : l.length ≤ 1000000) (hx : ∀ x, x ∈ l → x.length < 4294967281) :
    RCall Tryz.prog 41 [.d (.list 1 (strsD l)), .d (.str kRows), .func (.func 44) [] [.ptr 1 0]] (ruleS B0 r) fun v σ' => v = .tuple [.d (.list 1 (strsD (optOf kRows l).2)), .d (.bool ((optOf kRows l).1.all rowsOk))] ∧ σ' = ruleS B0 (withRows r (optOf kRows l).1) := by
  have := option41 (ruleS B0 r) (ruleS B0 (withRows r (optOf kRows l).1)) l kRows 44 rowsOk hl (fun x q he => ⟨rfl, by
    rw [he]; have := hx x (opt_mem he); exact rows44 B0 r x (by omega)⟩)
  have e : (if (optOf kRows l).1.isSome = true then ruleS B0 (withRows r (optOf kRows l).1) else ruleS B0 r) = ruleS B0 (withRows r (optOf kRows l).1) := by
    cases (optOf kRows l).1 <;> rfl
  rw [e] at this; exact this
theorem line_two {a b : List UInt8} {l : List (List UInt8)} {rest text : List UInt8} (hu : unquote (trimR rest) = some text) :
    lineR (a :: b :: l) rest = if (optOf kWait l).1.all numB then (withRows (withWait ⟨a, text, 0, 60, classOf b, 0⟩ (optOf kWait l).1) (optOf kRows (optOf kWait l).2).1, (optOf kRows (optOf kWait l).2).1.all rowsOk && decide ((optOf kRows (optOf kWait l).2).2 = [])) else (zeroR, false) := by
  simp only [lineR, hu]
  rcases optOf kWait l with ⟨w, l1⟩
  simp only
  cases hw : w.all numB
  · simp
  · simp only [Bool.true_eq_false, if_false, if_true]
    rcases optOf kRows l1 with ⟨w2, l2⟩
    cases w <;> cases w2 <;> rfl
theorem line22 (l : List (List UInt8)) (rest : List UInt8) (hl : l.length ≤ 100000) (hx : ∀ x, x ∈ l → x.length < 4294967281) (hs : rest.length < 4294967281) :
    PCall Tryz.prog 22 [.d (.list 1 (strsD l)), .d (.str rest)] (.tuple [ruleA (lineR l rest).1, .d (.bool (lineR l rest).2)]) := by
  refine fn22.pure noHint (Nat.le_refl _) (by simp only [go_sem]) (by simp only [go_sem, ruleA, ruleC]) ?_
  have ht := trimR_len rest
  obtain ⟨hsuf, hts⟩ := suffix_eq (trimR rest)
  simp (disch := omega) only [go_sem, reduceIte, reduceDIte, reduceCtorEq, Nat.reduceBEq, Nat.reduceEqDiff, Nat.reduceAdd, Nat.reduceSub, Nat.reduceMul, Nat.reduceLT, Nat.reduceLeDiff, Nat.reduceBNe, Int.reduceNeg, Int.reduceAdd, Int.reduceSub, Int.reduceMul, Int.reduceLT, Int.reduceLE, Int.reduceGT, Int.reduceGE, Int.reduceEq, Int.reduceNe, Int.reduceToNat, Int.reduceTMod, Int.reduceTDiv]
  refine (trimR38 rest (by omega)).at ?_
  simp (disch := omega) only [go_sem, reduceIte, reduceDIte, reduceCtorEq, Nat.reduceBEq, Nat.reduceEqDiff, Nat.reduceAdd, Nat.reduceSub, Nat.reduceMul, Nat.reduceLT, Nat.reduceLeDiff, Nat.reduceBNe, Int.reduceNeg, Int.reduceAdd, Int.reduceSub, Int.reduceMul, Int.reduceLT, Int.reduceLE, Int.reduceGT, Int.reduceGE, Int.reduceEq, Int.reduceNe, Int.reduceToNat, Int.reduceTMod, Int.reduceTDiv]
  refine (cutSuf39 (trimR rest) (by omega)).at ?_
  cases hu : unquote (trimR rest) with
  | none =>
    have e : lineR l rest = (zeroR, false) := by simp only [lineR, hu]
    rw [hu] at hsuf
    rw [e]
    simp (disch := omega) only [go_sem, reduceIte, reduceDIte, reduceCtorEq, Nat.reduceBEq, Nat.reduceEqDiff, Nat.reduceAdd, Nat.reduceSub, Nat.reduceMul, Nat.reduceLT, Nat.reduceLeDiff, Nat.reduceBNe, Int.reduceNeg, Int.reduceAdd, Int.reduceSub, Int.reduceMul, Int.reduceLT, Int.reduceLE, Int.reduceGT, Int.reduceGE, Int.reduceEq, Int.reduceNe, Int.reduceToNat, Int.reduceTMod, Int.reduceTDiv, hsuf, Option.isSome_none]
    rfl
  | some text =>
    rw [hu] at hsuf hts
    have hts := hts text rfl
    have hul := unquote_len hu
    match l, hl, hx with
    | [], _, _ =>
      have e : lineR [] rest = (zeroR, false) := by simp only [lineR, hu]
      rw [e]
      simp (disch := omega) only [go_sem, reduceIte, reduceDIte, reduceCtorEq, Nat.reduceBEq, Nat.reduceEqDiff, Nat.reduceAdd, Nat.reduceSub, Nat.reduceMul, Nat.reduceLT, Nat.reduceLeDiff, Nat.reduceBNe, Int.reduceNeg, Int.reduceAdd, Int.reduceSub, Int.reduceMul, Int.reduceLT, Int.reduceLE, Int.reduceGT, Int.reduceGE, Int.reduceEq, Int.reduceNe, Int.reduceToNat, Int.reduceTMod, Int.reduceTDiv, hsuf, hts, strsD, Option.isSome_some]
      rfl
    | [x], _, _ =>
      have e : lineR [x] rest = (zeroR, false) := by simp only [lineR, hu]
      have h2 : ((1 : Nat) : Int) < 2 := by decide
      rw [e]
      simp (disch := omega) only [go_sem, reduceIte, reduceDIte, reduceCtorEq, Nat.reduceBEq, Nat.reduceEqDiff, Nat.reduceAdd, Nat.reduceSub, Nat.reduceMul, Nat.reduceLT, Nat.reduceLeDiff, Nat.reduceBNe, Int.reduceNeg, Int.reduceAdd, Int.reduceSub, Int.reduceMul, Int.reduceLT, Int.reduceLE, Int.reduceGT, Int.reduceGE, Int.reduceEq, Int.reduceNe, Int.reduceToNat, Int.reduceTMod, Int.reduceTDiv, hsuf, hts, strsD, h2, Option.isSome_some]
      rfl
    | a :: b :: l, hl, hx =>
      have h2 : ¬ ((l.length + 1 + 1 : Nat) : Int) < 2 := by omega
      simp (disch := omega) only [go_sem, reduceIte, reduceDIte, reduceCtorEq, Nat.reduceBEq, Nat.reduceEqDiff, Nat.reduceAdd, Nat.reduceSub, Nat.reduceMul, Nat.reduceLT, Nat.reduceLeDiff, Nat.reduceBNe, Int.reduceNeg, Int.reduceAdd, Int.reduceSub, Int.reduceMul, Int.reduceLT, Int.reduceLE, Int.reduceGT, Int.reduceGE, Int.reduceEq, Int.reduceNe, Int.reduceToNat, Int.reduceTMod, Int.reduceTDiv, hsuf, hts, strsD, List.length_map, h2, Option.isSome_some]
      refine ⟨by omega, ?_⟩
      refine classes40.dat ?_
      simp (disch := omega) only [go_sem, reduceIte, reduceDIte, reduceCtorEq, Nat.reduceBEq, Nat.reduceEqDiff, Nat.reduceAdd, Nat.reduceSub, Nat.reduceMul, Nat.reduceLT, Nat.reduceLeDiff, Nat.reduceBNe, Int.reduceNeg, Int.reduceAdd, Int.reduceSub, Int.reduceMul, Int.reduceLT, Int.reduceLE, Int.reduceGT, Int.reduceGE, Int.reduceEq, Int.reduceNe, Int.reduceToNat, Int.reduceTMod, Int.reduceTDiv]
      have ht1 : List.take l.length (l.map DV.str) = l.map DV.str := List.take_of_length_le (by simp)
      have hl3 : l.length + 1 + 1 ≤ 100000 := hl
      have hxl : ∀ x, x ∈ l → x.length < 4294967281 := fun x hm => hx x (by simp [hm])
      rcases class_look b with ⟨hk, hv⟩ | ⟨j, hk, hv⟩
      · refine ⟨by omega, ?_⟩
        simp (disch := omega) only [go_sem, reduceIte, reduceDIte, reduceCtorEq, Nat.reduceBEq, Nat.reduceEqDiff, Nat.reduceAdd, Nat.reduceSub, Nat.reduceMul, Nat.reduceLT, Nat.reduceLeDiff, Nat.reduceBNe, Int.reduceNeg, Int.reduceAdd, Int.reduceSub, Int.reduceMul, Int.reduceLT, Int.reduceLE, Int.reduceGT, Int.reduceGE, Int.reduceEq, Int.reduceNe, Int.reduceToNat, Int.reduceTMod, Int.reduceTDiv, hk, hv, List.length_map]
        refine ⟨⟨by omega, classes40.dat ?_, by omega⟩, ⟨by omega, classes40.dat ?_, by omega⟩, ⟨by omega, Nat.le_refl _⟩, ?_⟩
        · exact ⟨rfl, rfl⟩
        · exact ⟨rfl, rfl⟩
        simp (disch := omega) only [go_sem, reduceIte, reduceDIte, reduceCtorEq, Nat.reduceBEq, Nat.reduceEqDiff, Nat.reduceAdd, Nat.reduceSub, Nat.reduceMul, Nat.reduceLT, Nat.reduceLeDiff, Nat.reduceBNe, Int.reduceNeg, Int.reduceAdd, Int.reduceSub, Int.reduceMul, Int.reduceLT, Int.reduceLE, Int.reduceGT, Int.reduceGE, Int.reduceEq, Int.reduceNe, Int.reduceToNat, Int.reduceTMod, Int.reduceTDiv, ht1]
        refine (opt_wait (.box 33 (ruleC zeroR)) ⟨a, text, 0, 60, 0, 0⟩ l (by omega) hxl).at ?_
        rintro v σ' ⟨rfl, rfl⟩
        rw [line_two hu, hv]
        generalize (⟨a, text, 0, 60, 0, 0⟩ : Rule) = r0
        have hl1 := opt_len (k := kWait) (l := l)
        have hx1 : ∀ x, x ∈ (optOf kWait l).2 → x.length < 4294967281 := fun x hm => hxl x (opt_rest x hm)
        cases hw : (optOf kWait l).1.all numB
        · simp (disch := omega) only [go_sem, reduceIte, reduceDIte, reduceCtorEq, Nat.reduceBEq, Nat.reduceEqDiff, Nat.reduceAdd, Nat.reduceSub, Nat.reduceMul, Nat.reduceLT, Nat.reduceLeDiff, Nat.reduceBNe, Int.reduceNeg, Int.reduceAdd, Int.reduceSub, Int.reduceMul, Int.reduceLT, Int.reduceLE, Int.reduceGT, Int.reduceGE, Int.reduceEq, Int.reduceNe, Int.reduceToNat, Int.reduceTMod, Int.reduceTDiv, hw, ruleS, Bool.false_eq_true]
          exact ⟨by decide, rfl⟩
        · simp (disch := omega) only [go_sem, reduceIte, reduceDIte, reduceCtorEq, Nat.reduceBEq, Nat.reduceEqDiff, Nat.reduceAdd, Nat.reduceSub, Nat.reduceMul, Nat.reduceLT, Nat.reduceLeDiff, Nat.reduceBNe, Int.reduceNeg, Int.reduceAdd, Int.reduceSub, Int.reduceMul, Int.reduceLT, Int.reduceLE, Int.reduceGT, Int.reduceGE, Int.reduceEq, Int.reduceNe, Int.reduceToNat, Int.reduceTMod, Int.reduceTDiv, hw]
          refine (opt_rows (.box 33 (ruleC zeroR)) (withWait r0 (optOf kWait l).1) (optOf kWait l).2 (by omega) hx1).at ?_
          rintro v σ' ⟨rfl, rfl⟩
          generalize withRows (withWait r0 (optOf kWait l).1) (optOf kRows (optOf kWait l).2).1 = r1
          generalize (optOf kRows (optOf kWait l).2).1.all rowsOk = b1
          generalize (optOf kRows (optOf kWait l).2).2 = l2
          cases b1
          · simp (disch := omega) only [go_sem, reduceIte, reduceDIte, reduceCtorEq, Nat.reduceBEq, Nat.reduceEqDiff, Nat.reduceAdd, Nat.reduceSub, Nat.reduceMul, Nat.reduceLT, Nat.reduceLeDiff, Nat.reduceBNe, Int.reduceNeg, Int.reduceAdd, Int.reduceSub, Int.reduceMul, Int.reduceLT, Int.reduceLE, Int.reduceGT, Int.reduceGE, Int.reduceEq, Int.reduceNe, Int.reduceToNat, Int.reduceTMod, Int.reduceTDiv, ruleS, ruleC]
            rfl
          · rcases l2 with _ | ⟨y, l2⟩
            · simp (disch := omega) only [go_sem, reduceIte, reduceDIte, reduceCtorEq, Nat.reduceBEq, Nat.reduceEqDiff, Nat.reduceAdd, Nat.reduceSub, Nat.reduceMul, Nat.reduceLT, Nat.reduceLeDiff, Nat.reduceBNe, Int.reduceNeg, Int.reduceAdd, Int.reduceSub, Int.reduceMul, Int.reduceLT, Int.reduceLE, Int.reduceGT, Int.reduceGE, Int.reduceEq, Int.reduceNe, Int.reduceToNat, Int.reduceTMod, Int.reduceTDiv, ruleS, ruleC, strsD]
              rfl
            · have hne : ¬ ((l2.length + 1 : Nat) : Int) = 0 := by omega
              simp (disch := omega) only [go_sem, reduceIte, reduceDIte, reduceCtorEq, Nat.reduceBEq, Nat.reduceEqDiff, Nat.reduceAdd, Nat.reduceSub, Nat.reduceMul, Nat.reduceLT, Nat.reduceLeDiff, Nat.reduceBNe, Int.reduceNeg, Int.reduceAdd, Int.reduceSub, Int.reduceMul, Int.reduceLT, Int.reduceLE, Int.reduceGT, Int.reduceGE, Int.reduceEq, Int.reduceNe, Int.reduceToNat, Int.reduceTMod, Int.reduceTDiv, ruleS, ruleC, strsD, List.length_map, hne]
              rfl
      · refine ⟨by omega, ?_⟩
        simp (disch := omega) only [go_sem, reduceIte, reduceDIte, reduceCtorEq, Nat.reduceBEq, Nat.reduceEqDiff, Nat.reduceAdd, Nat.reduceSub, Nat.reduceMul, Nat.reduceLT, Nat.reduceLeDiff, Nat.reduceBNe, Int.reduceNeg, Int.reduceAdd, Int.reduceSub, Int.reduceMul, Int.reduceLT, Int.reduceLE, Int.reduceGT, Int.reduceGE, Int.reduceEq, Int.reduceNe, Int.reduceToNat, Int.reduceTMod, Int.reduceTDiv, hk, hv, List.length_map]
        refine ⟨⟨by omega, classes40.dat ?_, by omega⟩, ⟨by omega, classes40.dat ?_, by omega⟩, ⟨by omega, Nat.le_refl _⟩, ?_⟩
        · exact ⟨rfl, rfl⟩
        · exact ⟨rfl, rfl⟩
        simp (disch := omega) only [go_sem, reduceIte, reduceDIte, reduceCtorEq, Nat.reduceBEq, Nat.reduceEqDiff, Nat.reduceAdd, Nat.reduceSub, Nat.reduceMul, Nat.reduceLT, Nat.reduceLeDiff, Nat.reduceBNe, Int.reduceNeg, Int.reduceAdd, Int.reduceSub, Int.reduceMul, Int.reduceLT, Int.reduceLE, Int.reduceGT, Int.reduceGE, Int.reduceEq, Int.reduceNe, Int.reduceToNat, Int.reduceTMod, Int.reduceTDiv, ht1]
        refine (opt_wait (.box 33 (ruleC zeroR)) ⟨a, text, 0, 60, (classOf b), 0⟩ l (by omega) hxl).at ?_
        rintro v σ' ⟨rfl, rfl⟩
        rw [line_two hu]
        generalize (⟨a, text, 0, 60, (classOf b), 0⟩ : Rule) = r0
        have hl1 := opt_len (k := kWait) (l := l)
        have hx1 : ∀ x, x ∈ (optOf kWait l).2 → x.length < 4294967281 := fun x hm => hxl x (opt_rest x hm)
        cases hw : (optOf kWait l).1.all numB
        · simp (disch := omega) only [go_sem, reduceIte, reduceDIte, reduceCtorEq, Nat.reduceBEq, Nat.reduceEqDiff, Nat.reduceAdd, Nat.reduceSub, Nat.reduceMul, Nat.reduceLT, Nat.reduceLeDiff, Nat.reduceBNe, Int.reduceNeg, Int.reduceAdd, Int.reduceSub, Int.reduceMul, Int.reduceLT, Int.reduceLE, Int.reduceGT, Int.reduceGE, Int.reduceEq, Int.reduceNe, Int.reduceToNat, Int.reduceTMod, Int.reduceTDiv, hw, ruleS, Bool.false_eq_true]
          exact ⟨by decide, rfl⟩
        · simp (disch := omega) only [go_sem, reduceIte, reduceDIte, reduceCtorEq, Nat.reduceBEq, Nat.reduceEqDiff, Nat.reduceAdd, Nat.reduceSub, Nat.reduceMul, Nat.reduceLT, Nat.reduceLeDiff, Nat.reduceBNe, Int.reduceNeg, Int.reduceAdd, Int.reduceSub, Int.reduceMul, Int.reduceLT, Int.reduceLE, Int.reduceGT, Int.reduceGE, Int.reduceEq, Int.reduceNe, Int.reduceToNat, Int.reduceTMod, Int.reduceTDiv, hw]
          refine (opt_rows (.box 33 (ruleC zeroR)) (withWait r0 (optOf kWait l).1) (optOf kWait l).2 (by omega) hx1).at ?_
          rintro v σ' ⟨rfl, rfl⟩
          generalize withRows (withWait r0 (optOf kWait l).1) (optOf kRows (optOf kWait l).2).1 = r1
          generalize (optOf kRows (optOf kWait l).2).1.all rowsOk = b1
          generalize (optOf kRows (optOf kWait l).2).2 = l2
          cases b1
          · simp (disch := omega) only [go_sem, reduceIte, reduceDIte, reduceCtorEq, Nat.reduceBEq, Nat.reduceEqDiff, Nat.reduceAdd, Nat.reduceSub, Nat.reduceMul, Nat.reduceLT, Nat.reduceLeDiff, Nat.reduceBNe, Int.reduceNeg, Int.reduceAdd, Int.reduceSub, Int.reduceMul, Int.reduceLT, Int.reduceLE, Int.reduceGT, Int.reduceGE, Int.reduceEq, Int.reduceNe, Int.reduceToNat, Int.reduceTMod, Int.reduceTDiv, ruleS, ruleC]
            rfl
          · rcases l2 with _ | ⟨y, l2⟩
            · simp (disch := omega) only [go_sem, reduceIte, reduceDIte, reduceCtorEq, Nat.reduceBEq, Nat.reduceEqDiff, Nat.reduceAdd, Nat.reduceSub, Nat.reduceMul, Nat.reduceLT, Nat.reduceLeDiff, Nat.reduceBNe, Int.reduceNeg, Int.reduceAdd, Int.reduceSub, Int.reduceMul, Int.reduceLT, Int.reduceLE, Int.reduceGT, Int.reduceGE, Int.reduceEq, Int.reduceNe, Int.reduceToNat, Int.reduceTMod, Int.reduceTDiv, ruleS, ruleC, strsD]
              rfl
            · have hne : ¬ ((l2.length + 1 : Nat) : Int) = 0 := by omega
              simp (disch := omega) only [go_sem, reduceIte, reduceDIte, reduceCtorEq, Nat.reduceBEq, Nat.reduceEqDiff, Nat.reduceAdd, Nat.reduceSub, Nat.reduceMul, Nat.reduceLT, Nat.reduceLeDiff, Nat.reduceBNe, Int.reduceNeg, Int.reduceAdd, Int.reduceSub, Int.reduceMul, Int.reduceLT, Int.reduceLE, Int.reduceGT, Int.reduceGE, Int.reduceEq, Int.reduceNe, Int.reduceToNat, Int.reduceTMod, Int.reduceTDiv, ruleS, ruleC, strsD, List.length_map, hne]
              rfl
end Go.Proofs.YtjgbdlaecpkmhaaGreatDoor
