/- Part of a proof about the functions of this seat. -/
import Derived.Test.YtebejiilpedlmaaGreatDoorX31
set_option linter.unusedVariables false
set_option linter.unusedSimpArgs false
set_option maxRecDepth 100000
namespace Go.Proofs.YtebejiilpedlmaaGreatDoor
open Go Nv Pat

def fac1 (a : Int) : Int := (if 100 < (if a < 0 then 0 else a) then 100 else if a < 0 then 0 else a) + 15
def fac2 (b : Int) : Int := if 100 < (if b < 1 then 1 else b) then 100 else if b < 1 then 1 else b
theorem fac1_ok (a : Int) : 15 ≤ fac1 a ∧ fac1 a ≤ 115 := by unfold fac1; split <;> split at * <;> omega
theorem fac2_ok (b : Int) : 1 ≤ fac2 b ∧ fac2 b ≤ 100 := by unfold fac2; split <;> split at * <;> omega
def scale (k a b w : Int) : Int := if k = 5 then (if b < 0 then w * fac1 a else w * fac2 b) else w
def cap6 (z : Int) : Int := if 1000000 < z then 1000000 else z
mutual
def wt : Tree → Int
  | .mk k _ l a b => cap6 (scale k a b (1 + wtL l))
def wtL : List Tree → Int
  | [] => 0
  | x :: l => wt x + wtL l
end
theorem scale_pos {k a b w : Int} (h : 1 ≤ w) : 1 ≤ scale k a b w := by
  have h1 := fac1_ok a
  have h2 := fac2_ok b
  unfold scale
  split
  · split
    · calc (1 : Int) = 1 * 1 := rfl
        _ ≤ w * fac1 a := Int.mul_le_mul h (by omega) (by omega) (by omega)
    · calc (1 : Int) = 1 * 1 := rfl
        _ ≤ w * fac2 b := Int.mul_le_mul h (by omega) (by omega) (by omega)
  · exact h
mutual
theorem wt_bound : ∀ n : Tree, 1 ≤ wt n ∧ wt n ≤ 1000000
  | .mk k s l a b => by
    rw [wt]
    have h := wtL_bound l
    have := scale_pos (k := k) (a := a) (b := b) (w := 1 + wtL l) (by omega)
    unfold cap6; split <;> omega
theorem wtL_bound : ∀ l : List Tree, 0 ≤ wtL l ∧ wtL l ≤ 1000000 * l.length
  | [] => by simp [wtL]
  | x :: l => by
    have h1 := wt_bound x
    have h2 := wtL_bound l
    rw [wtL, List.length_cons]; omega
end
theorem wtL_append : ∀ l m : List Tree, wtL (l ++ m) = wtL l + wtL m
  | [], m => by simp [wtL]
  | x :: l, m => by rw [List.cons_append, wtL, wtL, wtL_append l m]; omega

theorem weight30 : ∀ (n : Tree), n.nodes ≤ 1000000 → PCall Tryz.prog 30 [nodeA n] (.d (.int .i64 (wt n))) := by
  intro n
  induction n using Tree.ind with
  | h k s sub a b ih =>
    intro hnd
    have hn : (Tree.mk k s sub a b).nodes = 1 + Tree.nodesL sub := nodes_eq _
    have hsub : sub.length ≤ 1000000 := by have h1 := length_nodesL sub; omega
    refine fn30.pure noHint (Nat.le_refl _) (by simp only [go_sem, nodeA, nodeF, setD]) (by simp only [go_sem]) ?_
    simp (disch := omega) only [go_sem, reduceIte, reduceDIte, reduceCtorEq, Nat.reduceBEq, Nat.reduceEqDiff, Nat.reduceAdd, Nat.reduceSub, Nat.reduceMul, Nat.reduceLT, Nat.reduceLeDiff, Nat.reduceBNe, Int.reduceNeg, Int.reduceAdd, Int.reduceSub, Int.reduceMul, Int.reduceLT, Int.reduceLE, Int.reduceGT, Int.reduceGE, Int.reduceEq, Int.reduceNe, Int.reduceToNat, Int.reduceTMod, Int.reduceTDiv, nodeA, nodeF, Tree.kind, Tree.set, Tree.sub, Tree.min, Tree.max]
    refine wL_ind (fun (j : Nat) fr σ => j ≤ sub.length ∧ fr 1 = .ptr 0 0 ∧ fr 3 = .d (.int .i64 (1 + wtL (sub.take j))) ∧ fr 4 = .d (.int .i64 j) ∧ σ = [.box 25 (boxF k s sub a b)]) (fun j => sub.length - j) ?_ 0 ?_
    · rintro j fr σ ⟨hj, f1, f3, f4, rfl⟩ ih2
      have hb := wtL_bound (sub.take j)
      rw [List.length_take] at hb
      by_cases hlt : j < sub.length
      · obtain ⟨x, hx⟩ : ∃ x, x = sub.getD j default := ⟨_, rfl⟩
        have hxm : x ∈ sub := by rw [hx]; exact getD_mem sub j hlt
        have hxn := nodes_mem sub x hxm
        have hwx := wt_bound x
        simp (disch := omega) only [go_sem, reduceIte, reduceDIte, reduceCtorEq, Nat.reduceBEq, Nat.reduceEqDiff, Nat.reduceAdd, Nat.reduceSub, Nat.reduceMul, Nat.reduceLT, Nat.reduceLeDiff, Nat.reduceBNe, Int.reduceNeg, Int.reduceAdd, Int.reduceSub, Int.reduceMul, Int.reduceLT, Int.reduceLE, Int.reduceGT, Int.reduceGE, Int.reduceEq, Int.reduceNe, Int.reduceToNat, Int.reduceTMod, Int.reduceTDiv, f1, f3, f4, hlt, boxF, nodeD_eq, nodeC, ← hx]
        refine (ih x hxm (by omega)).at ?_
        have e : 1 + wtL (sub.take (j + 1)) = 1 + wtL (sub.take j) + wt x := by
          rw [take_succ' sub j hlt, wtL_append, ← hx]; simp only [wtL]; omega
        have hw : IntKind.i64.wrap (1 + wtL (sub.take j) + wt x) = 1 + wtL (sub.take j) + wt x := wrap_id (by omega) (by omega)
        simp (disch := omega) only [go_sem, reduceIte, reduceDIte, reduceCtorEq, Nat.reduceBEq, Nat.reduceEqDiff, Nat.reduceAdd, Nat.reduceSub, Nat.reduceMul, Nat.reduceLT, Nat.reduceLeDiff, Nat.reduceBNe, Int.reduceNeg, Int.reduceAdd, Int.reduceSub, Int.reduceMul, Int.reduceLT, Int.reduceLE, Int.reduceGT, Int.reduceGE, Int.reduceEq, Int.reduceNe, Int.reduceToNat, Int.reduceTMod, Int.reduceTDiv, f4, hw]
        refine ih2 (j + 1) _ _ (by omega) ⟨by omega, ?_, ?_, ?_, ?_⟩
        · simp (disch := omega) only [go_sem, reduceIte, reduceDIte, reduceCtorEq, Nat.reduceBEq, Nat.reduceEqDiff, Nat.reduceAdd, Nat.reduceSub, Nat.reduceMul, Nat.reduceLT, Nat.reduceLeDiff, Nat.reduceBNe, Int.reduceNeg, Int.reduceAdd, Int.reduceSub, Int.reduceMul, Int.reduceLT, Int.reduceLE, Int.reduceGT, Int.reduceGE, Int.reduceEq, Int.reduceNe, Int.reduceToNat, Int.reduceTMod, Int.reduceTDiv, f1]
        · rw [e]; simp (disch := omega) only [go_sem, reduceIte, reduceDIte, reduceCtorEq, Nat.reduceBEq, Nat.reduceEqDiff, Nat.reduceAdd, Nat.reduceSub, Nat.reduceMul, Nat.reduceLT, Nat.reduceLeDiff, Nat.reduceBNe, Int.reduceNeg, Int.reduceAdd, Int.reduceSub, Int.reduceMul, Int.reduceLT, Int.reduceLE, Int.reduceGT, Int.reduceGE, Int.reduceEq, Int.reduceNe, Int.reduceToNat, Int.reduceTMod, Int.reduceTDiv]
        · simp (disch := omega) only [go_sem, reduceIte, reduceDIte, reduceCtorEq, Nat.reduceBEq, Nat.reduceEqDiff, Nat.reduceAdd, Nat.reduceSub, Nat.reduceMul, Nat.reduceLT, Nat.reduceLeDiff, Nat.reduceBNe, Int.reduceNeg, Int.reduceAdd, Int.reduceSub, Int.reduceMul, Int.reduceLT, Int.reduceLE, Int.reduceGT, Int.reduceGE, Int.reduceEq, Int.reduceNe, Int.reduceToNat, Int.reduceTMod, Int.reduceTDiv]
        · simp (disch := omega) only [go_sem, reduceIte, reduceDIte, reduceCtorEq, Nat.reduceBEq, Nat.reduceEqDiff, Nat.reduceAdd, Nat.reduceSub, Nat.reduceMul, Nat.reduceLT, Nat.reduceLeDiff, Nat.reduceBNe, Int.reduceNeg, Int.reduceAdd, Int.reduceSub, Int.reduceMul, Int.reduceLT, Int.reduceLE, Int.reduceGT, Int.reduceGE, Int.reduceEq, Int.reduceNe, Int.reduceToNat, Int.reduceTMod, Int.reduceTDiv, boxF, nodeD_eq, nodeC]
      · have ek : sub.take j = sub := List.take_of_length_le (by omega)
        rw [ek] at f3 hb
        obtain ⟨w, hw⟩ : ∃ w, w = 1 + wtL sub := ⟨_, rfl⟩
        rw [← hw] at f3
        have hwb : 1 ≤ w ∧ w ≤ 1000000000001 := by omega
        have hf1 := fac1_ok a
        have hf2 := fac2_ok b
        by_cases k5 : k = 5
        · by_cases hb0 : b < 0
          · have e : wt (.mk k s sub a b) = cap6 (w * fac1 a) := by rw [wt, ← hw, scale, if_pos k5, if_pos hb0]
            have h1 : 0 ≤ w * fac1 a := Int.mul_nonneg (by omega) (by omega)
            have h2 : w * fac1 a ≤ 1000000000001 * 115 := Int.mul_le_mul hwb.2 (by omega) (by omega) (by omega)
            have hwr : IntKind.i64.wrap (w * fac1 a) = w * fac1 a := wrap_id (by omega) (by omega)
            rw [← hwr] at e
            rw [e]
            clear e hwr h1 h2
            simp (disch := omega) only [go_sem, reduceIte, reduceDIte, reduceCtorEq, Nat.reduceBEq, Nat.reduceEqDiff, Nat.reduceAdd, Nat.reduceSub, Nat.reduceMul, Nat.reduceLT, Nat.reduceLeDiff, Nat.reduceBNe, Int.reduceNeg, Int.reduceAdd, Int.reduceSub, Int.reduceMul, Int.reduceLT, Int.reduceLE, Int.reduceGT, Int.reduceGE, Int.reduceEq, Int.reduceNe, Int.reduceToNat, Int.reduceTMod, Int.reduceTDiv, f1, f3, f4, hlt, boxF, k5, hb0, cap6, fac1]
          · have e : wt (.mk k s sub a b) = cap6 (w * fac2 b) := by rw [wt, ← hw, scale, if_pos k5, if_neg hb0]
            have h1 : 0 ≤ w * fac2 b := Int.mul_nonneg (by omega) (by omega)
            have h2 : w * fac2 b ≤ 1000000000001 * 100 := Int.mul_le_mul hwb.2 (by omega) (by omega) (by omega)
            have hwr : IntKind.i64.wrap (w * fac2 b) = w * fac2 b := wrap_id (by omega) (by omega)
            rw [← hwr] at e
            rw [e]
            clear e hwr h1 h2
            simp (disch := omega) only [go_sem, reduceIte, reduceDIte, reduceCtorEq, Nat.reduceBEq, Nat.reduceEqDiff, Nat.reduceAdd, Nat.reduceSub, Nat.reduceMul, Nat.reduceLT, Nat.reduceLeDiff, Nat.reduceBNe, Int.reduceNeg, Int.reduceAdd, Int.reduceSub, Int.reduceMul, Int.reduceLT, Int.reduceLE, Int.reduceGT, Int.reduceGE, Int.reduceEq, Int.reduceNe, Int.reduceToNat, Int.reduceTMod, Int.reduceTDiv, f1, f3, f4, hlt, boxF, k5, hb0, cap6, fac2]
        · have e : wt (.mk k s sub a b) = cap6 w := by rw [wt, ← hw, scale, if_neg k5]
          simp (disch := omega) only [go_sem, reduceIte, reduceDIte, reduceCtorEq, Nat.reduceBEq, Nat.reduceEqDiff, Nat.reduceAdd, Nat.reduceSub, Nat.reduceMul, Nat.reduceLT, Nat.reduceLeDiff, Nat.reduceBNe, Int.reduceNeg, Int.reduceAdd, Int.reduceSub, Int.reduceMul, Int.reduceLT, Int.reduceLE, Int.reduceGT, Int.reduceGE, Int.reduceEq, Int.reduceNe, Int.reduceToNat, Int.reduceTMod, Int.reduceTDiv, f1, f3, f4, hlt, boxF, k5, e, cap6]
    · refine ⟨by omega, ?_, ?_, ?_, rfl⟩
      · simp (disch := omega) only [go_sem, reduceIte, reduceDIte, reduceCtorEq, Nat.reduceBEq, Nat.reduceEqDiff, Nat.reduceAdd, Nat.reduceSub, Nat.reduceMul, Nat.reduceLT, Nat.reduceLeDiff, Nat.reduceBNe, Int.reduceNeg, Int.reduceAdd, Int.reduceSub, Int.reduceMul, Int.reduceLT, Int.reduceLE, Int.reduceGT, Int.reduceGE, Int.reduceEq, Int.reduceNe, Int.reduceToNat, Int.reduceTMod, Int.reduceTDiv]
      · simp (disch := omega) only [go_sem, reduceIte, reduceDIte, reduceCtorEq, Nat.reduceBEq, Nat.reduceEqDiff, Nat.reduceAdd, Nat.reduceSub, Nat.reduceMul, Nat.reduceLT, Nat.reduceLeDiff, Nat.reduceBNe, Int.reduceNeg, Int.reduceAdd, Int.reduceSub, Int.reduceMul, Int.reduceLT, Int.reduceLE, Int.reduceGT, Int.reduceGE, Int.reduceEq, Int.reduceNe, Int.reduceToNat, Int.reduceTMod, Int.reduceTDiv, wtL]; try rfl
      · simp (disch := omega) only [go_sem, reduceIte, reduceDIte, reduceCtorEq, Nat.reduceBEq, Nat.reduceEqDiff, Nat.reduceAdd, Nat.reduceSub, Nat.reduceMul, Nat.reduceLT, Nat.reduceLeDiff, Nat.reduceBNe, Int.reduceNeg, Int.reduceAdd, Int.reduceSub, Int.reduceMul, Int.reduceLT, Int.reduceLE, Int.reduceGT, Int.reduceGE, Int.reduceEq, Int.reduceNe, Int.reduceToNat, Int.reduceTMod, Int.reduceTDiv]

def heavyB (n : Tree) (s : List UInt8) : Bool := (decide (200 < n.nodes) || wideB n) || decide (3000 < wt n) || decide ((40 : Int) < s.length)
theorem heavy16 (n : Tree) (s : List UInt8) : PCall Tryz.prog 16 [nodeA n, .d (.str s)] (.d (.bool (heavyB n s))) := by
  refine fn16.pure noHint (Nat.le_refl _) (by simp only [go_sem, nodeA, nodeF, setD]) (by simp only [go_sem]) ?_
  simp (disch := omega) only [go_sem, reduceIte, reduceDIte, reduceCtorEq, Nat.reduceBEq, Nat.reduceEqDiff, Nat.reduceAdd, Nat.reduceSub, Nat.reduceMul, Nat.reduceLT, Nat.reduceLeDiff, Nat.reduceBNe, Int.reduceNeg, Int.reduceAdd, Int.reduceSub, Int.reduceMul, Int.reduceLT, Int.reduceLE, Int.reduceGT, Int.reduceGE, Int.reduceEq, Int.reduceNe, Int.reduceToNat, Int.reduceTMod, Int.reduceTDiv, nodeA, nodeF]
  refine (great10 n).at ?_
  cases hg : (decide (200 < n.nodes) || wideB n)
  · simp (disch := omega) only [go_sem, reduceIte, reduceDIte, reduceCtorEq, Nat.reduceBEq, Nat.reduceEqDiff, Nat.reduceAdd, Nat.reduceSub, Nat.reduceMul, Nat.reduceLT, Nat.reduceLeDiff, Nat.reduceBNe, Int.reduceNeg, Int.reduceAdd, Int.reduceSub, Int.reduceMul, Int.reduceLT, Int.reduceLE, Int.reduceGT, Int.reduceGE, Int.reduceEq, Int.reduceNe, Int.reduceToNat, Int.reduceTMod, Int.reduceTDiv, nodeF]
    have hnn : ¬ 200 < n.nodes := fun h => by rw [decide_eq_true h] at hg; cases hg
    refine (weight30 n (by omega)).at ?_
    by_cases hw : 3000 < wt n
    · have e : heavyB n s = true := by rw [heavyB, hg, decide_eq_true hw]; rfl
      simp (disch := omega) only [go_sem, reduceIte, reduceDIte, reduceCtorEq, Nat.reduceBEq, Nat.reduceEqDiff, Nat.reduceAdd, Nat.reduceSub, Nat.reduceMul, Nat.reduceLT, Nat.reduceLeDiff, Nat.reduceBNe, Int.reduceNeg, Int.reduceAdd, Int.reduceSub, Int.reduceMul, Int.reduceLT, Int.reduceLE, Int.reduceGT, Int.reduceGE, Int.reduceEq, Int.reduceNe, Int.reduceToNat, Int.reduceTMod, Int.reduceTDiv, hw, e]
    · have e : heavyB n s = decide ((40 : Int) < s.length) := by rw [heavyB, hg, decide_eq_false hw]; rfl
      simp (disch := omega) only [go_sem, reduceIte, reduceDIte, reduceCtorEq, Nat.reduceBEq, Nat.reduceEqDiff, Nat.reduceAdd, Nat.reduceSub, Nat.reduceMul, Nat.reduceLT, Nat.reduceLeDiff, Nat.reduceBNe, Int.reduceNeg, Int.reduceAdd, Int.reduceSub, Int.reduceMul, Int.reduceLT, Int.reduceLE, Int.reduceGT, Int.reduceGE, Int.reduceEq, Int.reduceNe, Int.reduceToNat, Int.reduceTMod, Int.reduceTDiv, hw, e]
  · have e : heavyB n s = true := by rw [heavyB, hg]; rfl
    simp (disch := omega) only [go_sem, reduceIte, reduceDIte, reduceCtorEq, Nat.reduceBEq, Nat.reduceEqDiff, Nat.reduceAdd, Nat.reduceSub, Nat.reduceMul, Nat.reduceLT, Nat.reduceLeDiff, Nat.reduceBNe, Int.reduceNeg, Int.reduceAdd, Int.reduceSub, Int.reduceMul, Int.reduceLT, Int.reduceLE, Int.reduceGT, Int.reduceGE, Int.reduceEq, Int.reduceNe, Int.reduceToNat, Int.reduceTMod, Int.reduceTDiv, e]
mutual
theorem thin_of : ∀ n : Tree, wideB n = false → Thin n
  | .mk k s l a b, h => by
    rw [wideB, Bool.or_eq_false_iff, decide_eq_false_iff_not] at h
    exact ⟨by omega, thinL_of l h.2⟩
theorem thinL_of : ∀ l : List Tree, wideL l = false → ThinL l
  | [], _ => trivial
  | x :: l, h => by
    rw [wideL, Bool.or_eq_false_iff] at h
    exact ⟨thin_of x h.1, thinL_of l h.2⟩
end
theorem light {n : Tree} {s : List UInt8} (h : heavyB n s = false) : n.nodes ≤ 200 ∧ wideB n = false ∧ s.length ≤ 40 := by
  simp only [heavyB, Bool.or_eq_false_iff, decide_eq_false_iff_not] at h
  exact ⟨by omega, h.1.1.2, by omega⟩
end Go.Proofs.YtebejiilpedlmaaGreatDoor
