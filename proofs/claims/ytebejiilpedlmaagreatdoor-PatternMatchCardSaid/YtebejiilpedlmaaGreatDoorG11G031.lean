/- Part of a proof about the functions of this seat. -/
import Derived.Test.YtebejiilpedlmaaGreatDoorG10Q31
set_option linter.unusedVariables false
set_option linter.unusedSimpArgs false
set_option maxRecDepth 100000
namespace Go.Proofs.YtebejiilpedlmaaGreatDoor
open Go Nv Pat

def chkE (n : Tree) : Int := if 120 < n.nodes then 5 else chk n
theorem check13 (n : Tree) (h : Thin n) : PCall Tryz.prog 13 [nodeA n] (.d (.int .i64 (chkE n))) := by
  refine fn13.pure noHint (Nat.le_refl _) (by simp only [go_sem, nodeA, nodeF, setD]) (by simp only [go_sem]) ?_
  simp (disch := omega) only [go_sem, reduceIte, reduceDIte, reduceCtorEq, Nat.reduceBEq, Nat.reduceEqDiff, Nat.reduceAdd, Nat.reduceSub, Nat.reduceMul, Nat.reduceLT, Nat.reduceLeDiff, Nat.reduceBNe, Int.reduceNeg, Int.reduceAdd, Int.reduceSub, Int.reduceMul, Int.reduceLT, Int.reduceLE, Int.reduceGT, Int.reduceGE, Int.reduceEq, Int.reduceNe, Int.reduceToNat, Int.reduceTMod, Int.reduceTDiv, nodeA, nodeF]
  refine (count25 n 120 (by omega)).at ?_
  by_cases h1 : 120 < n.nodes
  · have e : ((cnt n 120 : Nat) : Int) = 121 := by rw [cnt]; omega
    have e2 : chkE n = 5 := by rw [chkE, if_pos h1]
    simp (disch := omega) only [go_sem, reduceIte, reduceDIte, reduceCtorEq, Nat.reduceBEq, Nat.reduceEqDiff, Nat.reduceAdd, Nat.reduceSub, Nat.reduceMul, Nat.reduceLT, Nat.reduceLeDiff, Nat.reduceBNe, Int.reduceNeg, Int.reduceAdd, Int.reduceSub, Int.reduceMul, Int.reduceLT, Int.reduceLE, Int.reduceGT, Int.reduceGE, Int.reduceEq, Int.reduceNe, Int.reduceToNat, Int.reduceTMod, Int.reduceTDiv, e, e2]
  · have e : ¬ (120 : Int) < ((cnt n 120 : Nat) : Int) := by rw [cnt]; omega
    have e2 : chkE n = chk n := by rw [chkE, if_neg h1]
    simp (disch := omega) only [go_sem, reduceIte, reduceDIte, reduceCtorEq, Nat.reduceBEq, Nat.reduceEqDiff, Nat.reduceAdd, Nat.reduceSub, Nat.reduceMul, Nat.reduceLT, Nat.reduceLeDiff, Nat.reduceBNe, Int.reduceNeg, Int.reduceAdd, Int.reduceSub, Int.reduceMul, Int.reduceLT, Int.reduceLE, Int.reduceGT, Int.reduceGE, Int.reduceEq, Int.reduceNe, Int.reduceToNat, Int.reduceTMod, Int.reduceTDiv, e, e2, nodeF]
    refine (check26 n (by omega) h).at ?_
    simp (disch := omega) only [go_sem, reduceIte, reduceDIte, reduceCtorEq, Nat.reduceBEq, Nat.reduceEqDiff, Nat.reduceAdd, Nat.reduceSub, Nat.reduceMul, Nat.reduceLT, Nat.reduceLeDiff, Nat.reduceBNe, Int.reduceNeg, Int.reduceAdd, Int.reduceSub, Int.reduceMul, Int.reduceLT, Int.reduceLE, Int.reduceGT, Int.reduceGE, Int.reduceEq, Int.reduceNe, Int.reduceToNat, Int.reduceTMod, Int.reduceTDiv, e2]

theorem chkL_mem : ∀ {l : List Tree}, chkL l = 0 → ∀ x, x ∈ l → chk x = 0
  | y :: l, h, x, hx => by
    rw [chkL] at h
    split at h
    · rename_i h0
      rcases List.mem_cons.1 hx with e | hx
      · rw [e]; exact h0
      · exact chkL_mem h x hx
    · rename_i h0; exact absurd h h0
theorem chk_ok {k : Int} {s : List (Int × Int)} {l : List Tree} {a b : Int} (h : chk (.mk k s l a b) = 0) : kindB k = true ∧ badB k s l.length a b = false ∧ chkL l = 0 := by
  rw [chk] at h
  split at h
  · rename_i h1
    split at h
    · cases h
    · rename_i h2
      exact ⟨h1, by simpa using h2, h⟩
  · cases h

theorem take_all {α : Type} (l : List α) (n : Nat) (h : l.length = n) : l.take n = l := List.take_of_length_le (by omega)
theorem chkE_ok {n : Tree} (h : chkE n = 0) : n.nodes ≤ 120 ∧ chk n = 0 := by
  unfold chkE at h
  split at h
  · cases h
  · exact ⟨by omega, h⟩
theorem chkL_of {l : List Tree} (h : ∀ x, x ∈ l → chk x = 0) : chkL l = 0 := by
  induction l with
  | nil => rfl
  | cons x l ih => rw [chkL, if_pos (h x (by simp))]; exact ih fun y hy => h y (by simp [hy])
theorem thinL_all {l : List Tree} (h : ∀ x, x ∈ l → Thin x) : ThinL l := by
  induction l with
  | nil => trivial
  | cons x l ih => exact ⟨h x (by simp), ih fun y hy => h y (by simp [hy])⟩


theorem count22 : ∀ (n : Tree) (lim : Nat), 1 ≤ lim → lim ≤ 1000000 → PCall Tryz.prog 22 [nodeA n, .d (.int .i64 lim)] (.d (.int .i64 (min n.nodes lim : Nat))) := by
  intro n
  induction n using Tree.ind with
  | h k s sub a b ih =>
    intro lim hl1 hlim
    refine fn22.pure noHint (Nat.le_refl _) (by simp only [go_sem, nodeA, nodeF, setD]) (by simp only [go_sem]) ?_
    simp (disch := omega) only [go_sem, reduceIte, reduceDIte, reduceCtorEq, Nat.reduceBEq, Nat.reduceEqDiff, Nat.reduceAdd, Nat.reduceSub, Nat.reduceMul, Nat.reduceLT, Nat.reduceLeDiff, Nat.reduceBNe, Int.reduceNeg, Int.reduceAdd, Int.reduceSub, Int.reduceMul, Int.reduceLT, Int.reduceLE, Int.reduceGT, Int.reduceGE, Int.reduceEq, Int.reduceNe, Int.reduceToNat, Int.reduceTMod, Int.reduceTDiv, nodeA, nodeF, Tree.kind, Tree.set, Tree.sub, Tree.min, Tree.max]
    have hn : (Tree.mk k s sub a b).nodes = 1 + Tree.nodesL sub := nodes_eq _
    refine wL_ind (fun (j : Nat) fr σ => j ≤ sub.length ∧ fr 1 = .d (.int .i64 lim) ∧ fr 2 = .ptr 0 0 ∧ fr 5 = .d (.int .i64 (min (1 + Tree.nodesL (sub.take j)) lim : Nat)) ∧ fr 6 = .d (.int .i64 j) ∧
      σ = [.box 25 (boxF k s sub a b)] ∧ j < lim) (fun j => sub.length - j) ?_ 0 ?_
    · rintro j fr σ ⟨hj, f1, f2, f5, f6, rfl, hjl⟩ ih2
      obtain ⟨o, ho⟩ : ∃ o, o = min (1 + Tree.nodesL (sub.take j)) lim := ⟨_, rfl⟩
      rw [← ho] at f5
      have h1 := nodesL_take sub j
      by_cases hlt : j < sub.length
      · by_cases hgt : o < lim
        · obtain ⟨x, hx⟩ : ∃ x, x = sub.getD j default := ⟨_, rfl⟩
          have hxm : x ∈ sub := by rw [hx]; exact getD_mem sub j hlt
          have e1 : (lim : Int) - o = ((lim - o : Nat) : Int) := by omega
          simp (disch := omega) only [go_sem, reduceIte, reduceDIte, reduceCtorEq, Nat.reduceBEq, Nat.reduceEqDiff, Nat.reduceAdd, Nat.reduceSub, Nat.reduceMul, Nat.reduceLT, Nat.reduceLeDiff, Nat.reduceBNe, Int.reduceNeg, Int.reduceAdd, Int.reduceSub, Int.reduceMul, Int.reduceLT, Int.reduceLE, Int.reduceGT, Int.reduceGE, Int.reduceEq, Int.reduceNe, Int.reduceToNat, Int.reduceTMod, Int.reduceTDiv, f1, f2, f5, f6, hlt, hgt, boxF, nodeD_eq, nodeC, ← hx, e1]
          refine (ih x hxm (lim - o) (by omega) (by omega)).at ?_
          have hc : min x.nodes (lim - o) ≤ lim - o := by omega
          have hxp := nodes_pos x
          have e2 : (o : Int) + (min x.nodes (lim - o) : Nat) = ((o + min x.nodes (lim - o) : Nat) : Int) := by omega
          have e3 : min (1 + (Tree.nodesL (sub.take j) + Tree.nodesL [x])) lim = o + min x.nodes (lim - o) := by simp only [Tree.nodesL]; omega
          have hjl2 := length_nodesL (sub.take j)
          rw [List.length_take] at hjl2
          have hj2 : j + 1 < lim := by omega
          simp (disch := omega) only [go_sem, reduceIte, reduceDIte, reduceCtorEq, Nat.reduceBEq, Nat.reduceEqDiff, Nat.reduceAdd, Nat.reduceSub, Nat.reduceMul, Nat.reduceLT, Nat.reduceLeDiff, Nat.reduceBNe, Int.reduceNeg, Int.reduceAdd, Int.reduceSub, Int.reduceMul, Int.reduceLT, Int.reduceLE, Int.reduceGT, Int.reduceGE, Int.reduceEq, Int.reduceNe, Int.reduceToNat, Int.reduceTMod, Int.reduceTDiv, f5, f6, e2]
          refine ih2 (j + 1) _ _ (by omega) ⟨by omega, ?_, ?_, ?_, ?_, ?_, hj2⟩
          · simp (disch := omega) only [go_sem, reduceIte, reduceDIte, reduceCtorEq, Nat.reduceBEq, Nat.reduceEqDiff, Nat.reduceAdd, Nat.reduceSub, Nat.reduceMul, Nat.reduceLT, Nat.reduceLeDiff, Nat.reduceBNe, Int.reduceNeg, Int.reduceAdd, Int.reduceSub, Int.reduceMul, Int.reduceLT, Int.reduceLE, Int.reduceGT, Int.reduceGE, Int.reduceEq, Int.reduceNe, Int.reduceToNat, Int.reduceTMod, Int.reduceTDiv, f1]
          · simp (disch := omega) only [go_sem, reduceIte, reduceDIte, reduceCtorEq, Nat.reduceBEq, Nat.reduceEqDiff, Nat.reduceAdd, Nat.reduceSub, Nat.reduceMul, Nat.reduceLT, Nat.reduceLeDiff, Nat.reduceBNe, Int.reduceNeg, Int.reduceAdd, Int.reduceSub, Int.reduceMul, Int.reduceLT, Int.reduceLE, Int.reduceGT, Int.reduceGE, Int.reduceEq, Int.reduceNe, Int.reduceToNat, Int.reduceTMod, Int.reduceTDiv, f2]
          · rw [take_succ' sub j hlt, nodesL_append, ← hx, e3]; simp (disch := omega) only [go_sem, reduceIte, reduceDIte, reduceCtorEq, Nat.reduceBEq, Nat.reduceEqDiff, Nat.reduceAdd, Nat.reduceSub, Nat.reduceMul, Nat.reduceLT, Nat.reduceLeDiff, Nat.reduceBNe, Int.reduceNeg, Int.reduceAdd, Int.reduceSub, Int.reduceMul, Int.reduceLT, Int.reduceLE, Int.reduceGT, Int.reduceGE, Int.reduceEq, Int.reduceNe, Int.reduceToNat, Int.reduceTMod, Int.reduceTDiv]
          · simp (disch := omega) only [go_sem, reduceIte, reduceDIte, reduceCtorEq, Nat.reduceBEq, Nat.reduceEqDiff, Nat.reduceAdd, Nat.reduceSub, Nat.reduceMul, Nat.reduceLT, Nat.reduceLeDiff, Nat.reduceBNe, Int.reduceNeg, Int.reduceAdd, Int.reduceSub, Int.reduceMul, Int.reduceLT, Int.reduceLE, Int.reduceGT, Int.reduceGE, Int.reduceEq, Int.reduceNe, Int.reduceToNat, Int.reduceTMod, Int.reduceTDiv]
          · simp (disch := omega) only [go_sem, reduceIte, reduceDIte, reduceCtorEq, Nat.reduceBEq, Nat.reduceEqDiff, Nat.reduceAdd, Nat.reduceSub, Nat.reduceMul, Nat.reduceLT, Nat.reduceLeDiff, Nat.reduceBNe, Int.reduceNeg, Int.reduceAdd, Int.reduceSub, Int.reduceMul, Int.reduceLT, Int.reduceLE, Int.reduceGT, Int.reduceGE, Int.reduceEq, Int.reduceNe, Int.reduceToNat, Int.reduceTMod, Int.reduceTDiv, boxF, nodeD_eq, nodeC]
        · have e : min (Tree.mk k s sub a b).nodes lim = o := by rw [hn]; omega
          simp (disch := omega) only [go_sem, reduceIte, reduceDIte, reduceCtorEq, Nat.reduceBEq, Nat.reduceEqDiff, Nat.reduceAdd, Nat.reduceSub, Nat.reduceMul, Nat.reduceLT, Nat.reduceLeDiff, Nat.reduceBNe, Int.reduceNeg, Int.reduceAdd, Int.reduceSub, Int.reduceMul, Int.reduceLT, Int.reduceLE, Int.reduceGT, Int.reduceGE, Int.reduceEq, Int.reduceNe, Int.reduceToNat, Int.reduceTMod, Int.reduceTDiv, f1, f2, f5, f6, hlt, hgt, boxF, e]
      · have e : min (Tree.mk k s sub a b).nodes lim = o := by rw [hn, ho, List.take_of_length_le (by omega)]
        simp (disch := omega) only [go_sem, reduceIte, reduceDIte, reduceCtorEq, Nat.reduceBEq, Nat.reduceEqDiff, Nat.reduceAdd, Nat.reduceSub, Nat.reduceMul, Nat.reduceLT, Nat.reduceLeDiff, Nat.reduceBNe, Int.reduceNeg, Int.reduceAdd, Int.reduceSub, Int.reduceMul, Int.reduceLT, Int.reduceLE, Int.reduceGT, Int.reduceGE, Int.reduceEq, Int.reduceNe, Int.reduceToNat, Int.reduceTMod, Int.reduceTDiv, f1, f2, f5, f6, hlt, boxF, e]
    · refine ⟨by omega, ?_, ?_, ?_, ?_, rfl, by omega⟩
      · simp (disch := omega) only [go_sem, reduceIte, reduceDIte, reduceCtorEq, Nat.reduceBEq, Nat.reduceEqDiff, Nat.reduceAdd, Nat.reduceSub, Nat.reduceMul, Nat.reduceLT, Nat.reduceLeDiff, Nat.reduceBNe, Int.reduceNeg, Int.reduceAdd, Int.reduceSub, Int.reduceMul, Int.reduceLT, Int.reduceLE, Int.reduceGT, Int.reduceGE, Int.reduceEq, Int.reduceNe, Int.reduceToNat, Int.reduceTMod, Int.reduceTDiv]
      · simp (disch := omega) only [go_sem, reduceIte, reduceDIte, reduceCtorEq, Nat.reduceBEq, Nat.reduceEqDiff, Nat.reduceAdd, Nat.reduceSub, Nat.reduceMul, Nat.reduceLT, Nat.reduceLeDiff, Nat.reduceBNe, Int.reduceNeg, Int.reduceAdd, Int.reduceSub, Int.reduceMul, Int.reduceLT, Int.reduceLE, Int.reduceGT, Int.reduceGE, Int.reduceEq, Int.reduceNe, Int.reduceToNat, Int.reduceTMod, Int.reduceTDiv]
      · simp (disch := omega) only [go_sem, reduceIte, reduceDIte, reduceCtorEq, Nat.reduceBEq, Nat.reduceEqDiff, Nat.reduceAdd, Nat.reduceSub, Nat.reduceMul, Nat.reduceLT, Nat.reduceLeDiff, Nat.reduceBNe, Int.reduceNeg, Int.reduceAdd, Int.reduceSub, Int.reduceMul, Int.reduceLT, Int.reduceLE, Int.reduceGT, Int.reduceGE, Int.reduceEq, Int.reduceNe, Int.reduceToNat, Int.reduceTMod, Int.reduceTDiv]
        have : min (1 + Tree.nodesL []) lim = 1 := by simp only [Tree.nodesL]; omega
        rw [this]; rfl
      · simp (disch := omega) only [go_sem, reduceIte, reduceDIte, reduceCtorEq, Nat.reduceBEq, Nat.reduceEqDiff, Nat.reduceAdd, Nat.reduceSub, Nat.reduceMul, Nat.reduceLT, Nat.reduceLeDiff, Nat.reduceBNe, Int.reduceNeg, Int.reduceAdd, Int.reduceSub, Int.reduceMul, Int.reduceLT, Int.reduceLE, Int.reduceGT, Int.reduceGE, Int.reduceEq, Int.reduceNe, Int.reduceToNat, Int.reduceTMod, Int.reduceTDiv]

mutual
def wideB : Tree → Bool
  | .mk _ s l _ _ => decide ((60 : Int) < s.length) || wideL l
def wideL : List Tree → Bool
  | [] => false
  | x :: l => wideB x || wideL l
end
theorem wide23 : ∀ (n : Tree), n.nodes ≤ 1000000 → PCall Tryz.prog 23 [nodeA n] (.d (.bool (wideB n))) := by
  intro n
  induction n using Tree.ind with
  | h k s sub a b ih =>
    intro hnd
    have hn : (Tree.mk k s sub a b).nodes = 1 + Tree.nodesL sub := nodes_eq _
    have hsub : sub.length ≤ 1000000 := by have h1 := length_nodesL sub; omega
    refine fn23.pure noHint (Nat.le_refl _) (by simp only [go_sem, nodeA, nodeF, setD]) (by simp only [go_sem]) ?_
    by_cases h60 : (60 : Int) < s.length
    · have e : wideB (.mk k s sub a b) = true := by rw [wideB, decide_eq_true h60, Bool.true_or]
      simp (disch := omega) only [go_sem, reduceIte, reduceDIte, reduceCtorEq, Nat.reduceBEq, Nat.reduceEqDiff, Nat.reduceAdd, Nat.reduceSub, Nat.reduceMul, Nat.reduceLT, Nat.reduceLeDiff, Nat.reduceBNe, Int.reduceNeg, Int.reduceAdd, Int.reduceSub, Int.reduceMul, Int.reduceLT, Int.reduceLE, Int.reduceGT, Int.reduceGE, Int.reduceEq, Int.reduceNe, Int.reduceToNat, Int.reduceTMod, Int.reduceTDiv, nodeA, nodeF, Tree.kind, Tree.set, Tree.sub, Tree.min, Tree.max, setD, h60, e]
    have e : wideB (.mk k s sub a b) = wideL sub := by rw [wideB, decide_eq_false h60, Bool.false_or]
    simp (disch := omega) only [go_sem, reduceIte, reduceDIte, reduceCtorEq, Nat.reduceBEq, Nat.reduceEqDiff, Nat.reduceAdd, Nat.reduceSub, Nat.reduceMul, Nat.reduceLT, Nat.reduceLeDiff, Nat.reduceBNe, Int.reduceNeg, Int.reduceAdd, Int.reduceSub, Int.reduceMul, Int.reduceLT, Int.reduceLE, Int.reduceGT, Int.reduceGE, Int.reduceEq, Int.reduceNe, Int.reduceToNat, Int.reduceTMod, Int.reduceTDiv, nodeA, nodeF, Tree.kind, Tree.set, Tree.sub, Tree.min, Tree.max, setD, h60]
    refine wL_ind (fun (j : Nat) fr σ => j ≤ sub.length ∧ fr 1 = .ptr 0 0 ∧ fr 3 = .d (.int .i64 j) ∧ σ = [.box 25 (boxF k s sub a b)] ∧ wideL (sub.drop j) = wideL sub) (fun j => sub.length - j) ?_ 0 ?_
    · rintro j fr σ ⟨hj, f1, f3, rfl, hw⟩ ih2
      by_cases hlt : j < sub.length
      · obtain ⟨x, hx⟩ : ∃ x, x = sub.getD j default := ⟨_, rfl⟩
        have hxm : x ∈ sub := by rw [hx]; exact getD_mem sub j hlt
        have hd : sub.drop j = x :: sub.drop (j + 1) := by rw [hx]; exact drop_getD sub j hlt
        rw [hd, wideL] at hw
        have hxn := nodes_mem sub x hxm
        simp (disch := omega) only [go_sem, reduceIte, reduceDIte, reduceCtorEq, Nat.reduceBEq, Nat.reduceEqDiff, Nat.reduceAdd, Nat.reduceSub, Nat.reduceMul, Nat.reduceLT, Nat.reduceLeDiff, Nat.reduceBNe, Int.reduceNeg, Int.reduceAdd, Int.reduceSub, Int.reduceMul, Int.reduceLT, Int.reduceLE, Int.reduceGT, Int.reduceGE, Int.reduceEq, Int.reduceNe, Int.reduceToNat, Int.reduceTMod, Int.reduceTDiv, f1, f3, hlt, boxF, nodeD_eq, nodeC, ← hx]
        refine (ih x hxm (by omega)).at ?_
        cases hb : wideB x
        · rw [hb, Bool.false_or] at hw
          simp (disch := omega) only [go_sem, reduceIte, reduceDIte, reduceCtorEq, Nat.reduceBEq, Nat.reduceEqDiff, Nat.reduceAdd, Nat.reduceSub, Nat.reduceMul, Nat.reduceLT, Nat.reduceLeDiff, Nat.reduceBNe, Int.reduceNeg, Int.reduceAdd, Int.reduceSub, Int.reduceMul, Int.reduceLT, Int.reduceLE, Int.reduceGT, Int.reduceGE, Int.reduceEq, Int.reduceNe, Int.reduceToNat, Int.reduceTMod, Int.reduceTDiv, hb, f3]
          refine ih2 (j + 1) _ _ (by omega) ⟨by omega, ?_, ?_, ?_, hw⟩
          · simp (disch := omega) only [go_sem, reduceIte, reduceDIte, reduceCtorEq, Nat.reduceBEq, Nat.reduceEqDiff, Nat.reduceAdd, Nat.reduceSub, Nat.reduceMul, Nat.reduceLT, Nat.reduceLeDiff, Nat.reduceBNe, Int.reduceNeg, Int.reduceAdd, Int.reduceSub, Int.reduceMul, Int.reduceLT, Int.reduceLE, Int.reduceGT, Int.reduceGE, Int.reduceEq, Int.reduceNe, Int.reduceToNat, Int.reduceTMod, Int.reduceTDiv, f1]
          · simp (disch := omega) only [go_sem, reduceIte, reduceDIte, reduceCtorEq, Nat.reduceBEq, Nat.reduceEqDiff, Nat.reduceAdd, Nat.reduceSub, Nat.reduceMul, Nat.reduceLT, Nat.reduceLeDiff, Nat.reduceBNe, Int.reduceNeg, Int.reduceAdd, Int.reduceSub, Int.reduceMul, Int.reduceLT, Int.reduceLE, Int.reduceGT, Int.reduceGE, Int.reduceEq, Int.reduceNe, Int.reduceToNat, Int.reduceTMod, Int.reduceTDiv]
          · simp (disch := omega) only [go_sem, reduceIte, reduceDIte, reduceCtorEq, Nat.reduceBEq, Nat.reduceEqDiff, Nat.reduceAdd, Nat.reduceSub, Nat.reduceMul, Nat.reduceLT, Nat.reduceLeDiff, Nat.reduceBNe, Int.reduceNeg, Int.reduceAdd, Int.reduceSub, Int.reduceMul, Int.reduceLT, Int.reduceLE, Int.reduceGT, Int.reduceGE, Int.reduceEq, Int.reduceNe, Int.reduceToNat, Int.reduceTMod, Int.reduceTDiv, boxF, nodeD_eq, nodeC]
        · have e2 : wideB (.mk k s sub a b) = true := by rw [e, ← hw, hb, Bool.true_or]
          simp (disch := omega) only [go_sem, reduceIte, reduceDIte, reduceCtorEq, Nat.reduceBEq, Nat.reduceEqDiff, Nat.reduceAdd, Nat.reduceSub, Nat.reduceMul, Nat.reduceLT, Nat.reduceLeDiff, Nat.reduceBNe, Int.reduceNeg, Int.reduceAdd, Int.reduceSub, Int.reduceMul, Int.reduceLT, Int.reduceLE, Int.reduceGT, Int.reduceGE, Int.reduceEq, Int.reduceNe, Int.reduceToNat, Int.reduceTMod, Int.reduceTDiv, hb, e2]
      · rw [List.drop_of_length_le (by omega)] at hw
        have e2 : wideB (.mk k s sub a b) = false := by rw [e, ← hw]; rfl
        simp (disch := omega) only [go_sem, reduceIte, reduceDIte, reduceCtorEq, Nat.reduceBEq, Nat.reduceEqDiff, Nat.reduceAdd, Nat.reduceSub, Nat.reduceMul, Nat.reduceLT, Nat.reduceLeDiff, Nat.reduceBNe, Int.reduceNeg, Int.reduceAdd, Int.reduceSub, Int.reduceMul, Int.reduceLT, Int.reduceLE, Int.reduceGT, Int.reduceGE, Int.reduceEq, Int.reduceNe, Int.reduceToNat, Int.reduceTMod, Int.reduceTDiv, f1, f3, hlt, boxF, e2]
    · refine ⟨by omega, ?_, ?_, ?_, rfl⟩
      · simp (disch := omega) only [go_sem, reduceIte, reduceDIte, reduceCtorEq, Nat.reduceBEq, Nat.reduceEqDiff, Nat.reduceAdd, Nat.reduceSub, Nat.reduceMul, Nat.reduceLT, Nat.reduceLeDiff, Nat.reduceBNe, Int.reduceNeg, Int.reduceAdd, Int.reduceSub, Int.reduceMul, Int.reduceLT, Int.reduceLE, Int.reduceGT, Int.reduceGE, Int.reduceEq, Int.reduceNe, Int.reduceToNat, Int.reduceTMod, Int.reduceTDiv]
      · simp (disch := omega) only [go_sem, reduceIte, reduceDIte, reduceCtorEq, Nat.reduceBEq, Nat.reduceEqDiff, Nat.reduceAdd, Nat.reduceSub, Nat.reduceMul, Nat.reduceLT, Nat.reduceLeDiff, Nat.reduceBNe, Int.reduceNeg, Int.reduceAdd, Int.reduceSub, Int.reduceMul, Int.reduceLT, Int.reduceLE, Int.reduceGT, Int.reduceGE, Int.reduceEq, Int.reduceNe, Int.reduceToNat, Int.reduceTMod, Int.reduceTDiv]
      · simp (disch := omega) only [go_sem, reduceIte, reduceDIte, reduceCtorEq, Nat.reduceBEq, Nat.reduceEqDiff, Nat.reduceAdd, Nat.reduceSub, Nat.reduceMul, Nat.reduceLT, Nat.reduceLeDiff, Nat.reduceBNe, Int.reduceNeg, Int.reduceAdd, Int.reduceSub, Int.reduceMul, Int.reduceLT, Int.reduceLE, Int.reduceGT, Int.reduceGE, Int.reduceEq, Int.reduceNe, Int.reduceToNat, Int.reduceTMod, Int.reduceTDiv, boxF, setD]

theorem great10 (n : Tree) : PCall Tryz.prog 10 [nodeA n] (.d (.bool (decide (200 < n.nodes) || wideB n))) := by
  refine fn10.pure noHint (Nat.le_refl _) (by simp only [go_sem, nodeA, nodeF, setD]) (by simp only [go_sem]) ?_
  simp (disch := omega) only [go_sem, reduceIte, reduceDIte, reduceCtorEq, Nat.reduceBEq, Nat.reduceEqDiff, Nat.reduceAdd, Nat.reduceSub, Nat.reduceMul, Nat.reduceLT, Nat.reduceLeDiff, Nat.reduceBNe, Int.reduceNeg, Int.reduceAdd, Int.reduceSub, Int.reduceMul, Int.reduceLT, Int.reduceLE, Int.reduceGT, Int.reduceGE, Int.reduceEq, Int.reduceNe, Int.reduceToNat, Int.reduceTMod, Int.reduceTDiv, nodeA, nodeF]
  refine (count22 n 300 (by omega) (by omega)).at ?_
  by_cases h : 200 < n.nodes
  · have e : (200 : Int) < (min n.nodes 300 : Nat) := by omega
    simp (disch := omega) only [go_sem, reduceIte, reduceDIte, reduceCtorEq, Nat.reduceBEq, Nat.reduceEqDiff, Nat.reduceAdd, Nat.reduceSub, Nat.reduceMul, Nat.reduceLT, Nat.reduceLeDiff, Nat.reduceBNe, Int.reduceNeg, Int.reduceAdd, Int.reduceSub, Int.reduceMul, Int.reduceLT, Int.reduceLE, Int.reduceGT, Int.reduceGE, Int.reduceEq, Int.reduceNe, Int.reduceToNat, Int.reduceTMod, Int.reduceTDiv, e, h]
  · have e : ¬ (200 : Int) < (min n.nodes 300 : Nat) := by omega
    simp (disch := omega) only [go_sem, reduceIte, reduceDIte, reduceCtorEq, Nat.reduceBEq, Nat.reduceEqDiff, Nat.reduceAdd, Nat.reduceSub, Nat.reduceMul, Nat.reduceLT, Nat.reduceLeDiff, Nat.reduceBNe, Int.reduceNeg, Int.reduceAdd, Int.reduceSub, Int.reduceMul, Int.reduceLT, Int.reduceLE, Int.reduceGT, Int.reduceGE, Int.reduceEq, Int.reduceNe, Int.reduceToNat, Int.reduceTMod, Int.reduceTDiv, e, nodeF]
    refine (wide23 n (by omega)).at ?_
    simp (disch := omega) only [go_sem, reduceIte, reduceDIte, reduceCtorEq, Nat.reduceBEq, Nat.reduceEqDiff, Nat.reduceAdd, Nat.reduceSub, Nat.reduceMul, Nat.reduceLT, Nat.reduceLeDiff, Nat.reduceBNe, Int.reduceNeg, Int.reduceAdd, Int.reduceSub, Int.reduceMul, Int.reduceLT, Int.reduceLE, Int.reduceGT, Int.reduceGE, Int.reduceEq, Int.reduceNe, Int.reduceToNat, Int.reduceTMod, Int.reduceTDiv, h]
mutual
theorem thin_of : ∀ n : Tree, wideB n = false → Thin n
  | .mk k s l a b, h => by
    rw [wideB, Bool.or_eq_false_iff, decide_eq_false_iff_not] at h
    exact ⟨by omega, thinL_of l h.2⟩
theorem thinL_of : ∀ l : List Tree, wideL l = false → ThinL l
  | [], _ => trivial
  | x :: l, h => by
    rw [wideL, Bool.or_eq_false_iff] at h
    exact ⟨thin_of x h.1, thinL_of l h.2⟩
end
def runesD (l : List Int) : List DV := l.map (DV.int .i32)
@[go_sem] theorem runesD_length (l : List Int) : (runesD l).length = l.length := nrfl (by simp [runesD])
theorem stGet_app (l m : Nv.ST) (k : Nat) : stGet (l ++ m) (List.length l + k) = stGet m k := by
  simp [stGet, List.getD_eq_getElem?_getD, List.getElem?_append_right]
theorem stGet_app0 (l m : Nv.ST) : stGet (l ++ m) (List.length l) = stGet m 0 := stGet_app l m 0
theorem stSet_app (l m : Nv.ST) (k : Nat) (x : Blk) : stSet (l ++ m) (List.length l + k) x = l ++ stSet m k x := by
  simp [stSet, List.set_append_right]
theorem stSet_app0 (l m : Nv.ST) (x : Blk) : stSet (l ++ m) (List.length l) x = l ++ stSet m 0 x := by
  simp [stSet, List.set_append_right]
theorem stGet_one (a b : Blk) (l : Nv.ST) : stGet (a :: b :: l) 1 = b := rfl
theorem stSet_one (a b x : Blk) (l : Nv.ST) : stSet (a :: b :: l) 1 x = a :: x :: l := rfl

def bt (b : UInt8) : Int := (b.toNat : Int)
end Go.Proofs.YtebejiilpedlmaaGreatDoor
