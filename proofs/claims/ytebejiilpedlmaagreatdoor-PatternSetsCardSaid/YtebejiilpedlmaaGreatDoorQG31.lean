/- Part of a proof about the functions of this seat. -/
import Derived.Test.YtebejiilpedlmaaGreatDoorNO31
set_option linter.unusedVariables false
set_option linter.unusedSimpArgs false
set_option maxRecDepth 100000
namespace Go.Proofs.YtebejiilpedlmaaGreatDoor
open Go Nv Pat

/-- Whether the parts of a node are as its kind wants them. -/
def partsB (k : Int) (s : List (Int × Int)) (n : Int) (a b : Int) : Bool :=
  if k = 1 then decide (n = 0)
  else if k = 2 then decide (n = 0) && properB s
  else if k = 3 then decide (2 ≤ n)
  else if k = 4 then decide (2 ≤ n)
  else decide (n = 1) && decide (0 ≤ a) && decide (a ≤ 20) && (decide (b = -1) || (decide (a ≤ b) && decide (b ≤ 20)))
def kindB (k : Int) : Bool := decide (k = 1) || decide (k = 2) || decide (k = 3) || decide (k = 4) || decide (k = 5)
def badB (k : Int) (s : List (Int × Int)) (n : Int) (a b : Int) : Bool :=
  !partsB k s n a b || (decide (k ≠ 2) && decide (0 < (s.length : Int))) || (decide (k ≠ 5) && (decide (a ≠ 0) || decide (b ≠ 0)))
mutual
def chk : Tree → Int
  | .mk k s l a b => if kindB k then (if badB k s l.length a b then 1 else chkL l) else 9
def chkL : List Tree → Int
  | [] => 0
  | x :: l => if chk x = 0 then chkL l else chk x
end

/-- Trees whose sizes the program's numbers hold. -/
def Slim (n : Tree) : Prop := n.nodes ≤ 1000000
mutual
def Thin : Tree → Prop
  | .mk _ s l _ _ => s.length ≤ 1000000 ∧ ThinL l
def ThinL : List Tree → Prop
  | [] => True
  | x :: l => Thin x ∧ ThinL l
end
theorem thinL_mem : ∀ {l : List Tree} {x : Tree}, ThinL l → x ∈ l → Thin x
  | y :: l, x, h, hx => by
    rcases List.mem_cons.1 hx with e | hx
    · rw [e]; exact h.1
    · exact thinL_mem h.2 hx

def boxF (k : Int) (s : List (Int × Int)) (sub : List Tree) (a b : Int) : List AV := [.d (.int .i64 k), .d (setD s), .d (.list 5 (sub.map nodeD)), .d (.int .i64 a), .d (.int .i64 b)]

theorem check26 : ∀ n : Tree, n.nodes ≤ 1000000 → Thin n → PCall Tryz.prog 26 [nodeA n] (.d (.int .i64 (chk n))) := by
  intro n
  induction n using Tree.ind with
  | h k s sub a b ih =>
    intro hn ht
    have hsub : sub.length ≤ 1000000 := by
      have h1 := length_nodesL sub
      have h2 : (Tree.mk k s sub a b).nodes = 1 + Tree.nodesL sub := nodes_eq _
      omega
    have hs : s.length ≤ 1000000 := ht.1
    refine fn26.pure noHint (Nat.le_refl _) (by simp only [go_sem, nodeA, nodeF, setD]) (by simp only [go_sem]) ?_
    have c0 : chk (.mk k s sub a b) = if kindB k then (if badB k s sub.length a b then 1 else chkL sub) else 9 := by rw [chk]
    refine wW_cut (fun fr σ => fr 1 = .ptr 0 0 ∧ σ = [.box 25 (boxF k s sub a b)]) ?_ ?_
    · simp (disch := omega) only [go_sem, reduceIte, reduceCtorEq, Nat.reduceBEq, Nat.reduceEqDiff, Nat.reduceAdd, Nat.reduceLT, Nat.reduceLeDiff, Int.reduceNeg, Int.reduceAdd, Int.reduceLT, Int.reduceLE, Int.reduceEq, Int.reduceNe, nodeA, nodeF, Tree.kind, Tree.set, Tree.sub, Tree.min, Tree.max, boxF]
    rintro fr σ ⟨f1, rfl⟩
    refine wW_cut (fun fr σ => fr 1 = .ptr 0 0 ∧ σ = [.box 25 (boxF k s sub a b)]) ?_ ?_
    · simp (disch := omega) only [go_sem, reduceIte, reduceCtorEq, Nat.reduceBEq, Nat.reduceEqDiff, Nat.reduceAdd, Nat.reduceLT, Nat.reduceLeDiff, Int.reduceNeg, Int.reduceAdd, Int.reduceLT, Int.reduceLE, Int.reduceEq, Int.reduceNe, f1]
    rintro fr σ ⟨f1, rfl⟩
    refine wW_cut (fun fr σ => fr 1 = .ptr 0 0 ∧ fr 3 = .d (.bool (partsB k s sub.length a b)) ∧ kindB k = true ∧ σ = [.box 25 (boxF k s sub a b)]) ?_ ?_
    · by_cases k1 : k = 1
      · have e : partsB k s sub.length a b = decide ((sub.length : Int) = 0) := by simp only [partsB, if_pos k1]
        have e2 : kindB k = true := by simp [kindB, k1]
        rw [e, e2]
        subst k1
        simp (disch := omega) only [go_sem, reduceIte, reduceCtorEq, Nat.reduceBEq, Nat.reduceEqDiff, Nat.reduceAdd, Nat.reduceLT, Nat.reduceLeDiff, Int.reduceNeg, Int.reduceAdd, Int.reduceLT, Int.reduceLE, Int.reduceEq, Int.reduceNe, f1, boxF]
      by_cases k2 : k = 2
      · have e : partsB k s sub.length a b = (decide ((sub.length : Int) = 0) && properB s) := by simp only [partsB, if_neg k1, if_pos k2]
        have e2 : kindB k = true := by simp [kindB, k2]
        rw [e, e2]
        subst k2
        by_cases h0 : (sub.length : Int) = 0
        · simp (disch := omega) only [go_sem, reduceIte, reduceCtorEq, Nat.reduceBEq, Nat.reduceEqDiff, Nat.reduceAdd, Nat.reduceLT, Nat.reduceLeDiff, Int.reduceNeg, Int.reduceAdd, Int.reduceLT, Int.reduceLE, Int.reduceEq, Int.reduceNe, f1, boxF, h0]
          refine (proper43 s hs).at ?_
          simp (disch := omega) only [go_sem, reduceIte, reduceCtorEq, Nat.reduceBEq, Nat.reduceEqDiff, Nat.reduceAdd, Nat.reduceLT, Nat.reduceLeDiff, Int.reduceNeg, Int.reduceAdd, Int.reduceLT, Int.reduceLE, Int.reduceEq, Int.reduceNe, f1, h0]
        · simp (disch := omega) only [go_sem, reduceIte, reduceCtorEq, Nat.reduceBEq, Nat.reduceEqDiff, Nat.reduceAdd, Nat.reduceLT, Nat.reduceLeDiff, Int.reduceNeg, Int.reduceAdd, Int.reduceLT, Int.reduceLE, Int.reduceEq, Int.reduceNe, f1, boxF, h0]
      by_cases k34 : k = 3 ∨ k = 4
      · have e : partsB k s sub.length a b = decide (2 ≤ (sub.length : Int)) := by
          rcases k34 with h | h
          · simp only [partsB, if_neg k1, if_neg k2, if_pos h]
          · simp only [partsB, if_neg k1, if_neg k2, h]; rfl
        have e2 : kindB k = true := by rcases k34 with h | h <;> simp [kindB, h]
        rw [e, e2]
        rcases k34 with h | h <;> subst h <;> simp (disch := omega) only [go_sem, reduceIte, reduceCtorEq, Nat.reduceBEq, Nat.reduceEqDiff, Nat.reduceAdd, Nat.reduceLT, Nat.reduceLeDiff, Int.reduceNeg, Int.reduceAdd, Int.reduceLT, Int.reduceLE, Int.reduceEq, Int.reduceNe, f1, boxF]
      by_cases k5 : k = 5
      · have e2 : kindB k = true := by simp [kindB, k5]
        have e : partsB k s sub.length a b = (decide ((sub.length : Int) = 1) && decide (0 ≤ a) && decide (a ≤ 20) && (decide (b = -1) || (decide (a ≤ b) && decide (b ≤ 20)))) := by
          rw [k5]; rfl
        rw [e, e2]
        subst k5
        by_cases h1 : (sub.length : Int) = 1
        · by_cases h2 : 0 ≤ a
          · by_cases h3 : a ≤ 20
            · by_cases h4 : b = -1
              · simp (disch := omega) only [go_sem, reduceIte, reduceCtorEq, Nat.reduceBEq, Nat.reduceEqDiff, Nat.reduceAdd, Nat.reduceLT, Nat.reduceLeDiff, Int.reduceNeg, Int.reduceAdd, Int.reduceLT, Int.reduceLE, Int.reduceEq, Int.reduceNe, f1, boxF, h1, h2, h3, h4]
              · by_cases h5 : a ≤ b
                · simp (disch := omega) only [go_sem, reduceIte, reduceCtorEq, Nat.reduceBEq, Nat.reduceEqDiff, Nat.reduceAdd, Nat.reduceLT, Nat.reduceLeDiff, Int.reduceNeg, Int.reduceAdd, Int.reduceLT, Int.reduceLE, Int.reduceEq, Int.reduceNe, f1, boxF, h1, h2, h3, h4, h5]
                · simp (disch := omega) only [go_sem, reduceIte, reduceCtorEq, Nat.reduceBEq, Nat.reduceEqDiff, Nat.reduceAdd, Nat.reduceLT, Nat.reduceLeDiff, Int.reduceNeg, Int.reduceAdd, Int.reduceLT, Int.reduceLE, Int.reduceEq, Int.reduceNe, f1, boxF, h1, h2, h3, h4, h5]
            · simp (disch := omega) only [go_sem, reduceIte, reduceCtorEq, Nat.reduceBEq, Nat.reduceEqDiff, Nat.reduceAdd, Nat.reduceLT, Nat.reduceLeDiff, Int.reduceNeg, Int.reduceAdd, Int.reduceLT, Int.reduceLE, Int.reduceEq, Int.reduceNe, f1, boxF, h1, h2, h3]
          · simp (disch := omega) only [go_sem, reduceIte, reduceCtorEq, Nat.reduceBEq, Nat.reduceEqDiff, Nat.reduceAdd, Nat.reduceLT, Nat.reduceLeDiff, Int.reduceNeg, Int.reduceAdd, Int.reduceLT, Int.reduceLE, Int.reduceEq, Int.reduceNe, f1, boxF, h1, h2]
        · simp (disch := omega) only [go_sem, reduceIte, reduceCtorEq, Nat.reduceBEq, Nat.reduceEqDiff, Nat.reduceAdd, Nat.reduceLT, Nat.reduceLeDiff, Int.reduceNeg, Int.reduceAdd, Int.reduceLT, Int.reduceLE, Int.reduceEq, Int.reduceNe, f1, boxF, h1]
      · have k3 : ¬ k = 3 := fun h => k34 (.inl h)
        have k4 : ¬ k = 4 := fun h => k34 (.inr h)
        have e2 : kindB k = false := by simp [kindB, k1, k2, k3, k4, k5]
        have e : chk (.mk k s sub a b) = 9 := by rw [c0, e2]; rfl
        simp (disch := omega) only [go_sem, reduceIte, reduceCtorEq, Nat.reduceBEq, Nat.reduceEqDiff, Nat.reduceAdd, Nat.reduceLT, Nat.reduceLeDiff, Int.reduceNeg, Int.reduceAdd, Int.reduceLT, Int.reduceLE, Int.reduceEq, Int.reduceNe, f1, boxF, k1, k2, k3, k4, k5, e]
    rintro fr σ ⟨f1, f3, hkB, rfl⟩
    rw [if_pos hkB] at c0
    obtain ⟨z, hz⟩ : ∃ z, z = badB k s sub.length a b := ⟨_, rfl⟩
    rw [← hz] at c0
    refine wW_cut (fun fr σ => fr 1 = .ptr 0 0 ∧ z = false ∧ σ = [.box 25 (boxF k s sub a b)]) ?_ ?_
    · have one : z = true → chk (.mk k s sub a b) = 1 := fun h => by rw [c0, if_pos h]
      obtain ⟨q, hq⟩ : ∃ q, q = partsB k s sub.length a b := ⟨_, rfl⟩
      rw [← hq] at f3
      unfold badB at hz
      rw [← hq] at hz
      cases q
      · have e := one (by simp [hz])
        simp (disch := omega) only [go_sem, reduceIte, reduceCtorEq, Nat.reduceBEq, Nat.reduceEqDiff, Nat.reduceAdd, Nat.reduceLT, Nat.reduceLeDiff, Int.reduceNeg, Int.reduceAdd, Int.reduceLT, Int.reduceLE, Int.reduceEq, Int.reduceNe, f1, f3, e]
      by_cases k2 : k = 2
      · have k5 : ¬ k = 5 := by omega
        by_cases ha : a = 0
        · by_cases hb : b = 0
          · have e : z = false := by simp [hz, k2, ha, hb]
            simp (disch := omega) only [go_sem, reduceIte, reduceCtorEq, Nat.reduceBEq, Nat.reduceEqDiff, Nat.reduceAdd, Nat.reduceLT, Nat.reduceLeDiff, Int.reduceNeg, Int.reduceAdd, Int.reduceLT, Int.reduceLE, Int.reduceEq, Int.reduceNe, f1, f3, boxF, k2, ha, hb, e]
          · have e := one (by simp [hz, k5, hb])
            clear hz
            simp (disch := omega) only [go_sem, reduceIte, reduceCtorEq, Nat.reduceBEq, Nat.reduceEqDiff, Nat.reduceAdd, Nat.reduceLT, Nat.reduceLeDiff, Int.reduceNeg, Int.reduceAdd, Int.reduceLT, Int.reduceLE, Int.reduceEq, Int.reduceNe, f1, f3, boxF, k2, ha, hb]
            rw [← k2, ← ha, e]
        · have e := one (by simp [hz, k5, ha])
          simp (disch := omega) only [go_sem, reduceIte, reduceCtorEq, Nat.reduceBEq, Nat.reduceEqDiff, Nat.reduceAdd, Nat.reduceLT, Nat.reduceLeDiff, Int.reduceNeg, Int.reduceAdd, Int.reduceLT, Int.reduceLE, Int.reduceEq, Int.reduceNe, f1, f3, boxF, k2, ha]
          rw [← k2, e]
      · by_cases hl : (0 : Int) < s.length
        · have e := one (by rw [hz, decide_eq_true hl]; simp [k2])
          simp (disch := omega) only [go_sem, reduceIte, reduceCtorEq, Nat.reduceBEq, Nat.reduceEqDiff, Nat.reduceAdd, Nat.reduceLT, Nat.reduceLeDiff, Int.reduceNeg, Int.reduceAdd, Int.reduceLT, Int.reduceLE, Int.reduceEq, Int.reduceNe, f1, f3, boxF, k2, hl, setD, e]
        · rw [decide_eq_false hl] at hz
          by_cases k5 : k = 5
          · have e : z = false := by simp [hz, k5]
            simp (disch := omega) only [go_sem, reduceIte, reduceCtorEq, Nat.reduceBEq, Nat.reduceEqDiff, Nat.reduceAdd, Nat.reduceLT, Nat.reduceLeDiff, Int.reduceNeg, Int.reduceAdd, Int.reduceLT, Int.reduceLE, Int.reduceEq, Int.reduceNe, f1, f3, boxF, k2, hl, setD, k5, e]
          · by_cases ha : a = 0
            · by_cases hb : b = 0
              · have e : z = false := by simp [hz, ha, hb]
                simp (disch := omega) only [go_sem, reduceIte, reduceCtorEq, Nat.reduceBEq, Nat.reduceEqDiff, Nat.reduceAdd, Nat.reduceLT, Nat.reduceLeDiff, Int.reduceNeg, Int.reduceAdd, Int.reduceLT, Int.reduceLE, Int.reduceEq, Int.reduceNe, f1, f3, boxF, k2, hl, setD, k5, ha, hb, e]
              · have e := one (by simp [hz, k5, hb])
                simp (disch := omega) only [go_sem, reduceIte, reduceCtorEq, Nat.reduceBEq, Nat.reduceEqDiff, Nat.reduceAdd, Nat.reduceLT, Nat.reduceLeDiff, Int.reduceNeg, Int.reduceAdd, Int.reduceLT, Int.reduceLE, Int.reduceEq, Int.reduceNe, f1, f3, boxF, k2, hl, setD, k5, ha, hb]
                rw [← ha, e]
            · have e := one (by simp [hz, k5, ha])
              simp (disch := omega) only [go_sem, reduceIte, reduceCtorEq, Nat.reduceBEq, Nat.reduceEqDiff, Nat.reduceAdd, Nat.reduceLT, Nat.reduceLeDiff, Int.reduceNeg, Int.reduceAdd, Int.reduceLT, Int.reduceLE, Int.reduceEq, Int.reduceNe, f1, f3, boxF, k2, hl, setD, k5, ha, e]
    rintro fr σ ⟨f1, hbad, rfl⟩
    rw [hbad] at c0
    have c1 : chk (.mk k s sub a b) = chkL sub := c0
    have hnl : ∀ x, x ∈ sub → x.nodes ≤ 1000000 := fun x hx => by
      have h1 := nodes_mem sub x hx
      have h2 : (Tree.mk k s sub a b).nodes = 1 + Tree.nodesL sub := nodes_eq _
      omega
    simp (disch := omega) only [go_sem, reduceIte, reduceCtorEq, Nat.reduceBEq, Nat.reduceEqDiff, Nat.reduceAdd, Nat.reduceLT, Nat.reduceLeDiff, Int.reduceNeg, Int.reduceAdd, Int.reduceLT, Int.reduceLE, Int.reduceEq, Int.reduceNe, f1, boxF]
    refine wL_ind (fun (j : Nat) fr σ => j ≤ sub.length ∧ fr 95 = .d (.list 5 (sub.map nodeD)) ∧ fr 96 = .d (.int .i64 sub.length) ∧ fr 97 = .d (.int .i64 j) ∧ chkL (sub.drop j) = chk (.mk k s sub a b)) (fun j => sub.length - j) ?_ 0 ?_
    · rintro j fr σ ⟨hj, f95, f96, f97, hc⟩ ih2
      by_cases hlt : j < sub.length
      · obtain ⟨x, hx⟩ : ∃ x, x = sub.getD j default := ⟨_, rfl⟩
        have hxm : x ∈ sub := by rw [hx]; exact getD_mem sub j hlt
        have hd : sub.drop j = x :: sub.drop (j + 1) := by rw [hx]; exact drop_getD sub j hlt
        rw [hd] at hc
        simp (disch := omega) only [go_sem, reduceIte, reduceCtorEq, Nat.reduceBEq, Nat.reduceEqDiff, Nat.reduceAdd, Nat.reduceLT, Nat.reduceLeDiff, Int.reduceNeg, Int.reduceAdd, Int.reduceLT, Int.reduceLE, Int.reduceEq, Int.reduceNe, f95, f96, f97, hlt, nodeD_eq, nodeC, ← hx]
        refine (ih x hxm (hnl x hxm) (thinL_mem ht.2 hxm)).at ?_
        by_cases h0 : chk x = 0
        · have hc' : chkL (sub.drop (j + 1)) = chk (.mk k s sub a b) := by rw [← hc, chkL, if_pos h0]
          simp (disch := omega) only [go_sem, reduceIte, reduceCtorEq, Nat.reduceBEq, Nat.reduceEqDiff, Nat.reduceAdd, Nat.reduceLT, Nat.reduceLeDiff, Int.reduceNeg, Int.reduceAdd, Int.reduceLT, Int.reduceLE, Int.reduceEq, Int.reduceNe, h0, f97]
          refine ih2 (j + 1) _ _ (by omega) ⟨by omega, ?_, ?_, ?_, hc'⟩
          · simp (disch := omega) only [go_sem, reduceIte, reduceCtorEq, Nat.reduceBEq, Nat.reduceEqDiff, Nat.reduceAdd, Nat.reduceLT, Nat.reduceLeDiff, Int.reduceNeg, Int.reduceAdd, Int.reduceLT, Int.reduceLE, Int.reduceEq, Int.reduceNe, f95]
          · simp (disch := omega) only [go_sem, reduceIte, reduceCtorEq, Nat.reduceBEq, Nat.reduceEqDiff, Nat.reduceAdd, Nat.reduceLT, Nat.reduceLeDiff, Int.reduceNeg, Int.reduceAdd, Int.reduceLT, Int.reduceLE, Int.reduceEq, Int.reduceNe, f96]
          · simp (disch := omega) only [go_sem, reduceIte, reduceCtorEq, Nat.reduceBEq, Nat.reduceEqDiff, Nat.reduceAdd, Nat.reduceLT, Nat.reduceLeDiff, Int.reduceNeg, Int.reduceAdd, Int.reduceLT, Int.reduceLE, Int.reduceEq, Int.reduceNe]
        · have e : chk (.mk k s sub a b) = chk x := by rw [← hc, chkL, if_neg h0]
          simp (disch := omega) only [go_sem, reduceIte, reduceCtorEq, Nat.reduceBEq, Nat.reduceEqDiff, Nat.reduceAdd, Nat.reduceLT, Nat.reduceLeDiff, Int.reduceNeg, Int.reduceAdd, Int.reduceLT, Int.reduceLE, Int.reduceEq, Int.reduceNe, h0, e]
      · rw [List.drop_of_length_le (by omega)] at hc
        simp (disch := omega) only [go_sem, reduceIte, reduceCtorEq, Nat.reduceBEq, Nat.reduceEqDiff, Nat.reduceAdd, Nat.reduceLT, Nat.reduceLeDiff, Int.reduceNeg, Int.reduceAdd, Int.reduceLT, Int.reduceLE, Int.reduceEq, Int.reduceNe, f95, f96, f97, hlt]
        rw [← hc, chkL]
    · refine ⟨by omega, ?_, ?_, ?_, ?_⟩
      · simp (disch := omega) only [go_sem, reduceIte, reduceCtorEq, Nat.reduceBEq, Nat.reduceEqDiff, Nat.reduceAdd, Nat.reduceLT, Nat.reduceLeDiff, Int.reduceNeg, Int.reduceAdd, Int.reduceLT, Int.reduceLE, Int.reduceEq, Int.reduceNe]
      · simp (disch := omega) only [go_sem, reduceIte, reduceCtorEq, Nat.reduceBEq, Nat.reduceEqDiff, Nat.reduceAdd, Nat.reduceLT, Nat.reduceLeDiff, Int.reduceNeg, Int.reduceAdd, Int.reduceLT, Int.reduceLE, Int.reduceEq, Int.reduceNe]
      · simp (disch := omega) only [go_sem, reduceIte, reduceCtorEq, Nat.reduceBEq, Nat.reduceEqDiff, Nat.reduceAdd, Nat.reduceLT, Nat.reduceLeDiff, Int.reduceNeg, Int.reduceAdd, Int.reduceLT, Int.reduceLE, Int.reduceEq, Int.reduceNe]
      · rw [c1]; rfl
end Go.Proofs.YtebejiilpedlmaaGreatDoor
set_option linter.unusedVariables false
set_option linter.unusedSimpArgs false
set_option maxRecDepth 100000
namespace Go.Proofs.YtebejiilpedlmaaGreatDoor
open Go Nv Pat

def chkE (n : Tree) : Int := if 120 < n.nodes then 5 else chk n
theorem check13 (n : Tree) (h : Thin n) : PCall Tryz.prog 13 [nodeA n] (.d (.int .i64 (chkE n))) := by
  refine fn13.pure noHint (Nat.le_refl _) (by simp only [go_sem, nodeA, nodeF, setD]) (by simp only [go_sem]) ?_
  simp (disch := omega) only [go_sem, reduceIte, reduceCtorEq, Nat.reduceBEq, Nat.reduceEqDiff, Nat.reduceAdd, Nat.reduceLT, Nat.reduceLeDiff, Int.reduceNeg, Int.reduceAdd, Int.reduceLT, Int.reduceLE, Int.reduceEq, Int.reduceNe, nodeA, nodeF]
  refine (count25 n 120 (by omega)).at ?_
  by_cases h1 : 120 < n.nodes
  · have e : ((cnt n 120 : Nat) : Int) = 121 := by rw [cnt]; omega
    have e2 : chkE n = 5 := by rw [chkE, if_pos h1]
    simp (disch := omega) only [go_sem, reduceIte, reduceCtorEq, Nat.reduceBEq, Nat.reduceEqDiff, Nat.reduceAdd, Nat.reduceLT, Nat.reduceLeDiff, Int.reduceNeg, Int.reduceAdd, Int.reduceLT, Int.reduceLE, Int.reduceEq, Int.reduceNe, e, e2]
  · have e : ¬ (120 : Int) < ((cnt n 120 : Nat) : Int) := by rw [cnt]; omega
    have e2 : chkE n = chk n := by rw [chkE, if_neg h1]
    simp (disch := omega) only [go_sem, reduceIte, reduceCtorEq, Nat.reduceBEq, Nat.reduceEqDiff, Nat.reduceAdd, Nat.reduceLT, Nat.reduceLeDiff, Int.reduceNeg, Int.reduceAdd, Int.reduceLT, Int.reduceLE, Int.reduceEq, Int.reduceNe, e, e2, nodeF]
    refine (check26 n (by omega) h).at ?_
    simp (disch := omega) only [go_sem, reduceIte, reduceCtorEq, Nat.reduceBEq, Nat.reduceEqDiff, Nat.reduceAdd, Nat.reduceLT, Nat.reduceLeDiff, Int.reduceNeg, Int.reduceAdd, Int.reduceLT, Int.reduceLE, Int.reduceEq, Int.reduceNe, e2]

theorem chkL_mem : ∀ {l : List Tree}, chkL l = 0 → ∀ x, x ∈ l → chk x = 0
  | y :: l, h, x, hx => by
    rw [chkL] at h
    split at h
    · rename_i h0
      rcases List.mem_cons.1 hx with e | hx
      · rw [e]; exact h0
      · exact chkL_mem h x hx
    · rename_i h0; exact absurd h h0
theorem chk_ok {k : Int} {s : List (Int × Int)} {l : List Tree} {a b : Int} (h : chk (.mk k s l a b) = 0) : kindB k = true ∧ badB k s l.length a b = false ∧ chkL l = 0 := by
  rw [chk] at h
  split at h
  · rename_i h1
    split at h
    · cases h
    · rename_i h2
      exact ⟨h1, by simpa using h2, h⟩
  · cases h

theorem take_all {α : Type} (l : List α) (n : Nat) (h : l.length = n) : l.take n = l := List.take_of_length_le (by omega)
theorem chkE_ok {n : Tree} (h : chkE n = 0) : n.nodes ≤ 120 ∧ chk n = 0 := by
  unfold chkE at h
  split at h
  · cases h
  · exact ⟨by omega, h⟩
theorem chkL_of {l : List Tree} (h : ∀ x, x ∈ l → chk x = 0) : chkL l = 0 := by
  induction l with
  | nil => rfl
  | cons x l ih => rw [chkL, if_pos (h x (by simp))]; exact ih fun y hy => h y (by simp [hy])
theorem thinL_all {l : List Tree} (h : ∀ x, x ∈ l → Thin x) : ThinL l := by
  induction l with
  | nil => trivial
  | cons x l ih => exact ⟨h x (by simp), ih fun y hy => h y (by simp [hy])⟩


theorem count22 : ∀ (n : Tree) (lim : Nat), 1 ≤ lim → lim ≤ 1000000 → PCall Tryz.prog 22 [nodeA n, .d (.int .i64 lim)] (.d (.int .i64 (min n.nodes lim : Nat))) := by
  intro n
  induction n using Tree.ind with
  | h k s sub a b ih =>
    intro lim hl1 hlim
    refine fn22.pure noHint (Nat.le_refl _) (by simp only [go_sem, nodeA, nodeF, setD]) (by simp only [go_sem]) ?_
    simp (disch := omega) only [go_sem, reduceIte, reduceCtorEq, Nat.reduceBEq, Nat.reduceEqDiff, Nat.reduceAdd, Nat.reduceLT, Nat.reduceLeDiff, Int.reduceNeg, Int.reduceAdd, Int.reduceLT, Int.reduceLE, Int.reduceEq, Int.reduceNe, nodeA, nodeF, Tree.kind, Tree.set, Tree.sub, Tree.min, Tree.max]
    have hn : (Tree.mk k s sub a b).nodes = 1 + Tree.nodesL sub := nodes_eq _
    refine wL_ind (fun (j : Nat) fr σ => j ≤ sub.length ∧ fr 1 = .d (.int .i64 lim) ∧ fr 2 = .ptr 0 0 ∧ fr 5 = .d (.int .i64 (min (1 + Tree.nodesL (sub.take j)) lim : Nat)) ∧ fr 6 = .d (.int .i64 j) ∧
      σ = [.box 25 (boxF k s sub a b)] ∧ j < lim) (fun j => sub.length - j) ?_ 0 ?_
    · rintro j fr σ ⟨hj, f1, f2, f5, f6, rfl, hjl⟩ ih2
      obtain ⟨o, ho⟩ : ∃ o, o = min (1 + Tree.nodesL (sub.take j)) lim := ⟨_, rfl⟩
      rw [← ho] at f5
      have h1 := nodesL_take sub j
      by_cases hlt : j < sub.length
      · by_cases hgt : o < lim
        · obtain ⟨x, hx⟩ : ∃ x, x = sub.getD j default := ⟨_, rfl⟩
          have hxm : x ∈ sub := by rw [hx]; exact getD_mem sub j hlt
          have e1 : (lim : Int) - o = ((lim - o : Nat) : Int) := by omega
          simp (disch := omega) only [go_sem, reduceIte, reduceCtorEq, Nat.reduceBEq, Nat.reduceEqDiff, Nat.reduceAdd, Nat.reduceLT, Nat.reduceLeDiff, Int.reduceNeg, Int.reduceAdd, Int.reduceLT, Int.reduceLE, Int.reduceEq, Int.reduceNe, f1, f2, f5, f6, hlt, hgt, boxF, nodeD_eq, nodeC, ← hx, e1]
          refine (ih x hxm (lim - o) (by omega) (by omega)).at ?_
          have hc : min x.nodes (lim - o) ≤ lim - o := by omega
          have hxp := nodes_pos x
          have e2 : (o : Int) + (min x.nodes (lim - o) : Nat) = ((o + min x.nodes (lim - o) : Nat) : Int) := by omega
          have e3 : min (1 + (Tree.nodesL (sub.take j) + Tree.nodesL [x])) lim = o + min x.nodes (lim - o) := by simp only [Tree.nodesL]; omega
          have hjl2 := length_nodesL (sub.take j)
          rw [List.length_take] at hjl2
          have hj2 : j + 1 < lim := by omega
          simp (disch := omega) only [go_sem, reduceIte, reduceCtorEq, Nat.reduceBEq, Nat.reduceEqDiff, Nat.reduceAdd, Nat.reduceLT, Nat.reduceLeDiff, Int.reduceNeg, Int.reduceAdd, Int.reduceLT, Int.reduceLE, Int.reduceEq, Int.reduceNe, f5, f6, e2]
          refine ih2 (j + 1) _ _ (by omega) ⟨by omega, ?_, ?_, ?_, ?_, ?_, hj2⟩
          · simp (disch := omega) only [go_sem, reduceIte, reduceCtorEq, Nat.reduceBEq, Nat.reduceEqDiff, Nat.reduceAdd, Nat.reduceLT, Nat.reduceLeDiff, Int.reduceNeg, Int.reduceAdd, Int.reduceLT, Int.reduceLE, Int.reduceEq, Int.reduceNe, f1]
          · simp (disch := omega) only [go_sem, reduceIte, reduceCtorEq, Nat.reduceBEq, Nat.reduceEqDiff, Nat.reduceAdd, Nat.reduceLT, Nat.reduceLeDiff, Int.reduceNeg, Int.reduceAdd, Int.reduceLT, Int.reduceLE, Int.reduceEq, Int.reduceNe, f2]
          · rw [take_succ' sub j hlt, nodesL_append, ← hx, e3]; simp (disch := omega) only [go_sem, reduceIte, reduceCtorEq, Nat.reduceBEq, Nat.reduceEqDiff, Nat.reduceAdd, Nat.reduceLT, Nat.reduceLeDiff, Int.reduceNeg, Int.reduceAdd, Int.reduceLT, Int.reduceLE, Int.reduceEq, Int.reduceNe]
          · simp (disch := omega) only [go_sem, reduceIte, reduceCtorEq, Nat.reduceBEq, Nat.reduceEqDiff, Nat.reduceAdd, Nat.reduceLT, Nat.reduceLeDiff, Int.reduceNeg, Int.reduceAdd, Int.reduceLT, Int.reduceLE, Int.reduceEq, Int.reduceNe]
          · simp (disch := omega) only [go_sem, reduceIte, reduceCtorEq, Nat.reduceBEq, Nat.reduceEqDiff, Nat.reduceAdd, Nat.reduceLT, Nat.reduceLeDiff, Int.reduceNeg, Int.reduceAdd, Int.reduceLT, Int.reduceLE, Int.reduceEq, Int.reduceNe, boxF, nodeD_eq, nodeC]
        · have e : min (Tree.mk k s sub a b).nodes lim = o := by rw [hn]; omega
          simp (disch := omega) only [go_sem, reduceIte, reduceCtorEq, Nat.reduceBEq, Nat.reduceEqDiff, Nat.reduceAdd, Nat.reduceLT, Nat.reduceLeDiff, Int.reduceNeg, Int.reduceAdd, Int.reduceLT, Int.reduceLE, Int.reduceEq, Int.reduceNe, f1, f2, f5, f6, hlt, hgt, boxF, e]
      · have e : min (Tree.mk k s sub a b).nodes lim = o := by rw [hn, ho, List.take_of_length_le (by omega)]
        simp (disch := omega) only [go_sem, reduceIte, reduceCtorEq, Nat.reduceBEq, Nat.reduceEqDiff, Nat.reduceAdd, Nat.reduceLT, Nat.reduceLeDiff, Int.reduceNeg, Int.reduceAdd, Int.reduceLT, Int.reduceLE, Int.reduceEq, Int.reduceNe, f1, f2, f5, f6, hlt, boxF, e]
    · refine ⟨by omega, ?_, ?_, ?_, ?_, rfl, by omega⟩
      · simp (disch := omega) only [go_sem, reduceIte, reduceCtorEq, Nat.reduceBEq, Nat.reduceEqDiff, Nat.reduceAdd, Nat.reduceLT, Nat.reduceLeDiff, Int.reduceNeg, Int.reduceAdd, Int.reduceLT, Int.reduceLE, Int.reduceEq, Int.reduceNe]
      · simp (disch := omega) only [go_sem, reduceIte, reduceCtorEq, Nat.reduceBEq, Nat.reduceEqDiff, Nat.reduceAdd, Nat.reduceLT, Nat.reduceLeDiff, Int.reduceNeg, Int.reduceAdd, Int.reduceLT, Int.reduceLE, Int.reduceEq, Int.reduceNe]
      · simp (disch := omega) only [go_sem, reduceIte, reduceCtorEq, Nat.reduceBEq, Nat.reduceEqDiff, Nat.reduceAdd, Nat.reduceLT, Nat.reduceLeDiff, Int.reduceNeg, Int.reduceAdd, Int.reduceLT, Int.reduceLE, Int.reduceEq, Int.reduceNe]
        have : min (1 + Tree.nodesL []) lim = 1 := by simp only [Tree.nodesL]; omega
        rw [this]; rfl
      · simp (disch := omega) only [go_sem, reduceIte, reduceCtorEq, Nat.reduceBEq, Nat.reduceEqDiff, Nat.reduceAdd, Nat.reduceLT, Nat.reduceLeDiff, Int.reduceNeg, Int.reduceAdd, Int.reduceLT, Int.reduceLE, Int.reduceEq, Int.reduceNe]

mutual
def wideB : Tree → Bool
  | .mk _ s l _ _ => decide ((60 : Int) < s.length) || wideL l
def wideL : List Tree → Bool
  | [] => false
  | x :: l => wideB x || wideL l
end
theorem wide23 : ∀ (n : Tree), n.nodes ≤ 1000000 → PCall Tryz.prog 23 [nodeA n] (.d (.bool (wideB n))) := by
  intro n
  induction n using Tree.ind with
  | h k s sub a b ih =>
    intro hnd
    have hn : (Tree.mk k s sub a b).nodes = 1 + Tree.nodesL sub := nodes_eq _
    have hsub : sub.length ≤ 1000000 := by have h1 := length_nodesL sub; omega
    refine fn23.pure noHint (Nat.le_refl _) (by simp only [go_sem, nodeA, nodeF, setD]) (by simp only [go_sem]) ?_
    by_cases h60 : (60 : Int) < s.length
    · have e : wideB (.mk k s sub a b) = true := by rw [wideB, decide_eq_true h60, Bool.true_or]
      simp (disch := omega) only [go_sem, reduceIte, reduceCtorEq, Nat.reduceBEq, Nat.reduceEqDiff, Nat.reduceAdd, Nat.reduceLT, Nat.reduceLeDiff, Int.reduceNeg, Int.reduceAdd, Int.reduceLT, Int.reduceLE, Int.reduceEq, Int.reduceNe, nodeA, nodeF, Tree.kind, Tree.set, Tree.sub, Tree.min, Tree.max, setD, h60, e]
    have e : wideB (.mk k s sub a b) = wideL sub := by rw [wideB, decide_eq_false h60, Bool.false_or]
    simp (disch := omega) only [go_sem, reduceIte, reduceCtorEq, Nat.reduceBEq, Nat.reduceEqDiff, Nat.reduceAdd, Nat.reduceLT, Nat.reduceLeDiff, Int.reduceNeg, Int.reduceAdd, Int.reduceLT, Int.reduceLE, Int.reduceEq, Int.reduceNe, nodeA, nodeF, Tree.kind, Tree.set, Tree.sub, Tree.min, Tree.max, setD, h60]
    refine wL_ind (fun (j : Nat) fr σ => j ≤ sub.length ∧ fr 1 = .ptr 0 0 ∧ fr 3 = .d (.int .i64 j) ∧ σ = [.box 25 (boxF k s sub a b)] ∧ wideL (sub.drop j) = wideL sub) (fun j => sub.length - j) ?_ 0 ?_
    · rintro j fr σ ⟨hj, f1, f3, rfl, hw⟩ ih2
      by_cases hlt : j < sub.length
      · obtain ⟨x, hx⟩ : ∃ x, x = sub.getD j default := ⟨_, rfl⟩
        have hxm : x ∈ sub := by rw [hx]; exact getD_mem sub j hlt
        have hd : sub.drop j = x :: sub.drop (j + 1) := by rw [hx]; exact drop_getD sub j hlt
        rw [hd, wideL] at hw
        have hxn := nodes_mem sub x hxm
        simp (disch := omega) only [go_sem, reduceIte, reduceCtorEq, Nat.reduceBEq, Nat.reduceEqDiff, Nat.reduceAdd, Nat.reduceLT, Nat.reduceLeDiff, Int.reduceNeg, Int.reduceAdd, Int.reduceLT, Int.reduceLE, Int.reduceEq, Int.reduceNe, f1, f3, hlt, boxF, nodeD_eq, nodeC, ← hx]
        refine (ih x hxm (by omega)).at ?_
        cases hb : wideB x
        · rw [hb, Bool.false_or] at hw
          simp (disch := omega) only [go_sem, reduceIte, reduceCtorEq, Nat.reduceBEq, Nat.reduceEqDiff, Nat.reduceAdd, Nat.reduceLT, Nat.reduceLeDiff, Int.reduceNeg, Int.reduceAdd, Int.reduceLT, Int.reduceLE, Int.reduceEq, Int.reduceNe, hb, f3]
          refine ih2 (j + 1) _ _ (by omega) ⟨by omega, ?_, ?_, ?_, hw⟩
          · simp (disch := omega) only [go_sem, reduceIte, reduceCtorEq, Nat.reduceBEq, Nat.reduceEqDiff, Nat.reduceAdd, Nat.reduceLT, Nat.reduceLeDiff, Int.reduceNeg, Int.reduceAdd, Int.reduceLT, Int.reduceLE, Int.reduceEq, Int.reduceNe, f1]
          · simp (disch := omega) only [go_sem, reduceIte, reduceCtorEq, Nat.reduceBEq, Nat.reduceEqDiff, Nat.reduceAdd, Nat.reduceLT, Nat.reduceLeDiff, Int.reduceNeg, Int.reduceAdd, Int.reduceLT, Int.reduceLE, Int.reduceEq, Int.reduceNe]
          · simp (disch := omega) only [go_sem, reduceIte, reduceCtorEq, Nat.reduceBEq, Nat.reduceEqDiff, Nat.reduceAdd, Nat.reduceLT, Nat.reduceLeDiff, Int.reduceNeg, Int.reduceAdd, Int.reduceLT, Int.reduceLE, Int.reduceEq, Int.reduceNe, boxF, nodeD_eq, nodeC]
        · have e2 : wideB (.mk k s sub a b) = true := by rw [e, ← hw, hb, Bool.true_or]
          simp (disch := omega) only [go_sem, reduceIte, reduceCtorEq, Nat.reduceBEq, Nat.reduceEqDiff, Nat.reduceAdd, Nat.reduceLT, Nat.reduceLeDiff, Int.reduceNeg, Int.reduceAdd, Int.reduceLT, Int.reduceLE, Int.reduceEq, Int.reduceNe, hb, e2]
      · rw [List.drop_of_length_le (by omega)] at hw
        have e2 : wideB (.mk k s sub a b) = false := by rw [e, ← hw]; rfl
        simp (disch := omega) only [go_sem, reduceIte, reduceCtorEq, Nat.reduceBEq, Nat.reduceEqDiff, Nat.reduceAdd, Nat.reduceLT, Nat.reduceLeDiff, Int.reduceNeg, Int.reduceAdd, Int.reduceLT, Int.reduceLE, Int.reduceEq, Int.reduceNe, f1, f3, hlt, boxF, e2]
    · refine ⟨by omega, ?_, ?_, ?_, rfl⟩
      · simp (disch := omega) only [go_sem, reduceIte, reduceCtorEq, Nat.reduceBEq, Nat.reduceEqDiff, Nat.reduceAdd, Nat.reduceLT, Nat.reduceLeDiff, Int.reduceNeg, Int.reduceAdd, Int.reduceLT, Int.reduceLE, Int.reduceEq, Int.reduceNe]
      · simp (disch := omega) only [go_sem, reduceIte, reduceCtorEq, Nat.reduceBEq, Nat.reduceEqDiff, Nat.reduceAdd, Nat.reduceLT, Nat.reduceLeDiff, Int.reduceNeg, Int.reduceAdd, Int.reduceLT, Int.reduceLE, Int.reduceEq, Int.reduceNe]
      · simp (disch := omega) only [go_sem, reduceIte, reduceCtorEq, Nat.reduceBEq, Nat.reduceEqDiff, Nat.reduceAdd, Nat.reduceLT, Nat.reduceLeDiff, Int.reduceNeg, Int.reduceAdd, Int.reduceLT, Int.reduceLE, Int.reduceEq, Int.reduceNe, boxF, setD]

theorem great10 (n : Tree) : PCall Tryz.prog 10 [nodeA n] (.d (.bool (decide (200 < n.nodes) || wideB n))) := by
  refine fn10.pure noHint (Nat.le_refl _) (by simp only [go_sem, nodeA, nodeF, setD]) (by simp only [go_sem]) ?_
  simp (disch := omega) only [go_sem, reduceIte, reduceCtorEq, Nat.reduceBEq, Nat.reduceEqDiff, Nat.reduceAdd, Nat.reduceLT, Nat.reduceLeDiff, Int.reduceNeg, Int.reduceAdd, Int.reduceLT, Int.reduceLE, Int.reduceEq, Int.reduceNe, nodeA, nodeF]
  refine (count22 n 300 (by omega) (by omega)).at ?_
  by_cases h : 200 < n.nodes
  · have e : (200 : Int) < (min n.nodes 300 : Nat) := by omega
    simp (disch := omega) only [go_sem, reduceIte, reduceCtorEq, Nat.reduceBEq, Nat.reduceEqDiff, Nat.reduceAdd, Nat.reduceLT, Nat.reduceLeDiff, Int.reduceNeg, Int.reduceAdd, Int.reduceLT, Int.reduceLE, Int.reduceEq, Int.reduceNe, e, h]
  · have e : ¬ (200 : Int) < (min n.nodes 300 : Nat) := by omega
    simp (disch := omega) only [go_sem, reduceIte, reduceCtorEq, Nat.reduceBEq, Nat.reduceEqDiff, Nat.reduceAdd, Nat.reduceLT, Nat.reduceLeDiff, Int.reduceNeg, Int.reduceAdd, Int.reduceLT, Int.reduceLE, Int.reduceEq, Int.reduceNe, e, nodeF]
    refine (wide23 n (by omega)).at ?_
    simp (disch := omega) only [go_sem, reduceIte, reduceCtorEq, Nat.reduceBEq, Nat.reduceEqDiff, Nat.reduceAdd, Nat.reduceLT, Nat.reduceLeDiff, Int.reduceNeg, Int.reduceAdd, Int.reduceLT, Int.reduceLE, Int.reduceEq, Int.reduceNe, h]
mutual
theorem thin_of : ∀ n : Tree, wideB n = false → Thin n
  | .mk k s l a b, h => by
    rw [wideB, Bool.or_eq_false_iff, decide_eq_false_iff_not] at h
    exact ⟨by omega, thinL_of l h.2⟩
theorem thinL_of : ∀ l : List Tree, wideL l = false → ThinL l
  | [], _ => trivial
  | x :: l, h => by
    rw [wideL, Bool.or_eq_false_iff] at h
    exact ⟨thin_of x h.1, thinL_of l h.2⟩
end
def runesD (l : List Int) : List DV := l.map (DV.int .i32)
@[go_sem] theorem runesD_length (l : List Int) : (runesD l).length = l.length := nrfl (by simp [runesD])
theorem stGet_app (l m : Nv.ST) (k : Nat) : stGet (l ++ m) (List.length l + k) = stGet m k := by
  simp [stGet, List.getD_eq_getElem?_getD, List.getElem?_append_right]
theorem stGet_app0 (l m : Nv.ST) : stGet (l ++ m) (List.length l) = stGet m 0 := stGet_app l m 0
theorem stSet_app (l m : Nv.ST) (k : Nat) (x : Blk) : stSet (l ++ m) (List.length l + k) x = l ++ stSet m k x := by
  simp [stSet, List.set_append_right]
theorem stSet_app0 (l m : Nv.ST) (x : Blk) : stSet (l ++ m) (List.length l) x = l ++ stSet m 0 x := by
  simp [stSet, List.set_append_right]
theorem stGet_one (a b : Blk) (l : Nv.ST) : stGet (a :: b :: l) 1 = b := rfl
theorem stSet_one (a b x : Blk) (l : Nv.ST) : stSet (a :: b :: l) 1 x = a :: x :: l := rfl

def bt (b : UInt8) : Int := (b.toNat : Int)
end Go.Proofs.YtebejiilpedlmaaGreatDoor
