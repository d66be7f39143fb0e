/- Part of a proof about the functions of this seat. -/
import Derived.Test.YtefpcfooahogkaaDoorG11O35
set_option linter.unusedVariables false
set_option linter.unusedSimpArgs false
set_option maxRecDepth 100000
namespace Go.Proofs.YtefpcfooahogkaaDoor
open Go Nv Pat

/-- Whether the parts of a node are as its kind wants them. -/
def partsB (k : Int) (s : List (Int × Int)) (n : Int) (a b : Int) : Bool :=
  if k = 1 then decide (n = 0)
  else if k = 2 then decide (n = 0) && properB s
  else if k = 3 then decide (2 ≤ n)
  else if k = 4 then decide (2 ≤ n)
  else decide (n = 1) && decide (0 ≤ a) && decide (a ≤ 20) && (decide (b = -1) || (decide (a ≤ b) && decide (b ≤ 20)))
def kindB (k : Int) : Bool := decide (k = 1) || decide (k = 2) || decide (k = 3) || decide (k = 4) || decide (k = 5)
def badB (k : Int) (s : List (Int × Int)) (n : Int) (a b : Int) : Bool :=
  !partsB k s n a b || (decide (k ≠ 2) && decide (0 < (s.length : Int))) || (decide (k ≠ 5) && (decide (a ≠ 0) || decide (b ≠ 0)))
mutual
def chk : Tree → Int
  | .mk k s l a b => if kindB k then (if badB k s l.length a b then 1 else chkL l) else 9
def chkL : List Tree → Int
  | [] => 0
  | x :: l => if chk x = 0 then chkL l else chk x
end

/-- Trees whose sizes the program's numbers hold. -/
def Slim (n : Tree) : Prop := n.nodes ≤ 1000000
mutual
def Thin : Tree → Prop
  | .mk _ s l _ _ => s.length ≤ 1000000 ∧ ThinL l
def ThinL : List Tree → Prop
  | [] => True
  | x :: l => Thin x ∧ ThinL l
end
theorem thinL_mem : ∀ {l : List Tree} {x : Tree}, ThinL l → x ∈ l → Thin x
  | y :: l, x, h, hx => by
    rcases List.mem_cons.1 hx with e | hx
    · rw [e]; exact h.1
    · exact thinL_mem h.2 hx

def boxF (k : Int) (s : List (Int × Int)) (sub : List Tree) (a b : Int) : List AV := [.d (.int .i64 k), .d (setD s), .d (.list 5 (sub.map nodeD)), .d (.int .i64 a), .d (.int .i64 b)]

theorem check26 : ∀ n : Tree, n.nodes ≤ 1000000 → Thin n → PCall Tryd.prog 45 [nodeA n] (.d (.int .i64 (chk n))) := by
  intro n
  induction n using Tree.ind with
  | h k s sub a b ih =>
    intro hn ht
    have hsub : sub.length ≤ 1000000 := by
      have h1 := length_nodesL sub
      have h2 : (Tree.mk k s sub a b).nodes = 1 + Tree.nodesL sub := nodes_eq _
      omega
    have hs : s.length ≤ 1000000 := ht.1
    refine fn45.pure noHint (Nat.le_refl _) (by simp only [go_sem, nodeA, nodeF, setD]) (by simp only [go_sem]) ?_
    have c0 : chk (.mk k s sub a b) = if kindB k then (if badB k s sub.length a b then 1 else chkL sub) else 9 := by rw [chk]
    refine wW_cut (fun fr σ => fr 1 = .ptr 0 0 ∧ σ = [.box 46 (boxF k s sub a b)]) ?_ ?_
    · simp (disch := omega) only [go_sem, reduceIte, reduceDIte, reduceCtorEq, Nat.reduceBEq, Nat.reduceEqDiff, Nat.reduceAdd, Nat.reduceSub, Nat.reduceMul, Nat.reduceLT, Nat.reduceLeDiff, Nat.reduceBNe, Int.reduceNeg, Int.reduceAdd, Int.reduceSub, Int.reduceMul, Int.reduceLT, Int.reduceLE, Int.reduceGT, Int.reduceGE, Int.reduceEq, Int.reduceNe, Int.reduceToNat, Int.reduceTMod, Int.reduceTDiv, nodeA, nodeF, Tree.kind, Tree.set, Tree.sub, Tree.min, Tree.max, boxF]
    rintro fr σ ⟨f1, rfl⟩
    refine wW_cut (fun fr σ => fr 1 = .ptr 0 0 ∧ σ = [.box 46 (boxF k s sub a b)]) ?_ ?_
    · simp (disch := omega) only [go_sem, reduceIte, reduceDIte, reduceCtorEq, Nat.reduceBEq, Nat.reduceEqDiff, Nat.reduceAdd, Nat.reduceSub, Nat.reduceMul, Nat.reduceLT, Nat.reduceLeDiff, Nat.reduceBNe, Int.reduceNeg, Int.reduceAdd, Int.reduceSub, Int.reduceMul, Int.reduceLT, Int.reduceLE, Int.reduceGT, Int.reduceGE, Int.reduceEq, Int.reduceNe, Int.reduceToNat, Int.reduceTMod, Int.reduceTDiv, f1]
    rintro fr σ ⟨f1, rfl⟩
    refine wW_cut (fun fr σ => fr 1 = .ptr 0 0 ∧ fr 3 = .d (.bool (partsB k s sub.length a b)) ∧ kindB k = true ∧ σ = [.box 46 (boxF k s sub a b)]) ?_ ?_
    · by_cases k1 : k = 1
      · have e : partsB k s sub.length a b = decide ((sub.length : Int) = 0) := by simp only [partsB, if_pos k1]
        have e2 : kindB k = true := by simp [kindB, k1]
        rw [e, e2]
        subst k1
        simp (disch := omega) only [go_sem, reduceIte, reduceDIte, reduceCtorEq, Nat.reduceBEq, Nat.reduceEqDiff, Nat.reduceAdd, Nat.reduceSub, Nat.reduceMul, Nat.reduceLT, Nat.reduceLeDiff, Nat.reduceBNe, Int.reduceNeg, Int.reduceAdd, Int.reduceSub, Int.reduceMul, Int.reduceLT, Int.reduceLE, Int.reduceGT, Int.reduceGE, Int.reduceEq, Int.reduceNe, Int.reduceToNat, Int.reduceTMod, Int.reduceTDiv, f1, boxF]
      by_cases k2 : k = 2
      · have e : partsB k s sub.length a b = (decide ((sub.length : Int) = 0) && properB s) := by simp only [partsB, if_neg k1, if_pos k2]
        have e2 : kindB k = true := by simp [kindB, k2]
        rw [e, e2]
        subst k2
        by_cases h0 : (sub.length : Int) = 0
        · simp (disch := omega) only [go_sem, reduceIte, reduceDIte, reduceCtorEq, Nat.reduceBEq, Nat.reduceEqDiff, Nat.reduceAdd, Nat.reduceSub, Nat.reduceMul, Nat.reduceLT, Nat.reduceLeDiff, Nat.reduceBNe, Int.reduceNeg, Int.reduceAdd, Int.reduceSub, Int.reduceMul, Int.reduceLT, Int.reduceLE, Int.reduceGT, Int.reduceGE, Int.reduceEq, Int.reduceNe, Int.reduceToNat, Int.reduceTMod, Int.reduceTDiv, f1, boxF, h0]
          refine (proper43 s hs).at ?_
          simp (disch := omega) only [go_sem, reduceIte, reduceDIte, reduceCtorEq, Nat.reduceBEq, Nat.reduceEqDiff, Nat.reduceAdd, Nat.reduceSub, Nat.reduceMul, Nat.reduceLT, Nat.reduceLeDiff, Nat.reduceBNe, Int.reduceNeg, Int.reduceAdd, Int.reduceSub, Int.reduceMul, Int.reduceLT, Int.reduceLE, Int.reduceGT, Int.reduceGE, Int.reduceEq, Int.reduceNe, Int.reduceToNat, Int.reduceTMod, Int.reduceTDiv, f1, h0]
        · simp (disch := omega) only [go_sem, reduceIte, reduceDIte, reduceCtorEq, Nat.reduceBEq, Nat.reduceEqDiff, Nat.reduceAdd, Nat.reduceSub, Nat.reduceMul, Nat.reduceLT, Nat.reduceLeDiff, Nat.reduceBNe, Int.reduceNeg, Int.reduceAdd, Int.reduceSub, Int.reduceMul, Int.reduceLT, Int.reduceLE, Int.reduceGT, Int.reduceGE, Int.reduceEq, Int.reduceNe, Int.reduceToNat, Int.reduceTMod, Int.reduceTDiv, f1, boxF, h0]
      by_cases k34 : k = 3 ∨ k = 4
      · have e : partsB k s sub.length a b = decide (2 ≤ (sub.length : Int)) := by
          rcases k34 with h | h
          · simp only [partsB, if_neg k1, if_neg k2, if_pos h]
          · simp only [partsB, if_neg k1, if_neg k2, h]; rfl
        have e2 : kindB k = true := by rcases k34 with h | h <;> simp [kindB, h]
        rw [e, e2]
        rcases k34 with h | h <;> subst h <;> simp (disch := omega) only [go_sem, reduceIte, reduceDIte, reduceCtorEq, Nat.reduceBEq, Nat.reduceEqDiff, Nat.reduceAdd, Nat.reduceSub, Nat.reduceMul, Nat.reduceLT, Nat.reduceLeDiff, Nat.reduceBNe, Int.reduceNeg, Int.reduceAdd, Int.reduceSub, Int.reduceMul, Int.reduceLT, Int.reduceLE, Int.reduceGT, Int.reduceGE, Int.reduceEq, Int.reduceNe, Int.reduceToNat, Int.reduceTMod, Int.reduceTDiv, f1, boxF]
      by_cases k5 : k = 5
      · have e2 : kindB k = true := by simp [kindB, k5]
        have e : partsB k s sub.length a b = (decide ((sub.length : Int) = 1) && decide (0 ≤ a) && decide (a ≤ 20) && (decide (b = -1) || (decide (a ≤ b) && decide (b ≤ 20)))) := by
          rw [k5]; rfl
        rw [e, e2]
        subst k5
        by_cases h1 : (sub.length : Int) = 1
        · by_cases h2 : 0 ≤ a
          · by_cases h3 : a ≤ 20
            · by_cases h4 : b = -1
              · simp (disch := omega) only [go_sem, reduceIte, reduceDIte, reduceCtorEq, Nat.reduceBEq, Nat.reduceEqDiff, Nat.reduceAdd, Nat.reduceSub, Nat.reduceMul, Nat.reduceLT, Nat.reduceLeDiff, Nat.reduceBNe, Int.reduceNeg, Int.reduceAdd, Int.reduceSub, Int.reduceMul, Int.reduceLT, Int.reduceLE, Int.reduceGT, Int.reduceGE, Int.reduceEq, Int.reduceNe, Int.reduceToNat, Int.reduceTMod, Int.reduceTDiv, f1, boxF, h1, h2, h3, h4]
              · by_cases h5 : a ≤ b
                · simp (disch := omega) only [go_sem, reduceIte, reduceDIte, reduceCtorEq, Nat.reduceBEq, Nat.reduceEqDiff, Nat.reduceAdd, Nat.reduceSub, Nat.reduceMul, Nat.reduceLT, Nat.reduceLeDiff, Nat.reduceBNe, Int.reduceNeg, Int.reduceAdd, Int.reduceSub, Int.reduceMul, Int.reduceLT, Int.reduceLE, Int.reduceGT, Int.reduceGE, Int.reduceEq, Int.reduceNe, Int.reduceToNat, Int.reduceTMod, Int.reduceTDiv, f1, boxF, h1, h2, h3, h4, h5]
                · simp (disch := omega) only [go_sem, reduceIte, reduceDIte, reduceCtorEq, Nat.reduceBEq, Nat.reduceEqDiff, Nat.reduceAdd, Nat.reduceSub, Nat.reduceMul, Nat.reduceLT, Nat.reduceLeDiff, Nat.reduceBNe, Int.reduceNeg, Int.reduceAdd, Int.reduceSub, Int.reduceMul, Int.reduceLT, Int.reduceLE, Int.reduceGT, Int.reduceGE, Int.reduceEq, Int.reduceNe, Int.reduceToNat, Int.reduceTMod, Int.reduceTDiv, f1, boxF, h1, h2, h3, h4, h5]
            · simp (disch := omega) only [go_sem, reduceIte, reduceDIte, reduceCtorEq, Nat.reduceBEq, Nat.reduceEqDiff, Nat.reduceAdd, Nat.reduceSub, Nat.reduceMul, Nat.reduceLT, Nat.reduceLeDiff, Nat.reduceBNe, Int.reduceNeg, Int.reduceAdd, Int.reduceSub, Int.reduceMul, Int.reduceLT, Int.reduceLE, Int.reduceGT, Int.reduceGE, Int.reduceEq, Int.reduceNe, Int.reduceToNat, Int.reduceTMod, Int.reduceTDiv, f1, boxF, h1, h2, h3]
          · simp (disch := omega) only [go_sem, reduceIte, reduceDIte, reduceCtorEq, Nat.reduceBEq, Nat.reduceEqDiff, Nat.reduceAdd, Nat.reduceSub, Nat.reduceMul, Nat.reduceLT, Nat.reduceLeDiff, Nat.reduceBNe, Int.reduceNeg, Int.reduceAdd, Int.reduceSub, Int.reduceMul, Int.reduceLT, Int.reduceLE, Int.reduceGT, Int.reduceGE, Int.reduceEq, Int.reduceNe, Int.reduceToNat, Int.reduceTMod, Int.reduceTDiv, f1, boxF, h1, h2]
        · simp (disch := omega) only [go_sem, reduceIte, reduceDIte, reduceCtorEq, Nat.reduceBEq, Nat.reduceEqDiff, Nat.reduceAdd, Nat.reduceSub, Nat.reduceMul, Nat.reduceLT, Nat.reduceLeDiff, Nat.reduceBNe, Int.reduceNeg, Int.reduceAdd, Int.reduceSub, Int.reduceMul, Int.reduceLT, Int.reduceLE, Int.reduceGT, Int.reduceGE, Int.reduceEq, Int.reduceNe, Int.reduceToNat, Int.reduceTMod, Int.reduceTDiv, f1, boxF, h1]
      · have k3 : ¬ k = 3 := fun h => k34 (.inl h)
        have k4 : ¬ k = 4 := fun h => k34 (.inr h)
        have e2 : kindB k = false := by simp [kindB, k1, k2, k3, k4, k5]
        have e : chk (.mk k s sub a b) = 9 := by rw [c0, e2]; rfl
        simp (disch := omega) only [go_sem, reduceIte, reduceDIte, reduceCtorEq, Nat.reduceBEq, Nat.reduceEqDiff, Nat.reduceAdd, Nat.reduceSub, Nat.reduceMul, Nat.reduceLT, Nat.reduceLeDiff, Nat.reduceBNe, Int.reduceNeg, Int.reduceAdd, Int.reduceSub, Int.reduceMul, Int.reduceLT, Int.reduceLE, Int.reduceGT, Int.reduceGE, Int.reduceEq, Int.reduceNe, Int.reduceToNat, Int.reduceTMod, Int.reduceTDiv, f1, boxF, k1, k2, k3, k4, k5, e]
    rintro fr σ ⟨f1, f3, hkB, rfl⟩
    rw [if_pos hkB] at c0
    obtain ⟨z, hz⟩ : ∃ z, z = badB k s sub.length a b := ⟨_, rfl⟩
    rw [← hz] at c0
    refine wW_cut (fun fr σ => fr 1 = .ptr 0 0 ∧ z = false ∧ σ = [.box 46 (boxF k s sub a b)]) ?_ ?_
    · have one : z = true → chk (.mk k s sub a b) = 1 := fun h => by rw [c0, if_pos h]
      obtain ⟨q, hq⟩ : ∃ q, q = partsB k s sub.length a b := ⟨_, rfl⟩
      rw [← hq] at f3
      unfold badB at hz
      rw [← hq] at hz
      cases q
      · have e := one (by simp [hz])
        simp (disch := omega) only [go_sem, reduceIte, reduceDIte, reduceCtorEq, Nat.reduceBEq, Nat.reduceEqDiff, Nat.reduceAdd, Nat.reduceSub, Nat.reduceMul, Nat.reduceLT, Nat.reduceLeDiff, Nat.reduceBNe, Int.reduceNeg, Int.reduceAdd, Int.reduceSub, Int.reduceMul, Int.reduceLT, Int.reduceLE, Int.reduceGT, Int.reduceGE, Int.reduceEq, Int.reduceNe, Int.reduceToNat, Int.reduceTMod, Int.reduceTDiv, f1, f3, e]
      by_cases k2 : k = 2
      · have k5 : ¬ k = 5 := by omega
        by_cases ha : a = 0
        · by_cases hb : b = 0
          · have e : z = false := by simp [hz, k2, ha, hb]
            simp (disch := omega) only [go_sem, reduceIte, reduceDIte, reduceCtorEq, Nat.reduceBEq, Nat.reduceEqDiff, Nat.reduceAdd, Nat.reduceSub, Nat.reduceMul, Nat.reduceLT, Nat.reduceLeDiff, Nat.reduceBNe, Int.reduceNeg, Int.reduceAdd, Int.reduceSub, Int.reduceMul, Int.reduceLT, Int.reduceLE, Int.reduceGT, Int.reduceGE, Int.reduceEq, Int.reduceNe, Int.reduceToNat, Int.reduceTMod, Int.reduceTDiv, f1, f3, boxF, k2, ha, hb, e]
          · have e := one (by simp [hz, k5, hb])
            clear hz
            simp (disch := omega) only [go_sem, reduceIte, reduceDIte, reduceCtorEq, Nat.reduceBEq, Nat.reduceEqDiff, Nat.reduceAdd, Nat.reduceSub, Nat.reduceMul, Nat.reduceLT, Nat.reduceLeDiff, Nat.reduceBNe, Int.reduceNeg, Int.reduceAdd, Int.reduceSub, Int.reduceMul, Int.reduceLT, Int.reduceLE, Int.reduceGT, Int.reduceGE, Int.reduceEq, Int.reduceNe, Int.reduceToNat, Int.reduceTMod, Int.reduceTDiv, f1, f3, boxF, k2, ha, hb]
            rw [← k2, ← ha, e]
        · have e := one (by simp [hz, k5, ha])
          simp (disch := omega) only [go_sem, reduceIte, reduceDIte, reduceCtorEq, Nat.reduceBEq, Nat.reduceEqDiff, Nat.reduceAdd, Nat.reduceSub, Nat.reduceMul, Nat.reduceLT, Nat.reduceLeDiff, Nat.reduceBNe, Int.reduceNeg, Int.reduceAdd, Int.reduceSub, Int.reduceMul, Int.reduceLT, Int.reduceLE, Int.reduceGT, Int.reduceGE, Int.reduceEq, Int.reduceNe, Int.reduceToNat, Int.reduceTMod, Int.reduceTDiv, f1, f3, boxF, k2, ha]
          rw [← k2, e]
      · by_cases hl : (0 : Int) < s.length
        · have e := one (by rw [hz, decide_eq_true hl]; simp [k2])
          simp (disch := omega) only [go_sem, reduceIte, reduceDIte, reduceCtorEq, Nat.reduceBEq, Nat.reduceEqDiff, Nat.reduceAdd, Nat.reduceSub, Nat.reduceMul, Nat.reduceLT, Nat.reduceLeDiff, Nat.reduceBNe, Int.reduceNeg, Int.reduceAdd, Int.reduceSub, Int.reduceMul, Int.reduceLT, Int.reduceLE, Int.reduceGT, Int.reduceGE, Int.reduceEq, Int.reduceNe, Int.reduceToNat, Int.reduceTMod, Int.reduceTDiv, f1, f3, boxF, k2, hl, setD, e]
        · rw [decide_eq_false hl] at hz
          by_cases k5 : k = 5
          · have e : z = false := by simp [hz, k5]
            simp (disch := omega) only [go_sem, reduceIte, reduceDIte, reduceCtorEq, Nat.reduceBEq, Nat.reduceEqDiff, Nat.reduceAdd, Nat.reduceSub, Nat.reduceMul, Nat.reduceLT, Nat.reduceLeDiff, Nat.reduceBNe, Int.reduceNeg, Int.reduceAdd, Int.reduceSub, Int.reduceMul, Int.reduceLT, Int.reduceLE, Int.reduceGT, Int.reduceGE, Int.reduceEq, Int.reduceNe, Int.reduceToNat, Int.reduceTMod, Int.reduceTDiv, f1, f3, boxF, k2, hl, setD, k5, e]
          · by_cases ha : a = 0
            · by_cases hb : b = 0
              · have e : z = false := by simp [hz, ha, hb]
                simp (disch := omega) only [go_sem, reduceIte, reduceDIte, reduceCtorEq, Nat.reduceBEq, Nat.reduceEqDiff, Nat.reduceAdd, Nat.reduceSub, Nat.reduceMul, Nat.reduceLT, Nat.reduceLeDiff, Nat.reduceBNe, Int.reduceNeg, Int.reduceAdd, Int.reduceSub, Int.reduceMul, Int.reduceLT, Int.reduceLE, Int.reduceGT, Int.reduceGE, Int.reduceEq, Int.reduceNe, Int.reduceToNat, Int.reduceTMod, Int.reduceTDiv, f1, f3, boxF, k2, hl, setD, k5, ha, hb, e]
              · have e := one (by simp [hz, k5, hb])
                simp (disch := omega) only [go_sem, reduceIte, reduceDIte, reduceCtorEq, Nat.reduceBEq, Nat.reduceEqDiff, Nat.reduceAdd, Nat.reduceSub, Nat.reduceMul, Nat.reduceLT, Nat.reduceLeDiff, Nat.reduceBNe, Int.reduceNeg, Int.reduceAdd, Int.reduceSub, Int.reduceMul, Int.reduceLT, Int.reduceLE, Int.reduceGT, Int.reduceGE, Int.reduceEq, Int.reduceNe, Int.reduceToNat, Int.reduceTMod, Int.reduceTDiv, f1, f3, boxF, k2, hl, setD, k5, ha, hb]
                rw [← ha, e]
            · have e := one (by simp [hz, k5, ha])
              simp (disch := omega) only [go_sem, reduceIte, reduceDIte, reduceCtorEq, Nat.reduceBEq, Nat.reduceEqDiff, Nat.reduceAdd, Nat.reduceSub, Nat.reduceMul, Nat.reduceLT, Nat.reduceLeDiff, Nat.reduceBNe, Int.reduceNeg, Int.reduceAdd, Int.reduceSub, Int.reduceMul, Int.reduceLT, Int.reduceLE, Int.reduceGT, Int.reduceGE, Int.reduceEq, Int.reduceNe, Int.reduceToNat, Int.reduceTMod, Int.reduceTDiv, f1, f3, boxF, k2, hl, setD, k5, ha, e]
    rintro fr σ ⟨f1, hbad, rfl⟩
    rw [hbad] at c0
    have c1 : chk (.mk k s sub a b) = chkL sub := c0
    have hnl : ∀ x, x ∈ sub → x.nodes ≤ 1000000 := fun x hx => by
      have h1 := nodes_mem sub x hx
      have h2 : (Tree.mk k s sub a b).nodes = 1 + Tree.nodesL sub := nodes_eq _
      omega
    simp (disch := omega) only [go_sem, reduceIte, reduceDIte, reduceCtorEq, Nat.reduceBEq, Nat.reduceEqDiff, Nat.reduceAdd, Nat.reduceSub, Nat.reduceMul, Nat.reduceLT, Nat.reduceLeDiff, Nat.reduceBNe, Int.reduceNeg, Int.reduceAdd, Int.reduceSub, Int.reduceMul, Int.reduceLT, Int.reduceLE, Int.reduceGT, Int.reduceGE, Int.reduceEq, Int.reduceNe, Int.reduceToNat, Int.reduceTMod, Int.reduceTDiv, f1, boxF]
    refine wL_ind (fun (j : Nat) fr σ => j ≤ sub.length ∧ fr 95 = .d (.list 5 (sub.map nodeD)) ∧ fr 96 = .d (.int .i64 sub.length) ∧ fr 97 = .d (.int .i64 j) ∧ chkL (sub.drop j) = chk (.mk k s sub a b)) (fun j => sub.length - j) ?_ 0 ?_
    · rintro j fr σ ⟨hj, f95, f96, f97, hc⟩ ih2
      by_cases hlt : j < sub.length
      · obtain ⟨x, hx⟩ : ∃ x, x = sub.getD j default := ⟨_, rfl⟩
        have hxm : x ∈ sub := by rw [hx]; exact getD_mem sub j hlt
        have hd : sub.drop j = x :: sub.drop (j + 1) := by rw [hx]; exact drop_getD sub j hlt
        rw [hd] at hc
        simp (disch := omega) only [go_sem, reduceIte, reduceDIte, reduceCtorEq, Nat.reduceBEq, Nat.reduceEqDiff, Nat.reduceAdd, Nat.reduceSub, Nat.reduceMul, Nat.reduceLT, Nat.reduceLeDiff, Nat.reduceBNe, Int.reduceNeg, Int.reduceAdd, Int.reduceSub, Int.reduceMul, Int.reduceLT, Int.reduceLE, Int.reduceGT, Int.reduceGE, Int.reduceEq, Int.reduceNe, Int.reduceToNat, Int.reduceTMod, Int.reduceTDiv, f95, f96, f97, hlt, nodeD_eq, nodeC, ← hx]
        refine (ih x hxm (hnl x hxm) (thinL_mem ht.2 hxm)).at ?_
        by_cases h0 : chk x = 0
        · have hc' : chkL (sub.drop (j + 1)) = chk (.mk k s sub a b) := by rw [← hc, chkL, if_pos h0]
          simp (disch := omega) only [go_sem, reduceIte, reduceDIte, reduceCtorEq, Nat.reduceBEq, Nat.reduceEqDiff, Nat.reduceAdd, Nat.reduceSub, Nat.reduceMul, Nat.reduceLT, Nat.reduceLeDiff, Nat.reduceBNe, Int.reduceNeg, Int.reduceAdd, Int.reduceSub, Int.reduceMul, Int.reduceLT, Int.reduceLE, Int.reduceGT, Int.reduceGE, Int.reduceEq, Int.reduceNe, Int.reduceToNat, Int.reduceTMod, Int.reduceTDiv, h0, f97]
          refine ih2 (j + 1) _ _ (by omega) ⟨by omega, ?_, ?_, ?_, hc'⟩
          · simp (disch := omega) only [go_sem, reduceIte, reduceDIte, reduceCtorEq, Nat.reduceBEq, Nat.reduceEqDiff, Nat.reduceAdd, Nat.reduceSub, Nat.reduceMul, Nat.reduceLT, Nat.reduceLeDiff, Nat.reduceBNe, Int.reduceNeg, Int.reduceAdd, Int.reduceSub, Int.reduceMul, Int.reduceLT, Int.reduceLE, Int.reduceGT, Int.reduceGE, Int.reduceEq, Int.reduceNe, Int.reduceToNat, Int.reduceTMod, Int.reduceTDiv, f95]
          · simp (disch := omega) only [go_sem, reduceIte, reduceDIte, reduceCtorEq, Nat.reduceBEq, Nat.reduceEqDiff, Nat.reduceAdd, Nat.reduceSub, Nat.reduceMul, Nat.reduceLT, Nat.reduceLeDiff, Nat.reduceBNe, Int.reduceNeg, Int.reduceAdd, Int.reduceSub, Int.reduceMul, Int.reduceLT, Int.reduceLE, Int.reduceGT, Int.reduceGE, Int.reduceEq, Int.reduceNe, Int.reduceToNat, Int.reduceTMod, Int.reduceTDiv, f96]
          · simp (disch := omega) only [go_sem, reduceIte, reduceDIte, reduceCtorEq, Nat.reduceBEq, Nat.reduceEqDiff, Nat.reduceAdd, Nat.reduceSub, Nat.reduceMul, Nat.reduceLT, Nat.reduceLeDiff, Nat.reduceBNe, Int.reduceNeg, Int.reduceAdd, Int.reduceSub, Int.reduceMul, Int.reduceLT, Int.reduceLE, Int.reduceGT, Int.reduceGE, Int.reduceEq, Int.reduceNe, Int.reduceToNat, Int.reduceTMod, Int.reduceTDiv]
        · have e : chk (.mk k s sub a b) = chk x := by rw [← hc, chkL, if_neg h0]
          simp (disch := omega) only [go_sem, reduceIte, reduceDIte, reduceCtorEq, Nat.reduceBEq, Nat.reduceEqDiff, Nat.reduceAdd, Nat.reduceSub, Nat.reduceMul, Nat.reduceLT, Nat.reduceLeDiff, Nat.reduceBNe, Int.reduceNeg, Int.reduceAdd, Int.reduceSub, Int.reduceMul, Int.reduceLT, Int.reduceLE, Int.reduceGT, Int.reduceGE, Int.reduceEq, Int.reduceNe, Int.reduceToNat, Int.reduceTMod, Int.reduceTDiv, h0, e]
      · rw [List.drop_of_length_le (by omega)] at hc
        simp (disch := omega) only [go_sem, reduceIte, reduceDIte, reduceCtorEq, Nat.reduceBEq, Nat.reduceEqDiff, Nat.reduceAdd, Nat.reduceSub, Nat.reduceMul, Nat.reduceLT, Nat.reduceLeDiff, Nat.reduceBNe, Int.reduceNeg, Int.reduceAdd, Int.reduceSub, Int.reduceMul, Int.reduceLT, Int.reduceLE, Int.reduceGT, Int.reduceGE, Int.reduceEq, Int.reduceNe, Int.reduceToNat, Int.reduceTMod, Int.reduceTDiv, f95, f96, f97, hlt]
        rw [← hc, chkL]
    · refine ⟨by omega, ?_, ?_, ?_, ?_⟩
      · simp (disch := omega) only [go_sem, reduceIte, reduceDIte, reduceCtorEq, Nat.reduceBEq, Nat.reduceEqDiff, Nat.reduceAdd, Nat.reduceSub, Nat.reduceMul, Nat.reduceLT, Nat.reduceLeDiff, Nat.reduceBNe, Int.reduceNeg, Int.reduceAdd, Int.reduceSub, Int.reduceMul, Int.reduceLT, Int.reduceLE, Int.reduceGT, Int.reduceGE, Int.reduceEq, Int.reduceNe, Int.reduceToNat, Int.reduceTMod, Int.reduceTDiv]
      · simp (disch := omega) only [go_sem, reduceIte, reduceDIte, reduceCtorEq, Nat.reduceBEq, Nat.reduceEqDiff, Nat.reduceAdd, Nat.reduceSub, Nat.reduceMul, Nat.reduceLT, Nat.reduceLeDiff, Nat.reduceBNe, Int.reduceNeg, Int.reduceAdd, Int.reduceSub, Int.reduceMul, Int.reduceLT, Int.reduceLE, Int.reduceGT, Int.reduceGE, Int.reduceEq, Int.reduceNe, Int.reduceToNat, Int.reduceTMod, Int.reduceTDiv]
      · simp (disch := omega) only [go_sem, reduceIte, reduceDIte, reduceCtorEq, Nat.reduceBEq, Nat.reduceEqDiff, Nat.reduceAdd, Nat.reduceSub, Nat.reduceMul, Nat.reduceLT, Nat.reduceLeDiff, Nat.reduceBNe, Int.reduceNeg, Int.reduceAdd, Int.reduceSub, Int.reduceMul, Int.reduceLT, Int.reduceLE, Int.reduceGT, Int.reduceGE, Int.reduceEq, Int.reduceNe, Int.reduceToNat, Int.reduceTMod, Int.reduceTDiv]
      · rw [c1]; rfl
end Go.Proofs.YtefpcfooahogkaaDoor
set_option linter.unusedVariables false
set_option linter.unusedSimpArgs false
set_option maxRecDepth 100000
namespace Go.Proofs.YtefpcfooahogkaaDoor
open Go Nv Pat

def chkE (n : Tree) : Int := if 120 < n.nodes then 5 else chk n
theorem check13 (n : Tree) (h : Thin n) : PCall Tryd.prog 25 [nodeA n] (.d (.int .i64 (chkE n))) := by
  refine fn25.pure noHint (Nat.le_refl _) (by simp only [go_sem, nodeA, nodeF, setD]) (by simp only [go_sem]) ?_
  simp (disch := omega) only [go_sem, reduceIte, reduceDIte, reduceCtorEq, Nat.reduceBEq, Nat.reduceEqDiff, Nat.reduceAdd, Nat.reduceSub, Nat.reduceMul, Nat.reduceLT, Nat.reduceLeDiff, Nat.reduceBNe, Int.reduceNeg, Int.reduceAdd, Int.reduceSub, Int.reduceMul, Int.reduceLT, Int.reduceLE, Int.reduceGT, Int.reduceGE, Int.reduceEq, Int.reduceNe, Int.reduceToNat, Int.reduceTMod, Int.reduceTDiv, nodeA, nodeF]
  refine (count25 n 120 (by omega)).at ?_
  by_cases h1 : 120 < n.nodes
  · have e : ((cnt n 120 : Nat) : Int) = 121 := by rw [cnt]; omega
    have e2 : chkE n = 5 := by rw [chkE, if_pos h1]
    simp (disch := omega) only [go_sem, reduceIte, reduceDIte, reduceCtorEq, Nat.reduceBEq, Nat.reduceEqDiff, Nat.reduceAdd, Nat.reduceSub, Nat.reduceMul, Nat.reduceLT, Nat.reduceLeDiff, Nat.reduceBNe, Int.reduceNeg, Int.reduceAdd, Int.reduceSub, Int.reduceMul, Int.reduceLT, Int.reduceLE, Int.reduceGT, Int.reduceGE, Int.reduceEq, Int.reduceNe, Int.reduceToNat, Int.reduceTMod, Int.reduceTDiv, e, e2]
  · have e : ¬ (120 : Int) < ((cnt n 120 : Nat) : Int) := by rw [cnt]; omega
    have e2 : chkE n = chk n := by rw [chkE, if_neg h1]
    simp (disch := omega) only [go_sem, reduceIte, reduceDIte, reduceCtorEq, Nat.reduceBEq, Nat.reduceEqDiff, Nat.reduceAdd, Nat.reduceSub, Nat.reduceMul, Nat.reduceLT, Nat.reduceLeDiff, Nat.reduceBNe, Int.reduceNeg, Int.reduceAdd, Int.reduceSub, Int.reduceMul, Int.reduceLT, Int.reduceLE, Int.reduceGT, Int.reduceGE, Int.reduceEq, Int.reduceNe, Int.reduceToNat, Int.reduceTMod, Int.reduceTDiv, e, e2, nodeF]
    refine (check26 n (by omega) h).at ?_
    simp (disch := omega) only [go_sem, reduceIte, reduceDIte, reduceCtorEq, Nat.reduceBEq, Nat.reduceEqDiff, Nat.reduceAdd, Nat.reduceSub, Nat.reduceMul, Nat.reduceLT, Nat.reduceLeDiff, Nat.reduceBNe, Int.reduceNeg, Int.reduceAdd, Int.reduceSub, Int.reduceMul, Int.reduceLT, Int.reduceLE, Int.reduceGT, Int.reduceGE, Int.reduceEq, Int.reduceNe, Int.reduceToNat, Int.reduceTMod, Int.reduceTDiv, e2]

theorem chkL_mem : ∀ {l : List Tree}, chkL l = 0 → ∀ x, x ∈ l → chk x = 0
  | y :: l, h, x, hx => by
    rw [chkL] at h
    split at h
    · rename_i h0
      rcases List.mem_cons.1 hx with e | hx
      · rw [e]; exact h0
      · exact chkL_mem h x hx
    · rename_i h0; exact absurd h h0
theorem chk_ok {k : Int} {s : List (Int × Int)} {l : List Tree} {a b : Int} (h : chk (.mk k s l a b) = 0) : kindB k = true ∧ badB k s l.length a b = false ∧ chkL l = 0 := by
  rw [chk] at h
  split at h
  · rename_i h1
    split at h
    · cases h
    · rename_i h2
      exact ⟨h1, by simpa using h2, h⟩
  · cases h

theorem take_all {α : Type} (l : List α) (n : Nat) (h : l.length = n) : l.take n = l := List.take_of_length_le (by omega)
theorem chkE_ok {n : Tree} (h : chkE n = 0) : n.nodes ≤ 120 ∧ chk n = 0 := by
  unfold chkE at h
  split at h
  · cases h
  · exact ⟨by omega, h⟩
theorem chkL_of {l : List Tree} (h : ∀ x, x ∈ l → chk x = 0) : chkL l = 0 := by
  induction l with
  | nil => rfl
  | cons x l ih => rw [chkL, if_pos (h x (by simp))]; exact ih fun y hy => h y (by simp [hy])
theorem thinL_all {l : List Tree} (h : ∀ x, x ∈ l → Thin x) : ThinL l := by
  induction l with
  | nil => trivial
  | cons x l ih => exact ⟨h x (by simp), ih fun y hy => h y (by simp [hy])⟩


def runesD (l : List Int) : List DV := l.map (DV.int .i32)
@[go_sem] theorem runesD_length (l : List Int) : (runesD l).length = l.length := nrfl (by simp [runesD])
theorem stGet_app (l m : Nv.ST) (k : Nat) : stGet (l ++ m) (List.length l + k) = stGet m k := by
  simp [stGet, List.getD_eq_getElem?_getD, List.getElem?_append_right]
theorem stGet_app0 (l m : Nv.ST) : stGet (l ++ m) (List.length l) = stGet m 0 := stGet_app l m 0
theorem stSet_app (l m : Nv.ST) (k : Nat) (x : Blk) : stSet (l ++ m) (List.length l + k) x = l ++ stSet m k x := by
  simp [stSet, List.set_append_right]
theorem stSet_app0 (l m : Nv.ST) (x : Blk) : stSet (l ++ m) (List.length l) x = l ++ stSet m 0 x := by
  simp [stSet, List.set_append_right]
theorem stGet_one (a b : Blk) (l : Nv.ST) : stGet (a :: b :: l) 1 = b := rfl
theorem stSet_one (a b x : Blk) (l : Nv.ST) : stSet (a :: b :: l) 1 x = a :: x :: l := rfl

def bt (b : UInt8) : Int := (b.toNat : Int)
end Go.Proofs.YtefpcfooahogkaaDoor
/- Patterns as texts of characters: how they are read, and how they are written. Plain: no program. -/

set_option linter.unusedVariables false
set_option linter.unusedSimpArgs false
namespace Pat

def allS : List (Int × Int) := [(0, 55295), (57344, 1114111)]
def isCh (r : Int) : Bool := (decide (0 ≤ r) && decide (r ≤ 55295)) || (decide (57344 ≤ r) && decide (r ≤ 1114111))
def clip1 (a b : Int) (q : Int × Int) : List (Int × Int) := if max a q.1 ≤ min b q.2 then [(max a q.1, min b q.2)] else []
def clipS (a b : Int) : List (Int × Int) := clip1 a b (0, 55295) ++ clip1 a b (57344, 1114111)
/-- One range more, at the end. -/
def joinR (out : List (Int × Int)) (r : Int × Int) : List (Int × Int) :=
  if 0 < out.length ∧ r.1 ≤ (out.getD (out.length - 1) default).2 + 1 then out.set (out.length - 1) ((out.getD (out.length - 1) default).1, max (out.getD (out.length - 1) default).2 r.2)
  else out ++ [r]
def compL : Int → List (Int × Int) → List (Int × Int)
  | low, [] => clipS low 1114111
  | low, r :: l => clipS low (r.1 - 1) ++ compL (r.2 + 1) l
def compS (l : List (Int × Int)) : List (Int × Int) := compL 0 l

/-- The characters that stand behind a backslash: outside of classes, and in them. -/
def spec : List Int := [92, 40, 41, 91, 93, 123, 125, 124, 42, 43, 63, 46]
def insd : List Int := [92, 93, 94, 45]

def digit (c : Int) : Bool := decide (48 ≤ c) && decide (c ≤ 57)
def numL : List Int → Int → Int × List Int
  | [], n => (n, [])
  | c :: t, n => if digit c then numL t (min (10 * n + (c - 48)) 1000) else (n, c :: t)
def numP (l : List Int) : Option (Int × List Int) :=
  if (numL l 0).2.length = l.length ∨ (l.headD 0 = 48 ∧ (numL l 0).2.length + 1 < l.length) ∨ 20 < (numL l 0).1 then none else some (numL l 0)
def oneP : List Int → Option (Int × List Int)
  | [] => none
  | c :: t => some (c, t)
def letP : List Int → Option (Int × List Int)
  | [] => none
  | c :: t => if c = 92 then oneP t else if c = 93 ∨ c = 94 ∨ c = 45 then none else some (c, t)
/-- A letter, or two with a sign between them. -/
def itemP (l : List Int) : Option ((Int × Int) × List Int) :=
  match letP l with
  | none => none
  | some x => if x.2.headD (-1) = 45 then (letP x.2.tail).map fun y => ((x.1, y.1), y.2) else some ((x.1, x.1), x.2)
def clsP : Nat → List (Int × Int) → List Int → Option (List (Int × Int) × List Int)
  | 0, _, _ => none
  | f + 1, acc, l =>
    if acc ≠ [] ∧ l.headD (-1) = 93 then some (acc, l.tail)
    else match itemP l with
      | none => none
      | some (q, r) => if q.2 < q.1 then none else clsP f (acc ++ clipS q.1 q.2) r

section
variable (sort : List (Int × Int) → List (Int × Int))
def normS (l : List (Int × Int)) : List (Int × Int) := (sort l).foldl joinR []
def classP (l : List Int) : Option (List (Int × Int) × List Int) :=
  if l.headD (-1) = 94 then (clsP (l.length + 1) [] l.tail).map fun x => (compS (normS sort x.1), x.2)
  else (clsP (l.length + 1) [] l).map fun x => (normS sort x.1, x.2)

def setT (s : List (Int × Int)) : Tree := .mk 2 s [] 0 0
def rep5 (x : Tree) (a b : Int) : Tree := .mk 5 [] [x] a b
def mkJoin : List Tree → Tree
  | [] => .mk 1 [] [] 0 0
  | [x] => x
  | l => .mk 3 [] l 0 0
def mkChoice : List Tree → Tree
  | [x] => x
  | l => .mk 4 [] l 0 0

variable (ch : List Int → Option (Tree × List Int))
def atomP : List Int → Option (Tree × List Int)
  | [] => none
  | c :: t =>
    if c = 40 then (match ch t with
      | none => none
      | some (n, r) => if r.headD (-1) = 41 then some (n, r.tail) else none)
    else if c = 46 then some (setT allS, t)
    else if c = 91 then (classP sort t).map fun x => (setT x.1, x.2)
    else if c = 92 then (match t with | [] => none | d :: t => some (setT [(d, d)], t))
    else if c ∈ spec then none
    else some (setT [(c, c)], t)
/-- What stands between the braces of a repetition. -/
def bndP (l : List Int) : Option ((Int × Int) × List Int) :=
  match numP l with
  | none => none
  | some (a, r) =>
    match (if r.headD (-1) = 44 then (if r.tail.headD (-1) = 125 then some (-1, r.tail) else numP r.tail) else some (a, r)) with
    | none => none
    | some (b, r) => if r.headD (-1) = 125 ∧ ¬ (0 ≤ b ∧ b < a) then some ((a, b), r.tail) else none
def repP (l : List Int) : Option (Tree × List Int) :=
  match atomP sort ch l with
  | none => none
  | some (x, r) =>
    if r.headD (-1) = 42 then some (rep5 x 0 (-1), r.tail)
    else if r.headD (-1) = 43 then some (rep5 x 1 (-1), r.tail)
    else if r.headD (-1) = 63 then some (rep5 x 0 1, r.tail)
    else if r.headD (-1) = 123 then (bndP r.tail).map fun y => (rep5 x y.1.1 y.1.2, y.2)
    else some (x, r)
def joinL : Nat → List Int → Option (List Tree × List Int)
  | 0, _ => none
  | f + 1, l =>
    if l.headD (-1) < 0 ∨ l.headD (-1) = 124 ∨ l.headD (-1) = 41 then some ([], l)
    else match repP sort ch l with
      | none => none
      | some (x, r) => (joinL f r).map fun y => (x :: y.1, y.2)
def joinP (l : List Int) : Option (Tree × List Int) := (joinL sort ch (l.length + 1) l).map fun y => (mkJoin y.1, y.2)
def choiceL : Nat → List Int → Option (List Tree × List Int)
  | 0, _ => none
  | f + 1, l =>
    match joinP sort ch l with
    | none => none
    | some (x, r) => if r.headD (-1) = 124 then (choiceL f r.tail).map fun y => (x :: y.1, y.2) else some ([x], r)
def choiceP (l : List Int) : Option (Tree × List Int) := (choiceL sort ch (l.length + 1) l).map fun y => (mkChoice y.1, y.2)
end
def chP (sort : List (Int × Int) → List (Int × Int)) : Nat → List Int → Option (Tree × List Int)
  | 0 => fun _ => none
  | f + 1 => choiceP sort (chP sort f)
/-- The tree of a pattern, if it is one. -/
def parseC (sort : List (Int × Int) → List (Int × Int)) (l : List Int) : Option Tree :=
  match chP sort (l.length + 1) l with
  | some (n, []) => some n
  | _ => none

/- writing -/
def escC (c : Int) (sp : List Int) : List Int := if c ∈ sp then [92, c] else [c]
def itemC (r : Int × Int) : List Int := escC r.1 insd ++ if r.1 < r.2 then 45 :: escC r.2 insd else []
def itemsC (l : List (Int × Int)) : List Int := l.flatMap itemC
def setC (s : List (Int × Int)) : List Int :=
  if s = allS then [46] else if s = [] then [91, 94] ++ itemsC allS ++ [93]
  else if s.length = 1 ∧ (s.headD default).1 = (s.headD default).2 then escC (s.headD default).1 spec
  else 91 :: itemsC s ++ [93]
def numC (n : Int) : List Int := if n < 10 then [48 + n] else [48 + n / 10, 48 + n % 10]
def sufC (a b : Int) : List Int :=
  if a = 0 ∧ b = -1 then [42] else if a = 1 ∧ b = -1 then [43] else if a = 0 ∧ b = 1 then [63]
  else if a = b then 123 :: numC a ++ [125] else if b = -1 then 123 :: numC a ++ [44, 125] else 123 :: numC a ++ 44 :: numC b ++ [125]
def encl (k e : Int) : Bool :=
  if k = 3 then decide (e = 3) || decide (e = 4) || decide (e = 1) else if k = 4 then decide (e = 4) else !decide (e = 2)
def paren (b : Bool) (l : List Int) : List Int := if b then 40 :: l ++ [41] else l
def sepC : List (List Int) → List Int
  | [] => []
  | [x] => x
  | x :: l => x ++ 124 :: sepC l
mutual
def fmtC : Tree → List Int
  | .mk k s l a b => if k = 2 then setC s else if k = 4 then sepC (fmtL k l) else if k = 5 then (fmtL k l).headD [] ++ sufC a b else (fmtL k l).flatten
def fmtL : Int → List Tree → List (List Int)
  | _, [] => []
  | k, x :: l => paren (encl k x.kind) (fmtC x) :: fmtL k l
end
end Pat
