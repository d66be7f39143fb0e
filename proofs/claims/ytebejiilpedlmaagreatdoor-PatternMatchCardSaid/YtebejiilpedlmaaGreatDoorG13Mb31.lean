/- Part of a proof about the functions of this seat. -/
import Derived.Test.YtebejiilpedlmaaGreatDoorG11G031
import Derived.Test.YtebejiilpedlmaaGreatDoorG12Mj31
set_option linter.unusedVariables false
set_option linter.unusedSimpArgs false
set_option maxRecDepth 100000
namespace Go.Proofs.YtebejiilpedlmaaGreatDoor
open Go Nv Pat

/- The reference: whether a tree is proper. -/
theorem char79 (r : Int) : PCall Tryz.prog 79 [.d (.int .i32 r)] (.d (.bool (charB r))) := by
  refine fn79.pure noHint (Nat.le_refl _) (by simp only [go_sem]) (by simp only [go_sem]) ?_
  by_cases h1 : 0 ≤ r
  · by_cases h2 : r ≤ 1114111
    · by_cases h3 : r < 55296
      · have e : charB r = true := by rw [charB_iff]; omega
        simp (disch := omega) only [go_sem, reduceIte, reduceCtorEq, Nat.reduceBEq, Nat.reduceEqDiff, Nat.reduceAdd, Nat.reduceLT, Nat.reduceLeDiff, Int.reduceNeg, Int.reduceAdd, Int.reduceLT, Int.reduceLE, Int.reduceEq, Int.reduceNe, h1, h2, h3, e]
      · by_cases h4 : 57343 < r
        · have e : charB r = true := by rw [charB_iff]; omega
          simp (disch := omega) only [go_sem, reduceIte, reduceCtorEq, Nat.reduceBEq, Nat.reduceEqDiff, Nat.reduceAdd, Nat.reduceLT, Nat.reduceLeDiff, Int.reduceNeg, Int.reduceAdd, Int.reduceLT, Int.reduceLE, Int.reduceEq, Int.reduceNe, h1, h2, h3, h4, e]
        · have e : charB r = false := by rw [← Bool.not_eq_true, charB_iff]; omega
          simp (disch := omega) only [go_sem, reduceIte, reduceCtorEq, Nat.reduceBEq, Nat.reduceEqDiff, Nat.reduceAdd, Nat.reduceLT, Nat.reduceLeDiff, Int.reduceNeg, Int.reduceAdd, Int.reduceLT, Int.reduceLE, Int.reduceEq, Int.reduceNe, h1, h2, h3, h4, e]
    · have e : charB r = false := by rw [← Bool.not_eq_true, charB_iff]; omega
      simp (disch := omega) only [go_sem, reduceIte, reduceCtorEq, Nat.reduceBEq, Nat.reduceEqDiff, Nat.reduceAdd, Nat.reduceLT, Nat.reduceLeDiff, Int.reduceNeg, Int.reduceAdd, Int.reduceLT, Int.reduceLE, Int.reduceEq, Int.reduceNe, h1, h2, e]
  · have e : charB r = false := by rw [← Bool.not_eq_true, charB_iff]; omega
    simp (disch := omega) only [go_sem, reduceIte, reduceCtorEq, Nat.reduceBEq, Nat.reduceEqDiff, Nat.reduceAdd, Nat.reduceLT, Nat.reduceLeDiff, Int.reduceNeg, Int.reduceAdd, Int.reduceLT, Int.reduceLE, Int.reduceEq, Int.reduceNe, h1, e]

theorem ranges69 (s : List (Int × Int)) (hs : s.length ≤ 1000000) : PCall Tryz.prog 69 [.d (setD s)] (.d (.bool (properB s))) := by
  refine fn69.pure noHint (Nat.le_refl _) (by simp only [go_sem, setD]) (by simp only [go_sem]) ?_
  simp (disch := omega) only [go_sem, reduceIte, reduceCtorEq, Nat.reduceBEq, Nat.reduceEqDiff, Nat.reduceAdd, Nat.reduceLT, Nat.reduceLeDiff, Int.reduceNeg, Int.reduceAdd, Int.reduceLT, Int.reduceLE, Int.reduceEq, Int.reduceNe, setD]
  refine wL_ind (fun (k : Nat) fr σ => k ≤ s.length ∧ fr 0 = .d (.list 2 (s.map rgD)) ∧ fr 3 = .d (.int .i64 k) ∧
    properFrom (prevOf s k) (s.drop k) = properB s ∧ (0 < k → 0 ≤ (s.getD (k - 1) default).2 ∧ (s.getD (k - 1) default).2 ≤ 1114111)) (fun k => s.length - k) ?_ 0 ?_
  · rintro k fr σ ⟨hk, f0, f3, hp, hq⟩ ih
    by_cases hlt : k < s.length
    · obtain ⟨r, hr⟩ : ∃ r, r = s.getD k default := ⟨_, rfl⟩
      have gd : (s.map rgD).getD k default = rgD r := by rw [hr]; simp [List.getD_eq_getElem?_getD, hlt]
      have hd : s.drop k = r :: s.drop (k + 1) := by rw [hr]; exact drop_getD s k hlt
      rw [hd] at hp
      have bad : rgB r = false → properB s = false := fun h => by
        rw [← hp]; cases prevOf s k <;> simp only [properFrom, h, Bool.false_and]
      simp (disch := omega) only [go_sem, reduceIte, reduceCtorEq, Nat.reduceBEq, Nat.reduceEqDiff, Nat.reduceAdd, Nat.reduceLT, Nat.reduceLeDiff, Int.reduceNeg, Int.reduceAdd, Int.reduceLT, Int.reduceLE, Int.reduceEq, Int.reduceNe, f0, f3, List.length_map, hlt, gd, rgD, List.append_assoc, List.cons_append, List.nil_append, List.length_append, stGet_app, stGet_app0, stSet_app, stSet_app0]
      refine (char79 r.1).dat ?_
      by_cases c1 : charB r.1 = true
      · simp (disch := omega) only [go_sem, reduceIte, reduceCtorEq, Nat.reduceBEq, Nat.reduceEqDiff, Nat.reduceAdd, Nat.reduceLT, Nat.reduceLeDiff, Int.reduceNeg, Int.reduceAdd, Int.reduceLT, Int.reduceLE, Int.reduceEq, Int.reduceNe, c1, List.append_assoc, List.cons_append, List.nil_append, List.length_append, stGet_app, stGet_app0, stSet_app, stSet_app0]
        refine (char79 r.2).dat ?_
        by_cases c2 : charB r.2 = true
        · have hr1 := (charB_iff r.1).1 c1
          have hr2 := (charB_iff r.2).1 c2
          by_cases c3 : r.2 < r.1
          · have e := bad (by simp only [rgB, Bool.and_eq_false_iff, decide_eq_false_iff_not]; exact .inl (.inr (by omega)))
            simp (disch := omega) only [go_sem, reduceIte, reduceCtorEq, Nat.reduceBEq, Nat.reduceEqDiff, Nat.reduceAdd, Nat.reduceLT, Nat.reduceLeDiff, Int.reduceNeg, Int.reduceAdd, Int.reduceLT, Int.reduceLE, Int.reduceEq, Int.reduceNe, c1, c2, c3, e, List.append_assoc, List.cons_append, List.nil_append, List.length_append, stGet_app, stGet_app0, stSet_app, stSet_app0]
          · by_cases c4 : r.1 < 55296
            · by_cases c5 : 57343 < r.2
              · have e := bad (by simp only [rgB, c1, c2, Bool.true_and, Bool.and_eq_false_iff]; refine .inr ?_; rw [decide_eq_true c4, decide_eq_false (by omega)]; rfl)
                simp (disch := omega) only [go_sem, reduceIte, reduceCtorEq, Nat.reduceBEq, Nat.reduceEqDiff, Nat.reduceAdd, Nat.reduceLT, Nat.reduceLeDiff, Int.reduceNeg, Int.reduceAdd, Int.reduceLT, Int.reduceLE, Int.reduceEq, Int.reduceNe, c1, c2, c3, c4, c5, e, List.append_assoc, List.cons_append, List.nil_append, List.length_append, stGet_app, stGet_app0, stSet_app, stSet_app0]
              · have hg : rgB r = true := by simp only [rgB, c1, c2, Bool.true_and, Bool.and_eq_true, decide_eq_true_eq, beq_iff_eq, decide_eq_decide]; omega
                have prev : prevOf s (k + 1) = some r.2 := by simp [prevOf, hr]
                have prev' : (s.getD (k + 1 - 1) default).2 = r.2 := by rw [hr]; rfl
                by_cases hk0 : k = 0
                · subst hk0
                  have hp' : properFrom (some r.2) (s.drop (0 + 1)) = properB s := by rw [← hp]; simp [prevOf, properFrom, hg]
                  simp (disch := omega) only [go_sem, reduceIte, reduceCtorEq, Nat.reduceBEq, Nat.reduceEqDiff, Nat.reduceAdd, Nat.reduceLT, Nat.reduceLeDiff, Int.reduceNeg, Int.reduceAdd, Int.reduceLT, Int.reduceLE, Int.reduceEq, Int.reduceNe, c1, c2, c3, c4, c5, f0, f3, List.append_assoc, List.cons_append, List.nil_append, List.length_append, stGet_app, stGet_app0, stSet_app, stSet_app0]
                  refine ih (0 + 1) _ _ (by omega) ⟨by omega, ?_, ?_, ?_, fun _ => ?_⟩
                  · simp (disch := omega) only [go_sem, reduceIte, reduceCtorEq, Nat.reduceBEq, Nat.reduceEqDiff, Nat.reduceAdd, Nat.reduceLT, Nat.reduceLeDiff, Int.reduceNeg, Int.reduceAdd, Int.reduceLT, Int.reduceLE, Int.reduceEq, Int.reduceNe, f0]
                  · simp (disch := omega) only [go_sem, reduceIte, reduceCtorEq, Nat.reduceBEq, Nat.reduceEqDiff, Nat.reduceAdd, Nat.reduceLT, Nat.reduceLeDiff, Int.reduceNeg, Int.reduceAdd, Int.reduceLT, Int.reduceLE, Int.reduceEq, Int.reduceNe, f3]; try rfl
                  · rw [prev]; exact hp'
                  · rw [prev']; omega
                · have hk1 : (0 : Int) < k := by omega
                  have hq' := hq (by omega)
                  obtain ⟨q, hqe⟩ : ∃ q, q = (s.getD (k - 1) default).2 := ⟨_, rfl⟩
                  rw [← hqe] at hq'
                  have ek : (k : Int) - 1 = ((k - 1 : Nat) : Int) := by omega
                  have hk2 : k - 1 < s.length := by omega
                  have hpq : prevOf s k = some q := by simp [prevOf, hk0, hqe]
                  rw [hpq] at hp
                  by_cases c6 : r.1 < q + 2
                  · have e : properB s = false := by rw [← hp]; simp [properFrom, hg]; omega
                    simp (disch := omega) only [go_sem, reduceIte, reduceCtorEq, Nat.reduceBEq, Nat.reduceEqDiff, Nat.reduceAdd, Nat.reduceLT, Nat.reduceLeDiff, Int.reduceNeg, Int.reduceAdd, Int.reduceLT, Int.reduceLE, Int.reduceEq, Int.reduceNe, c1, c2, c3, c4, c5, hk1, f0, f3, ek, hk2, rgD, ← hqe, c6, e, List.length_map, List.append_assoc, List.cons_append, List.nil_append, List.length_append, stGet_app, stGet_app0, stSet_app, stSet_app0]
                  · have hp' : properFrom (some r.2) (s.drop (k + 1)) = properB s := by rw [← hp]; simp [properFrom, hg]; omega
                    simp (disch := omega) only [go_sem, reduceIte, reduceCtorEq, Nat.reduceBEq, Nat.reduceEqDiff, Nat.reduceAdd, Nat.reduceLT, Nat.reduceLeDiff, Int.reduceNeg, Int.reduceAdd, Int.reduceLT, Int.reduceLE, Int.reduceEq, Int.reduceNe, c1, c2, c3, c4, c5, hk1, f0, f3, ek, hk2, rgD, ← hqe, c6, List.length_map, List.append_assoc, List.cons_append, List.nil_append, List.length_append, stGet_app, stGet_app0, stSet_app, stSet_app0]
                    refine ih (k + 1) _ _ (by omega) ⟨by omega, ?_, ?_, ?_, fun _ => ?_⟩
                    · simp (disch := omega) only [go_sem, reduceIte, reduceCtorEq, Nat.reduceBEq, Nat.reduceEqDiff, Nat.reduceAdd, Nat.reduceLT, Nat.reduceLeDiff, Int.reduceNeg, Int.reduceAdd, Int.reduceLT, Int.reduceLE, Int.reduceEq, Int.reduceNe, f0]
                    · simp (disch := omega) only [go_sem, reduceIte, reduceCtorEq, Nat.reduceBEq, Nat.reduceEqDiff, Nat.reduceAdd, Nat.reduceLT, Nat.reduceLeDiff, Int.reduceNeg, Int.reduceAdd, Int.reduceLT, Int.reduceLE, Int.reduceEq, Int.reduceNe, f3]
                    · rw [prev]; exact hp'
                    · rw [prev']; omega
            · have hg : rgB r = true := by simp only [rgB, c1, c2, Bool.true_and, Bool.and_eq_true, decide_eq_true_eq, beq_iff_eq, decide_eq_decide]; omega
              have prev : prevOf s (k + 1) = some r.2 := by simp [prevOf, hr]
              have prev' : (s.getD (k + 1 - 1) default).2 = r.2 := by rw [hr]; rfl
              by_cases hk0 : k = 0
              · subst hk0
                have hp' : properFrom (some r.2) (s.drop (0 + 1)) = properB s := by rw [← hp]; simp [prevOf, properFrom, hg]
                simp (disch := omega) only [go_sem, reduceIte, reduceCtorEq, Nat.reduceBEq, Nat.reduceEqDiff, Nat.reduceAdd, Nat.reduceLT, Nat.reduceLeDiff, Int.reduceNeg, Int.reduceAdd, Int.reduceLT, Int.reduceLE, Int.reduceEq, Int.reduceNe, c1, c2, c3, c4, f0, f3, List.append_assoc, List.cons_append, List.nil_append, List.length_append, stGet_app, stGet_app0, stSet_app, stSet_app0]
                refine ih (0 + 1) _ _ (by omega) ⟨by omega, ?_, ?_, ?_, fun _ => ?_⟩
                · simp (disch := omega) only [go_sem, reduceIte, reduceCtorEq, Nat.reduceBEq, Nat.reduceEqDiff, Nat.reduceAdd, Nat.reduceLT, Nat.reduceLeDiff, Int.reduceNeg, Int.reduceAdd, Int.reduceLT, Int.reduceLE, Int.reduceEq, Int.reduceNe, f0]
                · simp (disch := omega) only [go_sem, reduceIte, reduceCtorEq, Nat.reduceBEq, Nat.reduceEqDiff, Nat.reduceAdd, Nat.reduceLT, Nat.reduceLeDiff, Int.reduceNeg, Int.reduceAdd, Int.reduceLT, Int.reduceLE, Int.reduceEq, Int.reduceNe, f3]; try rfl
                · rw [prev]; exact hp'
                · rw [prev']; omega
              · have hk1 : (0 : Int) < k := by omega
                have hq' := hq (by omega)
                obtain ⟨q, hqe⟩ : ∃ q, q = (s.getD (k - 1) default).2 := ⟨_, rfl⟩
                rw [← hqe] at hq'
                have ek : (k : Int) - 1 = ((k - 1 : Nat) : Int) := by omega
                have hk2 : k - 1 < s.length := by omega
                have hpq : prevOf s k = some q := by simp [prevOf, hk0, hqe]
                rw [hpq] at hp
                by_cases c6 : r.1 < q + 2
                · have e : properB s = false := by rw [← hp]; simp [properFrom, hg]; omega
                  simp (disch := omega) only [go_sem, reduceIte, reduceCtorEq, Nat.reduceBEq, Nat.reduceEqDiff, Nat.reduceAdd, Nat.reduceLT, Nat.reduceLeDiff, Int.reduceNeg, Int.reduceAdd, Int.reduceLT, Int.reduceLE, Int.reduceEq, Int.reduceNe, c1, c2, c3, c4, hk1, f0, f3, ek, hk2, rgD, ← hqe, c6, e, List.length_map, List.append_assoc, List.cons_append, List.nil_append, List.length_append, stGet_app, stGet_app0, stSet_app, stSet_app0]
                · have hp' : properFrom (some r.2) (s.drop (k + 1)) = properB s := by rw [← hp]; simp [properFrom, hg]; omega
                  simp (disch := omega) only [go_sem, reduceIte, reduceCtorEq, Nat.reduceBEq, Nat.reduceEqDiff, Nat.reduceAdd, Nat.reduceLT, Nat.reduceLeDiff, Int.reduceNeg, Int.reduceAdd, Int.reduceLT, Int.reduceLE, Int.reduceEq, Int.reduceNe, c1, c2, c3, c4, hk1, f0, f3, ek, hk2, rgD, ← hqe, c6, List.length_map, List.append_assoc, List.cons_append, List.nil_append, List.length_append, stGet_app, stGet_app0, stSet_app, stSet_app0]
                  refine ih (k + 1) _ _ (by omega) ⟨by omega, ?_, ?_, ?_, fun _ => ?_⟩
                  · simp (disch := omega) only [go_sem, reduceIte, reduceCtorEq, Nat.reduceBEq, Nat.reduceEqDiff, Nat.reduceAdd, Nat.reduceLT, Nat.reduceLeDiff, Int.reduceNeg, Int.reduceAdd, Int.reduceLT, Int.reduceLE, Int.reduceEq, Int.reduceNe, f0]
                  · simp (disch := omega) only [go_sem, reduceIte, reduceCtorEq, Nat.reduceBEq, Nat.reduceEqDiff, Nat.reduceAdd, Nat.reduceLT, Nat.reduceLeDiff, Int.reduceNeg, Int.reduceAdd, Int.reduceLT, Int.reduceLE, Int.reduceEq, Int.reduceNe, f3]
                  · rw [prev]; exact hp'
                  · rw [prev']; omega
        · have e := bad (by simp only [rgB, c1, c2, Bool.true_and, Bool.false_and])
          simp (disch := omega) only [go_sem, reduceIte, reduceCtorEq, Nat.reduceBEq, Nat.reduceEqDiff, Nat.reduceAdd, Nat.reduceLT, Nat.reduceLeDiff, Int.reduceNeg, Int.reduceAdd, Int.reduceLT, Int.reduceLE, Int.reduceEq, Int.reduceNe, c1, c2, e, List.append_assoc, List.cons_append, List.nil_append, List.length_append, stGet_app, stGet_app0, stSet_app, stSet_app0]
      · have e := bad (by simp only [rgB, c1, Bool.false_and])
        simp (disch := omega) only [go_sem, reduceIte, reduceCtorEq, Nat.reduceBEq, Nat.reduceEqDiff, Nat.reduceAdd, Nat.reduceLT, Nat.reduceLeDiff, Int.reduceNeg, Int.reduceAdd, Int.reduceLT, Int.reduceLE, Int.reduceEq, Int.reduceNe, c1, e, List.append_assoc, List.cons_append, List.nil_append, List.length_append, stGet_app, stGet_app0, stSet_app, stSet_app0]
    · have e : properB s = true := by rw [← hp, List.drop_of_length_le (by omega)]; cases prevOf s k <;> rfl
      simp (disch := omega) only [go_sem, reduceIte, reduceCtorEq, Nat.reduceBEq, Nat.reduceEqDiff, Nat.reduceAdd, Nat.reduceLT, Nat.reduceLeDiff, Int.reduceNeg, Int.reduceAdd, Int.reduceLT, Int.reduceLE, Int.reduceEq, Int.reduceNe, f0, f3, List.length_map, hlt, e]
  · refine ⟨by omega, ?_, ?_, rfl, fun h => absurd h (by omega)⟩
    · simp (disch := omega) only [go_sem, reduceIte, reduceCtorEq, Nat.reduceBEq, Nat.reduceEqDiff, Nat.reduceAdd, Nat.reduceLT, Nat.reduceLeDiff, Int.reduceNeg, Int.reduceAdd, Int.reduceLT, Int.reduceLE, Int.reduceEq, Int.reduceNe]
    · simp (disch := omega) only [go_sem, reduceIte, reduceCtorEq, Nat.reduceBEq, Nat.reduceEqDiff, Nat.reduceAdd, Nat.reduceLT, Nat.reduceLeDiff, Int.reduceNeg, Int.reduceAdd, Int.reduceLT, Int.reduceLE, Int.reduceEq, Int.reduceNe]
end Go.Proofs.YtebejiilpedlmaaGreatDoor
set_option linter.unusedVariables false
set_option linter.unusedSimpArgs false
set_option maxRecDepth 100000
namespace Go.Proofs.YtebejiilpedlmaaGreatDoor
open Go Nv Pat

def refP (k : Int) (s : List (Int × Int)) : Bool := decide (k = 2) || decide ((s.length : Int) = 0)
def refQ (k a b : Int) : Bool := decide (k = 5) || (decide (a = 0) && decide (b = 0))
def refR (k : Int) (s : List (Int × Int)) (n a b : Int) : Bool :=
  if k = 1 ∨ k = 2 then decide (n = 0) && properB s
  else if k = 3 ∨ k = 4 then decide (1 < n)
  else decide (n = 1) && decide (0 ≤ a) && decide (a ≤ 20) && (decide (b = -1) || (decide (a ≤ b) && decide (b ≤ 20)))
theorem refBad {k : Int} (s : List (Int × Int)) (n a b : Int) (hk : kindB k = true) : (refP k s && refQ k a b && refR k s n a b) = !badB k s n a b := by
  simp only [kindB, Bool.or_eq_true, decide_eq_true_eq] at hk
  have h2 : decide (2 ≤ n) = decide (1 < n) := by rw [decide_eq_decide]; omega
  have p0 : properB [] = true := rfl
  rcases hk with (((hk | hk) | hk) | hk) | hk <;> subst hk
  · by_cases hs : s = []
    · subst hs; by_cases ha : a = 0 <;> by_cases hb : b = 0 <;> simp [refP, refQ, refR, badB, partsB, ha, hb, p0]
    · have hl : 0 < s.length := List.length_pos_iff.2 hs
      simp [refP, badB, hs, hl]
  · by_cases ha : a = 0 <;> by_cases hb : b = 0 <;> simp [refP, refQ, refR, badB, partsB, ha, hb]
  · by_cases hs : s = []
    · subst hs; by_cases ha : a = 0 <;> by_cases hb : b = 0 <;> simp [refP, refQ, refR, badB, partsB, ha, hb, h2]
    · have hl : 0 < s.length := List.length_pos_iff.2 hs
      simp [refP, badB, hs, hl]
  · by_cases hs : s = []
    · subst hs; by_cases ha : a = 0 <;> by_cases hb : b = 0 <;> simp [refP, refQ, refR, badB, partsB, ha, hb, h2]
    · have hl : 0 < s.length := List.length_pos_iff.2 hs
      simp [refP, badB, hs, hl]
  · by_cases hs : s = []
    · subst hs; simp [refP, refQ, refR, badB, partsB]
    · have hl : 0 < s.length := List.length_pos_iff.2 hs
      simp [refP, badB, hs, hl]

theorem node52 : ∀ n : Tree, n.nodes ≤ 1000000 → Thin n → PCall Tryz.prog 52 [nodeA n] (.d (.int .i64 (chk n))) := by
  intro n
  induction n using Tree.ind with
  | h k s sub a b ih =>
    intro hn ht
    have hsub : sub.length ≤ 1000000 := by
      have h1 := length_nodesL sub
      have h2 : (Tree.mk k s sub a b).nodes = 1 + Tree.nodesL sub := nodes_eq _
      omega
    have hs : s.length ≤ 1000000 := ht.1
    refine fn52.pure noHint (Nat.le_refl _) (by simp only [go_sem, nodeA, nodeF, setD]) (by simp only [go_sem]) ?_
    have c0 : chk (.mk k s sub a b) = if kindB k then (if badB k s sub.length a b then 1 else chkL sub) else 9 := by rw [chk]
    obtain ⟨σ0, hσ⟩ : ∃ σ0 : Nv.ST, σ0 = [.box 25 (boxF k s sub a b)] := ⟨_, rfl⟩
    refine wW_cut (fun fr σ => fr 1 = .ptr 0 0 ∧ σ = [.box 25 (boxF k s sub a b)]) ?_ ?_
    · simp (disch := omega) only [go_sem, reduceIte, reduceCtorEq, Nat.reduceBEq, Nat.reduceEqDiff, Nat.reduceAdd, Nat.reduceLT, Nat.reduceLeDiff, Int.reduceNeg, Int.reduceAdd, Int.reduceLT, Int.reduceLE, Int.reduceEq, Int.reduceNe, nodeA, nodeF, Tree.kind, Tree.set, Tree.sub, Tree.min, Tree.max, boxF]
    rintro fr σ ⟨f1, rfl⟩
    refine wW_cut (fun fr σ => fr 1 = .ptr 0 0 ∧ kindB k = true ∧ σ = [.box 25 (boxF k s sub a b)]) ?_ ?_
    · by_cases k1 : k < 1
      · have e2 : kindB k = false := by rw [← Bool.not_eq_true]; simp [kindB]; omega
        have e : chk (.mk k s sub a b) = 9 := by rw [c0, e2]; rfl
        simp (disch := omega) only [go_sem, reduceIte, reduceCtorEq, Nat.reduceBEq, Nat.reduceEqDiff, Nat.reduceAdd, Nat.reduceLT, Nat.reduceLeDiff, Int.reduceNeg, Int.reduceAdd, Int.reduceLT, Int.reduceLE, Int.reduceEq, Int.reduceNe, f1, boxF, k1, e]
      · by_cases k2 : 5 < k
        · have e2 : kindB k = false := by rw [← Bool.not_eq_true]; simp [kindB]; omega
          have e : chk (.mk k s sub a b) = 9 := by rw [c0, e2]; rfl
          simp (disch := omega) only [go_sem, reduceIte, reduceCtorEq, Nat.reduceBEq, Nat.reduceEqDiff, Nat.reduceAdd, Nat.reduceLT, Nat.reduceLeDiff, Int.reduceNeg, Int.reduceAdd, Int.reduceLT, Int.reduceLE, Int.reduceEq, Int.reduceNe, f1, boxF, k1, k2, e]
        · simp (disch := omega) only [go_sem, reduceIte, reduceCtorEq, Nat.reduceBEq, Nat.reduceEqDiff, Nat.reduceAdd, Nat.reduceLT, Nat.reduceLeDiff, Int.reduceNeg, Int.reduceAdd, Int.reduceLT, Int.reduceLE, Int.reduceEq, Int.reduceNe, f1, boxF, k1, k2]
          simp only [kindB, Bool.or_eq_true, decide_eq_true_eq]; omega
    rintro fr σ ⟨f1, hkB, rfl⟩
    rw [if_pos hkB] at c0
    have hbad := refBad s sub.length a b hkB
    refine wW_cut (fun fr σ => fr 1 = .ptr 0 0 ∧ fr 3 = .d (.bool (refP k s)) ∧ σ = [.box 25 (boxF k s sub a b)]) ?_ ?_
    · by_cases k2 : k = 2
      · have e : refP k s = true := by simp [refP, k2]
        rw [e]
        simp (disch := omega) only [go_sem, reduceIte, reduceCtorEq, Nat.reduceBEq, Nat.reduceEqDiff, Nat.reduceAdd, Nat.reduceLT, Nat.reduceLeDiff, Int.reduceNeg, Int.reduceAdd, Int.reduceLT, Int.reduceLE, Int.reduceEq, Int.reduceNe, f1, boxF, k2]
      · have e : refP k s = decide ((s.length : Int) = 0) := by simp [refP, k2]
        simp (disch := omega) only [go_sem, reduceIte, reduceCtorEq, Nat.reduceBEq, Nat.reduceEqDiff, Nat.reduceAdd, Nat.reduceLT, Nat.reduceLeDiff, Int.reduceNeg, Int.reduceAdd, Int.reduceLT, Int.reduceLE, Int.reduceEq, Int.reduceNe, f1, boxF, k2, e, setD, List.length_map]
        done
    rintro fr σ ⟨f1, f3, rfl⟩
    refine wW_cut (fun fr σ => fr 1 = .ptr 0 0 ∧ fr 3 = .d (.bool (refP k s && refQ k a b)) ∧ σ = [.box 25 (boxF k s sub a b)]) ?_ ?_
    · cases hp : refP k s
      · rw [hp] at f3
        simp (disch := omega) only [go_sem, reduceIte, reduceCtorEq, Nat.reduceBEq, Nat.reduceEqDiff, Nat.reduceAdd, Nat.reduceLT, Nat.reduceLeDiff, Int.reduceNeg, Int.reduceAdd, Int.reduceLT, Int.reduceLE, Int.reduceEq, Int.reduceNe, f1, f3, Bool.false_and]
      · rw [hp] at f3
        by_cases k5 : k = 5
        · have e : refQ k a b = true := by simp [refQ, k5]
          rw [e]
          simp (disch := omega) only [go_sem, reduceIte, reduceCtorEq, Nat.reduceBEq, Nat.reduceEqDiff, Nat.reduceAdd, Nat.reduceLT, Nat.reduceLeDiff, Int.reduceNeg, Int.reduceAdd, Int.reduceLT, Int.reduceLE, Int.reduceEq, Int.reduceNe, f1, f3, boxF, k5, Bool.true_and]
        · by_cases ha : a = 0
          · have e : refQ k a b = decide (b = 0) := by simp [refQ, k5, ha]
            rw [e]
            simp (disch := omega) only [go_sem, reduceIte, reduceCtorEq, Nat.reduceBEq, Nat.reduceEqDiff, Nat.reduceAdd, Nat.reduceLT, Nat.reduceLeDiff, Int.reduceNeg, Int.reduceAdd, Int.reduceLT, Int.reduceLE, Int.reduceEq, Int.reduceNe, f1, f3, boxF, k5, ha, Bool.true_and]
          · have e : refQ k a b = false := by simp [refQ, k5, ha]
            simp (disch := omega) only [go_sem, reduceIte, reduceCtorEq, Nat.reduceBEq, Nat.reduceEqDiff, Nat.reduceAdd, Nat.reduceLT, Nat.reduceLeDiff, Int.reduceNeg, Int.reduceAdd, Int.reduceLT, Int.reduceLE, Int.reduceEq, Int.reduceNe, f1, f3, boxF, k5, ha, e, Bool.true_and]
    rintro fr σ ⟨f1, f3, rfl⟩
    generalize (refP k s && refQ k a b) = p at f3 hbad
    refine wW_cut (fun fr σ => fr 1 = .ptr 0 0 ∧ fr 3 = .d (.bool (p && refR k s sub.length a b)) ∧ σ = [.box 25 (boxF k s sub a b)]) ?_ ?_
    · have hk : k = 1 ∨ k = 2 ∨ k = 3 ∨ k = 4 ∨ k = 5 := by
        simp only [kindB, Bool.or_eq_true, decide_eq_true_eq] at hkB; omega
      cases p
      · rcases hk with hk | hk | hk | hk | hk <;> simp (disch := omega) only [go_sem, reduceIte, reduceCtorEq, Nat.reduceBEq, Nat.reduceEqDiff, Nat.reduceAdd, Nat.reduceLT, Nat.reduceLeDiff, Int.reduceNeg, Int.reduceAdd, Int.reduceLT, Int.reduceLE, Int.reduceEq, Int.reduceNe, f1, f3, boxF, hk, Bool.false_and]
      · rcases hk with hk | hk | hk | hk | hk
        · have e : refR k s sub.length a b = (decide ((sub.length : Int) = 0) && properB s) := by simp [refR, hk]
          rw [e]
          by_cases h0 : (sub.length : Int) = 0
          · simp (disch := omega) only [go_sem, reduceIte, reduceCtorEq, Nat.reduceBEq, Nat.reduceEqDiff, Nat.reduceAdd, Nat.reduceLT, Nat.reduceLeDiff, Int.reduceNeg, Int.reduceAdd, Int.reduceLT, Int.reduceLE, Int.reduceEq, Int.reduceNe, f1, f3, boxF, hk, List.length_map, h0]
            refine (ranges69 s hs).at ?_
            rw [decide_eq_true h0, Bool.true_and]
            simp (disch := omega) only [go_sem, reduceIte, reduceCtorEq, Nat.reduceBEq, Nat.reduceEqDiff, Nat.reduceAdd, Nat.reduceLT, Nat.reduceLeDiff, Int.reduceNeg, Int.reduceAdd, Int.reduceLT, Int.reduceLE, Int.reduceEq, Int.reduceNe, f1, f3, hk, Bool.true_and]
          · simp (disch := omega) only [go_sem, reduceIte, reduceCtorEq, Nat.reduceBEq, Nat.reduceEqDiff, Nat.reduceAdd, Nat.reduceLT, Nat.reduceLeDiff, Int.reduceNeg, Int.reduceAdd, Int.reduceLT, Int.reduceLE, Int.reduceEq, Int.reduceNe, f1, f3, boxF, hk, List.length_map, h0, Bool.true_and, Bool.false_and]
        · have e : refR k s sub.length a b = (decide ((sub.length : Int) = 0) && properB s) := by simp [refR, hk]
          rw [e]
          by_cases h0 : (sub.length : Int) = 0
          · simp (disch := omega) only [go_sem, reduceIte, reduceCtorEq, Nat.reduceBEq, Nat.reduceEqDiff, Nat.reduceAdd, Nat.reduceLT, Nat.reduceLeDiff, Int.reduceNeg, Int.reduceAdd, Int.reduceLT, Int.reduceLE, Int.reduceEq, Int.reduceNe, f1, f3, boxF, hk, List.length_map, h0]
            refine (ranges69 s hs).at ?_
            rw [decide_eq_true h0, Bool.true_and]
            simp (disch := omega) only [go_sem, reduceIte, reduceCtorEq, Nat.reduceBEq, Nat.reduceEqDiff, Nat.reduceAdd, Nat.reduceLT, Nat.reduceLeDiff, Int.reduceNeg, Int.reduceAdd, Int.reduceLT, Int.reduceLE, Int.reduceEq, Int.reduceNe, f1, f3, hk, Bool.true_and]
          · simp (disch := omega) only [go_sem, reduceIte, reduceCtorEq, Nat.reduceBEq, Nat.reduceEqDiff, Nat.reduceAdd, Nat.reduceLT, Nat.reduceLeDiff, Int.reduceNeg, Int.reduceAdd, Int.reduceLT, Int.reduceLE, Int.reduceEq, Int.reduceNe, f1, f3, boxF, hk, List.length_map, h0, Bool.true_and, Bool.false_and]
        · have e : refR k s sub.length a b = decide (1 < (sub.length : Int)) := by simp [refR, hk]
          rw [e]
          simp (disch := omega) only [go_sem, reduceIte, reduceCtorEq, Nat.reduceBEq, Nat.reduceEqDiff, Nat.reduceAdd, Nat.reduceLT, Nat.reduceLeDiff, Int.reduceNeg, Int.reduceAdd, Int.reduceLT, Int.reduceLE, Int.reduceEq, Int.reduceNe, f1, f3, boxF, hk, List.length_map, Bool.true_and]
        · have e : refR k s sub.length a b = decide (1 < (sub.length : Int)) := by simp [refR, hk]
          rw [e]
          simp (disch := omega) only [go_sem, reduceIte, reduceCtorEq, Nat.reduceBEq, Nat.reduceEqDiff, Nat.reduceAdd, Nat.reduceLT, Nat.reduceLeDiff, Int.reduceNeg, Int.reduceAdd, Int.reduceLT, Int.reduceLE, Int.reduceEq, Int.reduceNe, f1, f3, boxF, hk, List.length_map, Bool.true_and]
        · have e : refR k s sub.length a b = (decide ((sub.length : Int) = 1) && decide (0 ≤ a) && decide (a ≤ 20) && (decide (b = -1) || (decide (a ≤ b) && decide (b ≤ 20)))) := by rw [hk]; rfl
          rw [e]
          by_cases h1 : (sub.length : Int) = 1
          · by_cases h2 : 0 ≤ a
            · by_cases h3 : a ≤ 20
              · by_cases h4 : b = -1
                · simp (disch := omega) only [go_sem, reduceIte, reduceCtorEq, Nat.reduceBEq, Nat.reduceEqDiff, Nat.reduceAdd, Nat.reduceLT, Nat.reduceLeDiff, Int.reduceNeg, Int.reduceAdd, Int.reduceLT, Int.reduceLE, Int.reduceEq, Int.reduceNe, f1, f3, boxF, hk, List.length_map, h1, h2, h3, h4, Bool.true_and, decide_true, Bool.true_or]
                · by_cases h5 : a ≤ b
                  · simp (disch := omega) only [go_sem, reduceIte, reduceCtorEq, Nat.reduceBEq, Nat.reduceEqDiff, Nat.reduceAdd, Nat.reduceLT, Nat.reduceLeDiff, Int.reduceNeg, Int.reduceAdd, Int.reduceLT, Int.reduceLE, Int.reduceEq, Int.reduceNe, f1, f3, boxF, hk, List.length_map, h1, h2, h3, h4, h5, Bool.true_and, decide_true, Bool.false_or]
                  · simp (disch := omega) only [go_sem, reduceIte, reduceCtorEq, Nat.reduceBEq, Nat.reduceEqDiff, Nat.reduceAdd, Nat.reduceLT, Nat.reduceLeDiff, Int.reduceNeg, Int.reduceAdd, Int.reduceLT, Int.reduceLE, Int.reduceEq, Int.reduceNe, f1, f3, boxF, hk, List.length_map, h1, h2, h3, h4, h5, Bool.true_and, decide_true, Bool.false_or, Bool.false_and]
              · simp (disch := omega) only [go_sem, reduceIte, reduceCtorEq, Nat.reduceBEq, Nat.reduceEqDiff, Nat.reduceAdd, Nat.reduceLT, Nat.reduceLeDiff, Int.reduceNeg, Int.reduceAdd, Int.reduceLT, Int.reduceLE, Int.reduceEq, Int.reduceNe, f1, f3, boxF, hk, List.length_map, h1, h2, h3, Bool.true_and, Bool.false_and, Bool.and_false]
            · simp (disch := omega) only [go_sem, reduceIte, reduceCtorEq, Nat.reduceBEq, Nat.reduceEqDiff, Nat.reduceAdd, Nat.reduceLT, Nat.reduceLeDiff, Int.reduceNeg, Int.reduceAdd, Int.reduceLT, Int.reduceLE, Int.reduceEq, Int.reduceNe, f1, f3, boxF, hk, List.length_map, h1, h2, Bool.true_and, Bool.false_and, Bool.and_false]
          · simp (disch := omega) only [go_sem, reduceIte, reduceCtorEq, Nat.reduceBEq, Nat.reduceEqDiff, Nat.reduceAdd, Nat.reduceLT, Nat.reduceLeDiff, Int.reduceNeg, Int.reduceAdd, Int.reduceLT, Int.reduceLE, Int.reduceEq, Int.reduceNe, f1, f3, boxF, hk, List.length_map, h1, Bool.true_and, Bool.false_and, Bool.and_false]
    rintro fr σ ⟨f1, f3, rfl⟩
    rw [hbad] at f3
    generalize badB k s sub.length a b = z at f3 c0 hbad
    refine wW_cut (fun fr σ => fr 1 = .ptr 0 0 ∧ z = false ∧ σ = [.box 25 (boxF k s sub a b)]) ?_ ?_
    · cases z
      · simp (disch := omega) only [go_sem, reduceIte, reduceCtorEq, Nat.reduceBEq, Nat.reduceEqDiff, Nat.reduceAdd, Nat.reduceLT, Nat.reduceLeDiff, Int.reduceNeg, Int.reduceAdd, Int.reduceLT, Int.reduceLE, Int.reduceEq, Int.reduceNe, f1, f3, Bool.not_false, Bool.not_true]
      · have e : chk (.mk k s sub a b) = 1 := by rw [c0, if_pos rfl]
        simp (disch := omega) only [go_sem, reduceIte, reduceCtorEq, Nat.reduceBEq, Nat.reduceEqDiff, Nat.reduceAdd, Nat.reduceLT, Nat.reduceLeDiff, Int.reduceNeg, Int.reduceAdd, Int.reduceLT, Int.reduceLE, Int.reduceEq, Int.reduceNe, f1, f3, Bool.not_false, Bool.not_true, e]
    rintro fr σ ⟨f1, rfl, rfl⟩
    have c1 : chk (.mk k s sub a b) = chkL sub := c0
    have hnl : ∀ x, x ∈ sub → x.nodes ≤ 1000000 := fun x hx => by
      have h1 := nodes_mem sub x hx
      have h2 : (Tree.mk k s sub a b).nodes = 1 + Tree.nodesL sub := nodes_eq _
      omega
    simp (disch := omega) only [go_sem, reduceIte, reduceCtorEq, Nat.reduceBEq, Nat.reduceEqDiff, Nat.reduceAdd, Nat.reduceLT, Nat.reduceLeDiff, Int.reduceNeg, Int.reduceAdd, Int.reduceLT, Int.reduceLE, Int.reduceEq, Int.reduceNe, f1]
    refine wL_ind (fun (j : Nat) fr σ => j ≤ sub.length ∧ fr 1 = .ptr 0 0 ∧ fr 4 = .d (.int .i64 j) ∧ σ = [.box 25 (boxF k s sub a b)] ∧ chkL (sub.drop j) = chk (.mk k s sub a b)) (fun j => sub.length - j) ?_ 0 ?_
    · rintro j fr σ ⟨hj, f1, f4, rfl, hc⟩ ih2
      by_cases hlt : j < sub.length
      · obtain ⟨x, hx⟩ : ∃ x, x = sub.getD j default := ⟨_, rfl⟩
        have hxm : x ∈ sub := by rw [hx]; exact getD_mem sub j hlt
        have hd : sub.drop j = x :: sub.drop (j + 1) := by rw [hx]; exact drop_getD sub j hlt
        rw [hd] at hc
        simp (disch := omega) only [go_sem, reduceIte, reduceCtorEq, Nat.reduceBEq, Nat.reduceEqDiff, Nat.reduceAdd, Nat.reduceLT, Nat.reduceLeDiff, Int.reduceNeg, Int.reduceAdd, Int.reduceLT, Int.reduceLE, Int.reduceEq, Int.reduceNe, f1, f4, boxF, hlt, List.length_map, nodeD_eq, nodeC, ← hx]
        refine (ih x hxm (hnl x hxm) (thinL_mem ht.2 hxm)).at ?_
        by_cases h0 : chk x = 0
        · have hc' : chkL (sub.drop (j + 1)) = chk (.mk k s sub a b) := by rw [← hc, chkL, if_pos h0]
          simp (disch := omega) only [go_sem, reduceIte, reduceCtorEq, Nat.reduceBEq, Nat.reduceEqDiff, Nat.reduceAdd, Nat.reduceLT, Nat.reduceLeDiff, Int.reduceNeg, Int.reduceAdd, Int.reduceLT, Int.reduceLE, Int.reduceEq, Int.reduceNe, h0, f4]
          refine ih2 (j + 1) _ _ (by omega) ⟨by omega, ?_, ?_, ?_, hc'⟩
          · simp (disch := omega) only [go_sem, reduceIte, reduceCtorEq, Nat.reduceBEq, Nat.reduceEqDiff, Nat.reduceAdd, Nat.reduceLT, Nat.reduceLeDiff, Int.reduceNeg, Int.reduceAdd, Int.reduceLT, Int.reduceLE, Int.reduceEq, Int.reduceNe, f1]
          · simp (disch := omega) only [go_sem, reduceIte, reduceCtorEq, Nat.reduceBEq, Nat.reduceEqDiff, Nat.reduceAdd, Nat.reduceLT, Nat.reduceLeDiff, Int.reduceNeg, Int.reduceAdd, Int.reduceLT, Int.reduceLE, Int.reduceEq, Int.reduceNe, f4]
          · simp only [boxF, nodeD_eq, nodeC]
        · have e : chk (.mk k s sub a b) = chk x := by rw [← hc, chkL, if_neg h0]
          simp (disch := omega) only [go_sem, reduceIte, reduceCtorEq, Nat.reduceBEq, Nat.reduceEqDiff, Nat.reduceAdd, Nat.reduceLT, Nat.reduceLeDiff, Int.reduceNeg, Int.reduceAdd, Int.reduceLT, Int.reduceLE, Int.reduceEq, Int.reduceNe, h0, e]
      · rw [List.drop_of_length_le (by omega)] at hc
        simp (disch := omega) only [go_sem, reduceIte, reduceCtorEq, Nat.reduceBEq, Nat.reduceEqDiff, Nat.reduceAdd, Nat.reduceLT, Nat.reduceLeDiff, Int.reduceNeg, Int.reduceAdd, Int.reduceLT, Int.reduceLE, Int.reduceEq, Int.reduceNe, f1, f4, boxF, hlt, List.length_map]
        rw [← hc, chkL]
    · refine ⟨by omega, ?_, ?_, ?_, ?_⟩
      · simp (disch := omega) only [go_sem, reduceIte, reduceCtorEq, Nat.reduceBEq, Nat.reduceEqDiff, Nat.reduceAdd, Nat.reduceLT, Nat.reduceLeDiff, Int.reduceNeg, Int.reduceAdd, Int.reduceLT, Int.reduceLE, Int.reduceEq, Int.reduceNe, f1]
      · simp (disch := omega) only [go_sem, reduceIte, reduceCtorEq, Nat.reduceBEq, Nat.reduceEqDiff, Nat.reduceAdd, Nat.reduceLT, Nat.reduceLeDiff, Int.reduceNeg, Int.reduceAdd, Int.reduceLT, Int.reduceLE, Int.reduceEq, Int.reduceNe]
      · rfl
      · rw [c1]; rfl

theorem check35 (n : Tree) (h : Thin n) : PCall Tryz.prog 35 [nodeA n] (.d (.int .i64 (chkE n))) := by
  refine fn35.pure noHint (Nat.le_refl _) (by simp only [go_sem, nodeA, nodeF, setD]) (by simp only [go_sem]) ?_
  have hc := count22 n 121 (by omega) (by omega)
  simp only [nodeA, nodeF] at hc
  simp (disch := omega) only [go_sem, reduceIte, reduceCtorEq, Nat.reduceBEq, Nat.reduceEqDiff, Nat.reduceAdd, Nat.reduceLT, Nat.reduceLeDiff, Int.reduceNeg, Int.reduceAdd, Int.reduceLT, Int.reduceLE, Int.reduceEq, Int.reduceNe, nodeA, nodeF]
  refine hc.at ?_
  by_cases h1 : 120 < n.nodes
  · have e : (120 : Int) < (min n.nodes 121 : Nat) := by omega
    have e2 : chkE n = 5 := by rw [chkE, if_pos h1]
    simp (disch := omega) only [go_sem, reduceIte, reduceCtorEq, Nat.reduceBEq, Nat.reduceEqDiff, Nat.reduceAdd, Nat.reduceLT, Nat.reduceLeDiff, Int.reduceNeg, Int.reduceAdd, Int.reduceLT, Int.reduceLE, Int.reduceEq, Int.reduceNe, e, e2]
  · have e : ¬ (120 : Int) < (min n.nodes 121 : Nat) := by omega
    have e2 : chkE n = chk n := by rw [chkE, if_neg h1]
    have hn := node52 n (by omega) h
    simp only [nodeA, nodeF] at hn
    simp (disch := omega) only [go_sem, reduceIte, reduceCtorEq, Nat.reduceBEq, Nat.reduceEqDiff, Nat.reduceAdd, Nat.reduceLT, Nat.reduceLeDiff, Int.reduceNeg, Int.reduceAdd, Int.reduceLT, Int.reduceLE, Int.reduceEq, Int.reduceNe, e, e2]
    refine hn.at ?_
    simp (disch := omega) only [go_sem, reduceIte, reduceCtorEq, Nat.reduceBEq, Nat.reduceEqDiff, Nat.reduceAdd, Nat.reduceLT, Nat.reduceLeDiff, Int.reduceNeg, Int.reduceAdd, Int.reduceLT, Int.reduceLE, Int.reduceEq, Int.reduceNe, e2]
end Go.Proofs.YtebejiilpedlmaaGreatDoor
