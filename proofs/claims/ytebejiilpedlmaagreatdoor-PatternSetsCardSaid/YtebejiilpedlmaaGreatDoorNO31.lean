/- Part of a proof about the functions of this seat. -/
import Derived.Test.YtebejiilpedlmaaGreatDoorBase31
import Derived.Test.YtebejiilpedlmaaGreatDoorPatA
import Derived.Test.YtebejiilpedlmaaGreatDoorNvS
set_option linter.unusedVariables false
set_option linter.unusedSimpArgs false
set_option maxRecDepth 100000
namespace Go.Proofs.YtebejiilpedlmaaGreatDoor
open Go Nv Pat

def rgD (r : Int × Int) : DV := .agg [.int .i32 r.1, .int .i32 r.2]
def setD (s : List (Int × Int)) : DV := .list 2 (s.map rgD)
@[go_sem] theorem one_setD (s : List (Int × Int)) : (AV.d (setD s)).one = true := nrfl rfl
mutual
def nodeD : Tree → DV
  | .mk k s l a b => .agg [.int .i64 k, setD s, .list 5 (nodesD l), .int .i64 a, .int .i64 b]
def nodesD : List Tree → List DV
  | [] => []
  | x :: l => nodeD x :: nodesD l
end
theorem nodesD_map : ∀ l : List Tree, nodesD l = l.map nodeD
  | [] => rfl
  | x :: l => by rw [nodesD, nodesD_map l]; rfl
def nodeC (n : Tree) : List DV := [.int .i64 n.kind, setD n.set, .list 5 (n.sub.map nodeD), .int .i64 n.min, .int .i64 n.max]
theorem nodeD_eq : ∀ n : Tree, nodeD n = .agg (nodeC n)
  | .mk k s l a b => by simp only [nodeD, nodeC, nodesD_map, Tree.kind, Tree.set, Tree.sub, Tree.min, Tree.max]
def nodeF (n : Tree) : List AV := [.d (.int .i64 n.kind), .d (setD n.set), .d (.list 5 (n.sub.map nodeD)), .d (.int .i64 n.min), .d (.int .i64 n.max)]
def nodeA (n : Tree) : AV := .agg (nodeF n)

theorem nodesL_append : ∀ l m : List Tree, Tree.nodesL (l ++ m) = Tree.nodesL l + Tree.nodesL m
  | [], m => by simp [Tree.nodesL]
  | x :: l, m => by simp only [List.cons_append, Tree.nodesL, nodesL_append l m]; omega
theorem take_succ' {α : Type} [Inhabited α] (l : List α) (k : Nat) (h : k < l.length) : l.take (k + 1) = l.take k ++ [l.getD k default] := by
  rw [List.take_succ_eq_append_getElem h]; simp [List.getD_eq_getElem?_getD, h]
theorem getD_mem {α : Type} [Inhabited α] (l : List α) (k : Nat) (h : k < l.length) : l.getD k default ∈ l := by
  rw [List.getD_eq_getElem?_getD, List.getElem?_eq_getElem h]; exact List.getElem_mem _
theorem nodesL_take (l : List Tree) (k : Nat) : Tree.nodesL (l.take k) ≤ Tree.nodesL l := by
  have := nodesL_append (l.take k) (l.drop k)
  rw [List.take_append_drop] at this
  omega
theorem length_nodesL : ∀ l : List Tree, l.length ≤ Tree.nodesL l
  | [] => Nat.le_refl _
  | x :: l => by
    have := length_nodesL l
    have h1 : 1 ≤ x.nodes := by cases x; simp only [Tree.nodes]; omega
    simp only [List.length_cons, Tree.nodesL]; omega
theorem nodes_mem : ∀ (l : List Tree) (x : Tree), x ∈ l → x.nodes ≤ Tree.nodesL l
  | y :: l, x, h => by
    rcases List.mem_cons.1 h with h | h
    · rw [h, Tree.nodesL]; omega
    · have := nodes_mem l x h
      rw [Tree.nodesL]; omega
theorem nodes_eq : ∀ n : Tree, n.nodes = 1 + Tree.nodesL n.sub
  | .mk k s l a b => by simp only [Tree.nodes, Tree.sub]
theorem nodes_pos (n : Tree) : 1 ≤ n.nodes := by rw [nodes_eq]; omega

/-- The number of nodes, as long as it is not greater than a limit. -/
def cnt (n : Tree) (lim : Nat) : Nat := min n.nodes (lim + 1)

theorem count25 : ∀ (n : Tree) (lim : Nat), lim ≤ 1000000 → PCall Tryz.prog 25 [nodeA n, .d (.int .i64 lim)] (.d (.int .i64 (cnt n lim))) := by
  intro n
  induction n using Tree.ind with
  | h k s sub a b ih =>
    intro lim hlim
    refine fn25.pure noHint (Nat.le_refl _) (by simp only [go_sem, nodeA, nodeF, setD]) (by simp only [go_sem]) ?_
    simp (disch := omega) only [go_sem, reduceIte, reduceCtorEq, Nat.reduceBEq, Nat.reduceEqDiff, Nat.reduceAdd, Nat.reduceLT, Nat.reduceLeDiff, Int.reduceNeg, Int.reduceAdd, Int.reduceLT, Int.reduceLE, Int.reduceEq, Int.reduceNe, nodeA, nodeF, Tree.kind, Tree.set, Tree.sub, Tree.min, Tree.max, setD]
    have hn : (Tree.mk k s sub a b).nodes = 1 + Tree.nodesL sub := nodes_eq _
    refine wL_ind (fun (j : Nat) fr σ => j ≤ sub.length ∧ fr 1 = .d (.int .i64 lim) ∧ fr 5 = .d (.int .i64 (min (1 + Tree.nodesL (sub.take j)) (lim + 1) : Nat)) ∧ fr 9 = .d (.list 5 (sub.map nodeD)) ∧ fr 10 = .d (.int .i64 sub.length) ∧ fr 11 = .d (.int .i64 j)) (fun j => sub.length - j) ?_ 0 ?_
    · rintro j fr σ ⟨hj, f1, f5, f9, f10, f11⟩ ih2
      obtain ⟨o, ho⟩ : ∃ o, o = min (1 + Tree.nodesL (sub.take j)) (lim + 1) := ⟨_, rfl⟩
      rw [← ho] at f5
      have h1 := nodesL_take sub j
      by_cases hlt : j < sub.length
      · by_cases hgt : lim < o
        · have hgt' : (lim : Int) < o := by omega
          have e : cnt (.mk k s sub a b) lim = o := by rw [cnt, hn]; omega
          simp (disch := omega) only [go_sem, reduceIte, reduceCtorEq, Nat.reduceBEq, Nat.reduceEqDiff, Nat.reduceAdd, Nat.reduceLT, Nat.reduceLeDiff, Int.reduceNeg, Int.reduceAdd, Int.reduceLT, Int.reduceLE, Int.reduceEq, Int.reduceNe, f1, f5, f9, f10, f11, hlt, nodeD_eq, nodeC, hgt', e]
        · have hgt' : ¬ (lim : Int) < o := by omega
          obtain ⟨x, hx⟩ : ∃ x, x = sub.getD j default := ⟨_, rfl⟩
          have hxm : x ∈ sub := by rw [hx]; exact getD_mem sub j hlt
          have e1 : (lim : Int) - o = ((lim - o : Nat) : Int) := by omega
          simp (disch := omega) only [go_sem, reduceIte, reduceCtorEq, Nat.reduceBEq, Nat.reduceEqDiff, Nat.reduceAdd, Nat.reduceLT, Nat.reduceLeDiff, Int.reduceNeg, Int.reduceAdd, Int.reduceLT, Int.reduceLE, Int.reduceEq, Int.reduceNe, f1, f5, f9, f10, f11, hlt, nodeD_eq, nodeC, hgt', ← hx, e1]
          refine (ih x hxm (lim - o) (by omega)).at ?_
          have hjl := length_nodesL (sub.take j)
          rw [List.length_take] at hjl
          have hc : cnt x (lim - o) ≤ lim - o + 1 := by rw [cnt]; omega
          have e2 : (o : Int) + cnt x (lim - o) = ((o + cnt x (lim - o) : Nat) : Int) := by omega
          have hj2 : j + 1 ≤ 1000001 := by omega
          clear hjl
          simp (disch := omega) only [go_sem, reduceIte, reduceCtorEq, Nat.reduceBEq, Nat.reduceEqDiff, Nat.reduceAdd, Nat.reduceLT, Nat.reduceLeDiff, Int.reduceNeg, Int.reduceAdd, Int.reduceLT, Int.reduceLE, Int.reduceEq, Int.reduceNe, f5, f11, e2]
          refine ih2 (j + 1) _ _ (by omega) ⟨by omega, ?_, ?_, ?_, ?_, ?_⟩
          · simp (disch := omega) only [go_sem, reduceIte, reduceCtorEq, Nat.reduceBEq, Nat.reduceEqDiff, Nat.reduceAdd, Nat.reduceLT, Nat.reduceLeDiff, Int.reduceNeg, Int.reduceAdd, Int.reduceLT, Int.reduceLE, Int.reduceEq, Int.reduceNe, f1]
          · rw [take_succ' sub j hlt, nodesL_append, ← hx]
            have e3 : min (1 + (Tree.nodesL (sub.take j) + Tree.nodesL [x])) (lim + 1) = o + cnt x (lim - o) := by simp only [Tree.nodesL, cnt]; omega
            rw [e3]; simp (disch := omega) only [go_sem, reduceIte, reduceCtorEq, Nat.reduceBEq, Nat.reduceEqDiff, Nat.reduceAdd, Nat.reduceLT, Nat.reduceLeDiff, Int.reduceNeg, Int.reduceAdd, Int.reduceLT, Int.reduceLE, Int.reduceEq, Int.reduceNe]
          · simp (disch := omega) only [go_sem, reduceIte, reduceCtorEq, Nat.reduceBEq, Nat.reduceEqDiff, Nat.reduceAdd, Nat.reduceLT, Nat.reduceLeDiff, Int.reduceNeg, Int.reduceAdd, Int.reduceLT, Int.reduceLE, Int.reduceEq, Int.reduceNe, f9]
          · simp (disch := omega) only [go_sem, reduceIte, reduceCtorEq, Nat.reduceBEq, Nat.reduceEqDiff, Nat.reduceAdd, Nat.reduceLT, Nat.reduceLeDiff, Int.reduceNeg, Int.reduceAdd, Int.reduceLT, Int.reduceLE, Int.reduceEq, Int.reduceNe, f10]
          · simp (disch := omega) only [go_sem, reduceIte, reduceCtorEq, Nat.reduceBEq, Nat.reduceEqDiff, Nat.reduceAdd, Nat.reduceLT, Nat.reduceLeDiff, Int.reduceNeg, Int.reduceAdd, Int.reduceLT, Int.reduceLE, Int.reduceEq, Int.reduceNe]
      · have e : cnt (.mk k s sub a b) lim = o := by rw [cnt, hn, ho, List.take_of_length_le (by omega)]
        simp (disch := omega) only [go_sem, reduceIte, reduceCtorEq, Nat.reduceBEq, Nat.reduceEqDiff, Nat.reduceAdd, Nat.reduceLT, Nat.reduceLeDiff, Int.reduceNeg, Int.reduceAdd, Int.reduceLT, Int.reduceLE, Int.reduceEq, Int.reduceNe, f1, f5, f9, f10, f11, hlt, e]
    · refine ⟨by omega, ?_, ?_, ?_, ?_, ?_⟩
      all_goals simp (disch := omega) only [go_sem, reduceIte, reduceCtorEq, Nat.reduceBEq, Nat.reduceEqDiff, Nat.reduceAdd, Nat.reduceLT, Nat.reduceLeDiff, Int.reduceNeg, Int.reduceAdd, Int.reduceLT, Int.reduceLE, Int.reduceEq, Int.reduceNe]
      have : min (1 + Tree.nodesL []) (lim + 1) = 1 := by simp only [Tree.nodesL]; omega
      rw [this]; rfl
end Go.Proofs.YtebejiilpedlmaaGreatDoor
set_option linter.unusedVariables false
set_option linter.unusedSimpArgs false
set_option maxRecDepth 100000
namespace Go.Proofs.YtebejiilpedlmaaGreatDoor
open Go Nv Pat

def charB (r : Int) : Bool := (decide (0 ≤ r) && decide (r ≤ 55295)) || (decide (57344 ≤ r) && decide (r ≤ 1114111))
theorem charB_iff (r : Int) : charB r = true ↔ (0 ≤ r ∧ r ≤ 55295) ∨ (57344 ≤ r ∧ r ≤ 1114111) := by simp [charB]

theorem char66 (r : Int) : PCall Tryz.prog 66 [.d (.int .i32 r)] (.d (.bool (charB r))) := by
  refine fn66.pure noHint (Nat.le_refl _) (by simp only [go_sem]) (by simp only [go_sem]) ?_
  simp (disch := omega) only [go_sem, reduceIte, reduceCtorEq, Nat.reduceBEq, Nat.reduceEqDiff, Nat.reduceAdd, Nat.reduceLT, Nat.reduceLeDiff, Int.reduceNeg, Int.reduceAdd, Int.reduceLT, Int.reduceLE, Int.reduceEq, Int.reduceNe]
  by_cases h1 : 0 ≤ r
  · by_cases h2 : r ≤ 55295
    · simp (disch := omega) only [go_sem, reduceIte, reduceCtorEq, Nat.reduceBEq, Nat.reduceEqDiff, Nat.reduceAdd, Nat.reduceLT, Nat.reduceLeDiff, Int.reduceNeg, Int.reduceAdd, Int.reduceLT, Int.reduceLE, Int.reduceEq, Int.reduceNe, h1, h2, charB]
    · by_cases h3 : 57344 ≤ r
      · simp (disch := omega) only [go_sem, reduceIte, reduceCtorEq, Nat.reduceBEq, Nat.reduceEqDiff, Nat.reduceAdd, Nat.reduceLT, Nat.reduceLeDiff, Int.reduceNeg, Int.reduceAdd, Int.reduceLT, Int.reduceLE, Int.reduceEq, Int.reduceNe, h1, h2, h3, charB]
      · simp (disch := omega) only [go_sem, reduceIte, reduceCtorEq, Nat.reduceBEq, Nat.reduceEqDiff, Nat.reduceAdd, Nat.reduceLT, Nat.reduceLeDiff, Int.reduceNeg, Int.reduceAdd, Int.reduceLT, Int.reduceLE, Int.reduceEq, Int.reduceNe, h1, h2, h3, charB]
  · by_cases h3 : 57344 ≤ r
    · omega
    · simp (disch := omega) only [go_sem, reduceIte, reduceCtorEq, Nat.reduceBEq, Nat.reduceEqDiff, Nat.reduceAdd, Nat.reduceLT, Nat.reduceLeDiff, Int.reduceNeg, Int.reduceAdd, Int.reduceLT, Int.reduceLE, Int.reduceEq, Int.reduceNe, h1, h3, charB]

def rgB (r : Int × Int) : Bool := charB r.1 && charB r.2 && decide (r.1 ≤ r.2) && (decide (r.1 < 55296) == decide (r.2 < 55296))
def properFrom : Option Int → List (Int × Int) → Bool
  | _, [] => true
  | none, r :: l => rgB r && properFrom (some r.2) l
  | some q, r :: l => rgB r && decide (2 ≤ r.1 - q) && properFrom (some r.2) l
def properB (s : List (Int × Int)) : Bool := properFrom none s
def prevOf (s : List (Int × Int)) (k : Nat) : Option Int := if k = 0 then none else some (s.getD (k - 1) default).2

theorem proper43 (s : List (Int × Int)) (hs : s.length ≤ 1000000) : PCall Tryz.prog 43 [.d (setD s)] (.d (.bool (properB s))) := by
  refine fn43.pure noHint (Nat.le_refl _) (by simp only [go_sem, setD]) (by simp only [go_sem]) ?_
  simp (disch := omega) only [go_sem, reduceIte, reduceCtorEq, Nat.reduceBEq, Nat.reduceEqDiff, Nat.reduceAdd, Nat.reduceLT, Nat.reduceLeDiff, Int.reduceNeg, Int.reduceAdd, Int.reduceLT, Int.reduceLE, Int.reduceEq, Int.reduceNe, setD]
  refine wL_ind (fun (k : Nat) fr σ => k ≤ s.length ∧ fr 0 = .d (.list 2 (s.map rgD)) ∧ fr 5 = .d (.list 2 (s.map rgD)) ∧ fr 6 = .d (.int .i64 s.length) ∧ fr 7 = .d (.int .i64 k) ∧
    properFrom (prevOf s k) (s.drop k) = properB s ∧ (0 < k → 0 ≤ (s.getD (k - 1) default).2 ∧ (s.getD (k - 1) default).2 ≤ 1114111)) (fun k => s.length - k) ?_ 0 ?_
  · rintro k fr σ ⟨hk, f0, f5, f6, f7, hp, hq⟩ ih
    by_cases hlt : k < s.length
    · obtain ⟨r, hr⟩ : ∃ r, r = s.getD k default := ⟨_, rfl⟩
      have hd : s.drop k = r :: s.drop (k + 1) := by rw [hr]; exact drop_getD s k hlt
      rw [hd] at hp
      have bad : rgB r = false → properB s = false := fun h => by
        rw [← hp]; cases prevOf s k <;> simp only [properFrom, h, Bool.false_and]
      simp (disch := omega) only [go_sem, reduceIte, reduceCtorEq, Nat.reduceBEq, Nat.reduceEqDiff, Nat.reduceAdd, Nat.reduceLT, Nat.reduceLeDiff, Int.reduceNeg, Int.reduceAdd, Int.reduceLT, Int.reduceLE, Int.reduceEq, Int.reduceNe, f0, f5, f6, f7, hlt, rgD, ← hr]
      refine (char66 r.1).at ?_
      by_cases c1 : charB r.1 = true
      · simp (disch := omega) only [go_sem, reduceIte, reduceCtorEq, Nat.reduceBEq, Nat.reduceEqDiff, Nat.reduceAdd, Nat.reduceLT, Nat.reduceLeDiff, Int.reduceNeg, Int.reduceAdd, Int.reduceLT, Int.reduceLE, Int.reduceEq, Int.reduceNe, c1]
        refine (char66 r.2).at ?_
        by_cases c2 : charB r.2 = true
        · simp (disch := omega) only [go_sem, reduceIte, reduceCtorEq, Nat.reduceBEq, Nat.reduceEqDiff, Nat.reduceAdd, Nat.reduceLT, Nat.reduceLeDiff, Int.reduceNeg, Int.reduceAdd, Int.reduceLT, Int.reduceLE, Int.reduceEq, Int.reduceNe, c2]
          by_cases c3 : r.2 < r.1
          · have e := bad (by simp only [rgB, Bool.and_eq_false_iff, decide_eq_false_iff_not]; exact .inl (.inr (by omega)))
            simp (disch := omega) only [go_sem, reduceIte, reduceCtorEq, Nat.reduceBEq, Nat.reduceEqDiff, Nat.reduceAdd, Nat.reduceLT, Nat.reduceLeDiff, Int.reduceNeg, Int.reduceAdd, Int.reduceLT, Int.reduceLE, Int.reduceEq, Int.reduceNe, c3, e]
          · by_cases c4 : decide (r.1 < 55296) = decide (r.2 < 55296)
            · have hg : rgB r = true := by simp only [rgB, c1, c2, c4, Bool.true_and, beq_self_eq_true, Bool.and_true, decide_eq_true_eq]; omega
              have hr1 := (charB_iff r.1).1 c1
              have hr2 := (charB_iff r.2).1 c2
              have prev : prevOf s (k + 1) = some r.2 := by simp [prevOf, hr]
              have prev' : (s.getD (k + 1 - 1) default).2 = r.2 := by rw [hr]; rfl
              by_cases hk0 : k = 0
              · subst hk0
                have hp' : properFrom (some r.2) (s.drop (0 + 1)) = properB s := by rw [← hp]; simp [prevOf, properFrom, hg]
                simp (disch := omega) only [go_sem, reduceIte, reduceCtorEq, Nat.reduceBEq, Nat.reduceEqDiff, Nat.reduceAdd, Nat.reduceLT, Nat.reduceLeDiff, Int.reduceNeg, Int.reduceAdd, Int.reduceLT, Int.reduceLE, Int.reduceEq, Int.reduceNe, c3, c4, beq_self_eq_true, Bool.not_true, f7]
                refine ih (0 + 1) _ _ (by omega) ⟨by omega, ?_, ?_, ?_, ?_, ?_, fun _ => ?_⟩
                · simp (disch := omega) only [go_sem, reduceIte, reduceCtorEq, Nat.reduceBEq, Nat.reduceEqDiff, Nat.reduceAdd, Nat.reduceLT, Nat.reduceLeDiff, Int.reduceNeg, Int.reduceAdd, Int.reduceLT, Int.reduceLE, Int.reduceEq, Int.reduceNe, f0]
                · simp (disch := omega) only [go_sem, reduceIte, reduceCtorEq, Nat.reduceBEq, Nat.reduceEqDiff, Nat.reduceAdd, Nat.reduceLT, Nat.reduceLeDiff, Int.reduceNeg, Int.reduceAdd, Int.reduceLT, Int.reduceLE, Int.reduceEq, Int.reduceNe, f5]
                · simp (disch := omega) only [go_sem, reduceIte, reduceCtorEq, Nat.reduceBEq, Nat.reduceEqDiff, Nat.reduceAdd, Nat.reduceLT, Nat.reduceLeDiff, Int.reduceNeg, Int.reduceAdd, Int.reduceLT, Int.reduceLE, Int.reduceEq, Int.reduceNe, f6]
                · simp (disch := omega) only [go_sem, reduceIte, reduceCtorEq, Nat.reduceBEq, Nat.reduceEqDiff, Nat.reduceAdd, Nat.reduceLT, Nat.reduceLeDiff, Int.reduceNeg, Int.reduceAdd, Int.reduceLT, Int.reduceLE, Int.reduceEq, Int.reduceNe]; try rfl
                · rw [prev]; exact hp'
                · rw [prev']; omega
              · have hk1 : (0 : Int) < k := by omega
                have hq' := hq (by omega)
                obtain ⟨q, hqe⟩ : ∃ q, q = (s.getD (k - 1) default).2 := ⟨_, rfl⟩
                rw [← hqe] at hq'
                have ek : (k : Int) - 1 = ((k - 1 : Nat) : Int) := by omega
                have hk2 : k - 1 < s.length := by omega
                have hpq : prevOf s k = some q := by simp [prevOf, hk0, hqe]
                rw [hpq] at hp
                by_cases c6 : r.1 - q < 2
                · have e : properB s = false := by rw [← hp]; simp [properFrom, hg]; omega
                  simp (disch := omega) only [go_sem, reduceIte, reduceCtorEq, Nat.reduceBEq, Nat.reduceEqDiff, Nat.reduceAdd, Nat.reduceLT, Nat.reduceLeDiff, Int.reduceNeg, Int.reduceAdd, Int.reduceLT, Int.reduceLE, Int.reduceEq, Int.reduceNe, c3, c4, beq_self_eq_true, Bool.not_true, hk1, f7, f0, ek, hk2, rgD, ← hqe, c6, e]
                · have hp' : properFrom (some r.2) (s.drop (k + 1)) = properB s := by rw [← hp]; simp [properFrom, hg]; omega
                  simp (disch := omega) only [go_sem, reduceIte, reduceCtorEq, Nat.reduceBEq, Nat.reduceEqDiff, Nat.reduceAdd, Nat.reduceLT, Nat.reduceLeDiff, Int.reduceNeg, Int.reduceAdd, Int.reduceLT, Int.reduceLE, Int.reduceEq, Int.reduceNe, c3, c4, beq_self_eq_true, Bool.not_true, hk1, f7, f0, ek, hk2, rgD, ← hqe, c6]
                  refine ih (k + 1) _ _ (by omega) ⟨by omega, ?_, ?_, ?_, ?_, ?_, fun _ => ?_⟩
                  · simp (disch := omega) only [go_sem, reduceIte, reduceCtorEq, Nat.reduceBEq, Nat.reduceEqDiff, Nat.reduceAdd, Nat.reduceLT, Nat.reduceLeDiff, Int.reduceNeg, Int.reduceAdd, Int.reduceLT, Int.reduceLE, Int.reduceEq, Int.reduceNe, f0]
                  · simp (disch := omega) only [go_sem, reduceIte, reduceCtorEq, Nat.reduceBEq, Nat.reduceEqDiff, Nat.reduceAdd, Nat.reduceLT, Nat.reduceLeDiff, Int.reduceNeg, Int.reduceAdd, Int.reduceLT, Int.reduceLE, Int.reduceEq, Int.reduceNe, f5]
                  · simp (disch := omega) only [go_sem, reduceIte, reduceCtorEq, Nat.reduceBEq, Nat.reduceEqDiff, Nat.reduceAdd, Nat.reduceLT, Nat.reduceLeDiff, Int.reduceNeg, Int.reduceAdd, Int.reduceLT, Int.reduceLE, Int.reduceEq, Int.reduceNe, f6]
                  · simp (disch := omega) only [go_sem, reduceIte, reduceCtorEq, Nat.reduceBEq, Nat.reduceEqDiff, Nat.reduceAdd, Nat.reduceLT, Nat.reduceLeDiff, Int.reduceNeg, Int.reduceAdd, Int.reduceLT, Int.reduceLE, Int.reduceEq, Int.reduceNe]
                  · rw [prev]; exact hp'
                  · rw [prev']; omega
            · have e := bad (by simp only [rgB]; rw [Bool.and_eq_false_iff]; exact .inr (by simpa using c4))
              have c4' : (decide (r.1 < 55296) == decide (r.2 < 55296)) = false := by simpa using c4
              simp (disch := omega) only [go_sem, reduceIte, reduceCtorEq, Nat.reduceBEq, Nat.reduceEqDiff, Nat.reduceAdd, Nat.reduceLT, Nat.reduceLeDiff, Int.reduceNeg, Int.reduceAdd, Int.reduceLT, Int.reduceLE, Int.reduceEq, Int.reduceNe, c3, c4', Bool.not_false, e]
        · have e := bad (by simp only [rgB, c2, Bool.and_false, Bool.false_and])
          simp (disch := omega) only [go_sem, reduceIte, reduceCtorEq, Nat.reduceBEq, Nat.reduceEqDiff, Nat.reduceAdd, Nat.reduceLT, Nat.reduceLeDiff, Int.reduceNeg, Int.reduceAdd, Int.reduceLT, Int.reduceLE, Int.reduceEq, Int.reduceNe, c2, e]
      · have e := bad (by simp only [rgB, c1, Bool.false_and])
        simp (disch := omega) only [go_sem, reduceIte, reduceCtorEq, Nat.reduceBEq, Nat.reduceEqDiff, Nat.reduceAdd, Nat.reduceLT, Nat.reduceLeDiff, Int.reduceNeg, Int.reduceAdd, Int.reduceLT, Int.reduceLE, Int.reduceEq, Int.reduceNe, c1, e]
    · have e2 : s.drop k = [] := List.drop_of_length_le (by omega)
      have e : properB s = true := by rw [← hp, e2]; cases prevOf s k <;> rfl
      simp (disch := omega) only [go_sem, reduceIte, reduceCtorEq, Nat.reduceBEq, Nat.reduceEqDiff, Nat.reduceAdd, Nat.reduceLT, Nat.reduceLeDiff, Int.reduceNeg, Int.reduceAdd, Int.reduceLT, Int.reduceLE, Int.reduceEq, Int.reduceNe, f0, f5, f6, f7, hlt, e]
  · refine ⟨by omega, ?_, ?_, ?_, ?_, ?_, by omega⟩
    · simp (disch := omega) only [go_sem, reduceIte, reduceCtorEq, Nat.reduceBEq, Nat.reduceEqDiff, Nat.reduceAdd, Nat.reduceLT, Nat.reduceLeDiff, Int.reduceNeg, Int.reduceAdd, Int.reduceLT, Int.reduceLE, Int.reduceEq, Int.reduceNe]
    · simp (disch := omega) only [go_sem, reduceIte, reduceCtorEq, Nat.reduceBEq, Nat.reduceEqDiff, Nat.reduceAdd, Nat.reduceLT, Nat.reduceLeDiff, Int.reduceNeg, Int.reduceAdd, Int.reduceLT, Int.reduceLE, Int.reduceEq, Int.reduceNe]
    · simp (disch := omega) only [go_sem, reduceIte, reduceCtorEq, Nat.reduceBEq, Nat.reduceEqDiff, Nat.reduceAdd, Nat.reduceLT, Nat.reduceLeDiff, Int.reduceNeg, Int.reduceAdd, Int.reduceLT, Int.reduceLE, Int.reduceEq, Int.reduceNe]
    · simp (disch := omega) only [go_sem, reduceIte, reduceCtorEq, Nat.reduceBEq, Nat.reduceEqDiff, Nat.reduceAdd, Nat.reduceLT, Nat.reduceLeDiff, Int.reduceNeg, Int.reduceAdd, Int.reduceLT, Int.reduceLE, Int.reduceEq, Int.reduceNe]
    · rfl
end Go.Proofs.YtebejiilpedlmaaGreatDoor
