/- Part of a proof about the functions of this seat. -/
import Derived.Test.YtjgbdlaecpkmhaaGreatDoorG23Nh34
import Derived.Test.YtjgbdlaecpkmhaaGreatDoorG12Rst
import Derived.Test.YtjgbdlaecpkmhaaGreatDoorG21Na34
import Derived.Test.YtjgbdlaecpkmhaaGreatDoorG20Vu34
set_option linter.unusedVariables false
set_option linter.unusedSimpArgs false
set_option maxRecDepth 100000
namespace Go.Proofs.YtjgbdlaecpkmhaaGreatDoor
open Go Nv Rul

/- A pattern between quotation marks. -/
theorem pattern_law (s : List UInt8) (hs : s.length ≤ 9223372036854775807) : PCall Tryz.prog 5 [.d (.str s)] (.d (.bool true)) := by
  refine fn5.pure (fun i => if i = 27 then .freeze else if i = 55 then .freeze else .no) (Nat.le_refl _) (by simp only [go_sem]) (by simp only [go_sem]) ?_
  by_cases hl : 100 < s.length
  · have hl' : (100 : Int) < s.length := by omega
    simp (disch := omega) only [go_sem, reduceIte, reduceDIte, reduceCtorEq, Nat.reduceBEq, Nat.reduceEqDiff, Nat.reduceAdd, Nat.reduceSub, Nat.reduceMul, Nat.reduceLT, Nat.reduceLeDiff, Nat.reduceBNe, Int.reduceNeg, Int.reduceAdd, Int.reduceSub, Int.reduceMul, Int.reduceLT, Int.reduceLE, Int.reduceGT, Int.reduceGE, Int.reduceEq, Int.reduceNe, Int.reduceToNat, Int.reduceTMod, Int.reduceTDiv, hl']
    refine awake9.at ?_
    simp (disch := omega) only [go_sem, reduceIte, reduceDIte, reduceCtorEq, Nat.reduceBEq, Nat.reduceEqDiff, Nat.reduceAdd, Nat.reduceSub, Nat.reduceMul, Nat.reduceLT, Nat.reduceLeDiff, Nat.reduceBNe, Int.reduceNeg, Int.reduceAdd, Int.reduceSub, Int.reduceMul, Int.reduceLT, Int.reduceLE, Int.reduceGT, Int.reduceGE, Int.reduceEq, Int.reduceNe, Int.reduceToNat, Int.reduceTMod, Int.reduceTDiv]
  have hl' : ¬ (100 : Int) < s.length := by omega
  simp (disch := omega) only [go_sem, reduceIte, reduceDIte, reduceCtorEq, Nat.reduceBEq, Nat.reduceEqDiff, Nat.reduceAdd, Nat.reduceSub, Nat.reduceMul, Nat.reduceLT, Nat.reduceLeDiff, Nat.reduceBNe, Int.reduceNeg, Int.reduceAdd, Int.reduceSub, Int.reduceMul, Int.reduceLT, Int.reduceLE, Int.reduceGT, Int.reduceGE, Int.reduceEq, Int.reduceNe, Int.reduceToNat, Int.reduceTMod, Int.reduceTDiv, hl']
  refine (contains_one s 10).at ?_
  by_cases hq : 0 ≤ Lib.indexByte s 10
  · simp (disch := omega) only [go_sem, reduceIte, reduceDIte, reduceCtorEq, Nat.reduceBEq, Nat.reduceEqDiff, Nat.reduceAdd, Nat.reduceSub, Nat.reduceMul, Nat.reduceLT, Nat.reduceLeDiff, Nat.reduceBNe, Int.reduceNeg, Int.reduceAdd, Int.reduceSub, Int.reduceMul, Int.reduceLT, Int.reduceLE, Int.reduceGT, Int.reduceGE, Int.reduceEq, Int.reduceNe, Int.reduceToNat, Int.reduceTMod, Int.reduceTDiv, hq]
    refine awake9.at ?_
    simp (disch := omega) only [go_sem, reduceIte, reduceDIte, reduceCtorEq, Nat.reduceBEq, Nat.reduceEqDiff, Nat.reduceAdd, Nat.reduceSub, Nat.reduceMul, Nat.reduceLT, Nat.reduceLeDiff, Nat.reduceBNe, Int.reduceNeg, Int.reduceAdd, Int.reduceSub, Int.reduceMul, Int.reduceLT, Int.reduceLE, Int.reduceGT, Int.reduceGE, Int.reduceEq, Int.reduceNe, Int.reduceToNat, Int.reduceTMod, Int.reduceTDiv]
  · have hn : (10 : UInt8) ∉ s := fun hm => hq (by have := (isIn_iff s).2 hm; unfold isIn at this; exact of_decide_eq_true this)
    have hp := parse10 (Rul.quoted s) (by simp [Rul.quoted, front0]; omega)
    have hok := pattern_ok (pe := peM) hn
    have e1 : 120 :: 32 :: 117 :: 114 :: 103 :: 101 :: 110 :: 116 :: 32 :: 34 :: (s ++ [34, 32]) = Rul.quoted s := rfl
    have hsz : Sized [ruleX s] := fun r hr => by
      rw [List.mem_singleton.1 hr]; exact ⟨by simp [ruleX], by simp [ruleX]; omega⟩
    have hck := check6 [ruleX s] hsz
    simp (disch := omega) only [go_sem, reduceIte, reduceDIte, reduceCtorEq, Nat.reduceBEq, Nat.reduceEqDiff, Nat.reduceAdd, Nat.reduceSub, Nat.reduceMul, Nat.reduceLT, Nat.reduceLeDiff, Nat.reduceBNe, Int.reduceNeg, Int.reduceAdd, Int.reduceSub, Int.reduceMul, Int.reduceLT, Int.reduceLE, Int.reduceGT, Int.reduceGE, Int.reduceEq, Int.reduceNe, Int.reduceToNat, Int.reduceTMod, Int.reduceTDiv, hq]
    rw [e1]
    refine ⟨by omega, by omega, hp.at ?_⟩
    rw [hok]
    by_cases hz : chkR peM [ruleX s] = 0
    · rw [if_pos hz]
      have h := same13 (listA_is [ruleX s]) (.inl rfl : IsRules (.d (rulesD [ruleX s])) [ruleX s]) (by simp)
      rw [decide_eq_true rfl] at h
      simp (disch := omega) only [go_sem, reduceIte, reduceDIte, reduceCtorEq, Nat.reduceBEq, Nat.reduceEqDiff, Nat.reduceAdd, Nat.reduceSub, Nat.reduceMul, Nat.reduceLT, Nat.reduceLeDiff, Nat.reduceBNe, Int.reduceNeg, Int.reduceAdd, Int.reduceSub, Int.reduceMul, Int.reduceLT, Int.reduceLE, Int.reduceGT, Int.reduceGE, Int.reduceEq, Int.reduceNe, Int.reduceToNat, Int.reduceTMod, Int.reduceTDiv, parseA]
      refine PCall.at (r := .d (.int .i64 (chkR peM [ruleX s]))) hck ?_
      simp (disch := omega) only [go_sem, reduceIte, reduceDIte, reduceCtorEq, Nat.reduceBEq, Nat.reduceEqDiff, Nat.reduceAdd, Nat.reduceSub, Nat.reduceMul, Nat.reduceLT, Nat.reduceLeDiff, Nat.reduceBNe, Int.reduceNeg, Int.reduceAdd, Int.reduceSub, Int.reduceMul, Int.reduceLT, Int.reduceLE, Int.reduceGT, Int.reduceGE, Int.reduceEq, Int.reduceNe, Int.reduceToNat, Int.reduceTMod, Int.reduceTDiv, hz]
      refine PCall.at (r := .d (.bool true)) h ?_
      simp (disch := omega) only [go_sem, reduceIte, reduceDIte, reduceCtorEq, Nat.reduceBEq, Nat.reduceEqDiff, Nat.reduceAdd, Nat.reduceSub, Nat.reduceMul, Nat.reduceLT, Nat.reduceLeDiff, Nat.reduceBNe, Int.reduceNeg, Int.reduceAdd, Int.reduceSub, Int.reduceMul, Int.reduceLT, Int.reduceLE, Int.reduceGT, Int.reduceGE, Int.reduceEq, Int.reduceNe, Int.reduceToNat, Int.reduceTMod, Int.reduceTDiv]
      refine awake9.at ?_
      simp (disch := omega) only [go_sem, reduceIte, reduceDIte, reduceCtorEq, Nat.reduceBEq, Nat.reduceEqDiff, Nat.reduceAdd, Nat.reduceSub, Nat.reduceMul, Nat.reduceLT, Nat.reduceLeDiff, Nat.reduceBNe, Int.reduceNeg, Int.reduceAdd, Int.reduceSub, Int.reduceMul, Int.reduceLT, Int.reduceLE, Int.reduceGT, Int.reduceGE, Int.reduceEq, Int.reduceNe, Int.reduceToNat, Int.reduceTMod, Int.reduceTDiv]
    · rw [if_neg hz]
      simp (disch := omega) only [go_sem, reduceIte, reduceDIte, reduceCtorEq, Nat.reduceBEq, Nat.reduceEqDiff, Nat.reduceAdd, Nat.reduceSub, Nat.reduceMul, Nat.reduceLT, Nat.reduceLeDiff, Nat.reduceBNe, Int.reduceNeg, Int.reduceAdd, Int.reduceSub, Int.reduceMul, Int.reduceLT, Int.reduceLE, Int.reduceGT, Int.reduceGE, Int.reduceEq, Int.reduceNe, Int.reduceToNat, Int.reduceTMod, Int.reduceTDiv, parseA]
      refine PCall.at (r := .d (.int .i64 (chkR peM [ruleX s]))) hck ?_
      simp (disch := omega) only [go_sem, reduceIte, reduceDIte, reduceCtorEq, Nat.reduceBEq, Nat.reduceEqDiff, Nat.reduceAdd, Nat.reduceSub, Nat.reduceMul, Nat.reduceLT, Nat.reduceLeDiff, Nat.reduceBNe, Int.reduceNeg, Int.reduceAdd, Int.reduceSub, Int.reduceMul, Int.reduceLT, Int.reduceLE, Int.reduceGT, Int.reduceGE, Int.reduceEq, Int.reduceNe, Int.reduceToNat, Int.reduceTMod, Int.reduceTDiv, hz, listA]
      refine awake9.at ?_
      simp (disch := omega) only [go_sem, reduceIte, reduceDIte, reduceCtorEq, Nat.reduceBEq, Nat.reduceEqDiff, Nat.reduceAdd, Nat.reduceSub, Nat.reduceMul, Nat.reduceLT, Nat.reduceLeDiff, Nat.reduceBNe, Int.reduceNeg, Int.reduceAdd, Int.reduceSub, Int.reduceMul, Int.reduceLT, Int.reduceLE, Int.reduceGT, Int.reduceGE, Int.reduceEq, Int.reduceNe, Int.reduceToNat, Int.reduceTMod, Int.reduceTDiv]
end Go.Proofs.YtjgbdlaecpkmhaaGreatDoor
set_option linter.unusedVariables false
set_option linter.unusedSimpArgs false
set_option maxRecDepth 100000
namespace Go.Proofs.YtjgbdlaecpkmhaaGreatDoor
open Go Nv Rul

/- What comes in, as rules. -/
theorem int_td {n : Nat} {t : TypeId} {k : IntKind} {ds : List DV} (ht : Tryz.prog.underlying t = some (.int k)) (h : TD Tryz.prog n t ds) : ∃ z, ds = [.int k z] ∧ (Lit.int k z).wf = true := by
  cases n with
  | zero => exact h.elim
  | succ n => simp only [TD, ht] at h; exact h
theorem str_td {n : Nat} {t : TypeId} {ds : List DV} (ht : Tryz.prog.underlying t = some .string) (h : TD Tryz.prog n t ds) : ∃ s : List UInt8, ds = [.str s] ∧ s.length ≤ 9223372036854775807 := by
  cases n with
  | zero => exact h.elim
  | succ n => simp only [TD, ht] at h; obtain ⟨s, h, h2⟩ := h; exact ⟨s, h, by unfold maxLen at h2; omega⟩
theorem rows_with {α : Type} {Q : α → Prop} {f : α → DV} : ∀ {xs : List DV}, (∀ x, x ∈ xs → ∃ a, x = f a ∧ Q a) → ∃ l : List α, xs = l.map f ∧ ∀ a, a ∈ l → Q a
  | [], _ => ⟨[], rfl, by simp⟩
  | x :: xs, h => by
    obtain ⟨a, rfl, ha⟩ := h x (by simp)
    obtain ⟨l, rfl, hl⟩ := rows_with (xs := xs) fun y hy => h y (by simp [hy])
    exact ⟨a :: l, rfl, fun b hb => by
      rcases List.mem_cons.1 hb with rfl | hb
      · exact ha
      · exact hl b hb⟩
theorem rule_td {n : Nat} {cs : List DV} (h : TD Tryz.prog n 33 cs) : ∃ r : Rule, cs = (ruleD r).cells ∧ r.name.length ≤ 9223372036854775807 ∧ r.pat.length ≤ 9223372036854775807 := by
  cases n with
  | zero => exact h.elim
  | succ n =>
    simp only [TD, go_sem, List.mem_cons, List.not_mem_nil, or_false, forall_eq_or_imp, forall_eq] at h
    obtain ⟨hl, h0, h1, h2, h3, h4, h5⟩ := h
    match cs, hl with
    | [a, b, c, d, e, f], _ =>
      simp only [List.drop, List.take] at h0 h1 h2 h3 h4 h5
      obtain ⟨s0, e0, k0⟩ := str_td Tryz.underlying9 h0
      obtain ⟨s1, e1, k1⟩ := str_td Tryz.underlying9 h1
      obtain ⟨z2, e2, _⟩ := int_td Tryz.underlying3 h2
      obtain ⟨z3, e3, _⟩ := int_td Tryz.underlying3 h3
      obtain ⟨z4, e4, _⟩ := int_td Tryz.underlying3 h4
      obtain ⟨z5, e5, _⟩ := int_td Tryz.underlying3 h5
      simp only [List.cons.injEq, and_true] at e0 e1 e2 e3 e4 e5
      exact ⟨⟨s0, s1, z2, z3, z4, z5⟩, by rw [e0, e1, e2, e3, e4, e5]; rfl, k0, k1⟩
theorem rules_td {n : Nat} {ds : List DV} (h : TD Tryz.prog n 23 ds) : ∃ l : List Rule, ds = [rulesD l] ∧ Sized l := by
  cases n with
  | zero => exact h.elim
  | succ n =>
    simp only [TD, go_sem] at h
    obtain ⟨xs, rfl, _, hx⟩ := h
    obtain ⟨l, rfl, hq⟩ := rows_with (Q := fun r : Rule => r.name.length ≤ 9223372036854775807 ∧ r.pat.length ≤ 9223372036854775807) (f := ruleD) fun x hm => by
      obtain ⟨cs, rfl, hc⟩ := hx x hm
      obtain ⟨r, rfl, h1, h2⟩ := rule_td hc
      exact ⟨r, by rw [ruleD_cells]; simp only [ofCells, go_sem, ruleD], h1, h2⟩
    exact ⟨l, rfl, hq⟩
end Go.Proofs.YtjgbdlaecpkmhaaGreatDoor
