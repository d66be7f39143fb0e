/- Part of a proof about the functions of this seat. -/
import Derived.Test.YtjgbdlaecpkmhaaGreatDoorG23Nh34
import Derived.Test.YtjgbdlaecpkmhaaGreatDoorG21Na34
import Derived.Test.YtjgbdlaecpkmhaaGreatDoorG20Vu34
set_option linter.unusedVariables false
set_option linter.unusedSimpArgs false
set_option maxRecDepth 100000
namespace Go.Proofs.YtjgbdlaecpkmhaaGreatDoor
open Go Nv Rul

/- Texts joined. -/
theorem elems_list (l : List Rule) (σ : Nv.ST) : elems ⟨6, 33⟩ (listA l) σ = some (l.map ruleD) := by
  cases l with
  | nil => simp only [listA, go_sem, List.map_nil]
  | cons r l => simp only [listA, rulesD, go_sem]
theorem chk_small {l : List Rule} (h : chkR peM l = 0) : l.length ≤ 16 := by
  unfold chkR at h
  split at h
  · cases h
  · omega
theorem joins_law (s t : List UInt8) (hs : s.length ≤ 9223372036854775807) (ht : t.length ≤ 9223372036854775807) : PCall Tryz.prog 4 [.d (.str s), .d (.str t)] (.d (.bool true)) := by
  refine fn4.pure (fun i => if i = 47 then .freeze else .no) (Nat.le_refl _) (by simp only [go_sem]) (by simp only [go_sem]) ?_
  by_cases hl : 300 < s.length
  · have hl' : (300 : Int) < s.length := by omega
    simp (disch := omega) only [go_sem, reduceIte, reduceDIte, reduceCtorEq, Nat.reduceBEq, Nat.reduceEqDiff, Nat.reduceAdd, Nat.reduceSub, Nat.reduceMul, Nat.reduceLT, Nat.reduceLeDiff, Nat.reduceBNe, Int.reduceNeg, Int.reduceAdd, Int.reduceSub, Int.reduceMul, Int.reduceLT, Int.reduceLE, Int.reduceGT, Int.reduceGE, Int.reduceEq, Int.reduceNe, Int.reduceToNat, Int.reduceTMod, Int.reduceTDiv, hl']
    refine awake9.at ?_
    simp (disch := omega) only [go_sem, reduceIte, reduceDIte, reduceCtorEq, Nat.reduceBEq, Nat.reduceEqDiff, Nat.reduceAdd, Nat.reduceSub, Nat.reduceMul, Nat.reduceLT, Nat.reduceLeDiff, Nat.reduceBNe, Int.reduceNeg, Int.reduceAdd, Int.reduceSub, Int.reduceMul, Int.reduceLT, Int.reduceLE, Int.reduceGT, Int.reduceGE, Int.reduceEq, Int.reduceNe, Int.reduceToNat, Int.reduceTMod, Int.reduceTDiv]
  have hl' : ¬ (300 : Int) < s.length := by omega
  by_cases hm : 300 < t.length
  · have hm' : (300 : Int) < t.length := by omega
    simp (disch := omega) only [go_sem, reduceIte, reduceDIte, reduceCtorEq, Nat.reduceBEq, Nat.reduceEqDiff, Nat.reduceAdd, Nat.reduceSub, Nat.reduceMul, Nat.reduceLT, Nat.reduceLeDiff, Nat.reduceBNe, Int.reduceNeg, Int.reduceAdd, Int.reduceSub, Int.reduceMul, Int.reduceLT, Int.reduceLE, Int.reduceGT, Int.reduceGE, Int.reduceEq, Int.reduceNe, Int.reduceToNat, Int.reduceTMod, Int.reduceTDiv, hl', hm']
    refine awake9.at ?_
    simp (disch := omega) only [go_sem, reduceIte, reduceDIte, reduceCtorEq, Nat.reduceBEq, Nat.reduceEqDiff, Nat.reduceAdd, Nat.reduceSub, Nat.reduceMul, Nat.reduceLT, Nat.reduceLeDiff, Nat.reduceBNe, Int.reduceNeg, Int.reduceAdd, Int.reduceSub, Int.reduceMul, Int.reduceLT, Int.reduceLE, Int.reduceGT, Int.reduceGE, Int.reduceEq, Int.reduceNe, Int.reduceToNat, Int.reduceTMod, Int.reduceTDiv]
  have hm' : ¬ (300 : Int) < t.length := by omega
  have hok := proper_ok (pe := peM) s
  have hok2 := proper_ok (pe := peM) t
  have hj := joins_ok (pe := peM) (s := s) (t := t)
  have hsz := parse_sized (s := s) (by omega)
  have hsz2 := parse_sized (s := t) (by omega)
  have hp3 := parse10 (s ++ 10 :: t) (by simp; omega)
  simp (disch := omega) only [go_sem, reduceIte, reduceDIte, reduceCtorEq, Nat.reduceBEq, Nat.reduceEqDiff, Nat.reduceAdd, Nat.reduceSub, Nat.reduceMul, Nat.reduceLT, Nat.reduceLeDiff, Nat.reduceBNe, Int.reduceNeg, Int.reduceAdd, Int.reduceSub, Int.reduceMul, Int.reduceLT, Int.reduceLE, Int.reduceGT, Int.reduceGE, Int.reduceEq, Int.reduceNe, Int.reduceToNat, Int.reduceTMod, Int.reduceTDiv, hl', hm']
  refine (parse10 s (by omega)).at ?_
  simp (disch := omega) only [go_sem, reduceIte, reduceDIte, reduceCtorEq, Nat.reduceBEq, Nat.reduceEqDiff, Nat.reduceAdd, Nat.reduceSub, Nat.reduceMul, Nat.reduceLT, Nat.reduceLeDiff, Nat.reduceBNe, Int.reduceNeg, Int.reduceAdd, Int.reduceSub, Int.reduceMul, Int.reduceLT, Int.reduceLE, Int.reduceGT, Int.reduceGE, Int.reduceEq, Int.reduceNe, Int.reduceToNat, Int.reduceTMod, Int.reduceTDiv, parseA]
  refine (parse10 t (by omega)).at ?_
  rcases hx : parseT peM s with ⟨l, n, e⟩
  rcases hy : parseT peM t with ⟨m, n2, e2⟩
  rw [hx] at hok hsz
  rw [hy] at hok2 hsz2
  rw [hx, hy] at hj
  simp only at hok hsz hok2 hsz2 hj
  by_cases he : e = 0
  · by_cases he2 : e2 = 0
    · obtain ⟨_, hc⟩ := hok.1 he
      obtain ⟨_, hc2⟩ := hok2.1 he2
      have h16 := chk_small hc
      have h162 := chk_small hc2
      obtain ⟨hj1, hj2⟩ := hj he he2
      subst he he2
      simp (disch := omega) only [go_sem, reduceIte, reduceDIte, reduceCtorEq, Nat.reduceBEq, Nat.reduceEqDiff, Nat.reduceAdd, Nat.reduceSub, Nat.reduceMul, Nat.reduceLT, Nat.reduceLeDiff, Nat.reduceBNe, Int.reduceNeg, Int.reduceAdd, Int.reduceSub, Int.reduceMul, Int.reduceLT, Int.reduceLE, Int.reduceGT, Int.reduceGE, Int.reduceEq, Int.reduceNe, Int.reduceToNat, Int.reduceTMod, Int.reduceTDiv, parseA, elems_list, List.length_map, List.length_append]
      refine ⟨by omega, ?_⟩
      have htk : List.take (0 + l.length) (l.map ruleD) = l.map ruleD := List.take_of_length_le (by simp)
      have hle : 0 + (0 + l.length) ≤ l.length := by omega
      have hle2 : 0 + (l.length + m.length) ≤ l.length + m.length := by omega
      have htk2 : List.take (l.length + m.length) (l.map ruleD ++ m.map ruleD) = l.map ruleD ++ m.map ruleD := List.take_of_length_le (by simp)
      simp (disch := omega) only [go_sem, reduceIte, reduceDIte, reduceCtorEq, Nat.reduceBEq, Nat.reduceEqDiff, Nat.reduceAdd, Nat.reduceSub, Nat.reduceMul, Nat.reduceLT, Nat.reduceLeDiff, Nat.reduceBNe, Int.reduceNeg, Int.reduceAdd, Int.reduceSub, Int.reduceMul, Int.reduceLT, Int.reduceLE, Int.reduceGT, Int.reduceGE, Int.reduceEq, Int.reduceNe, Int.reduceToNat, Int.reduceTMod, Int.reduceTDiv, htk, hle, hle2, htk2, List.length_map, List.length_append]
      refine ⟨by omega, ?_⟩
      have hs2 : Sized (l ++ m) := fun r hr => by
        rcases List.mem_append.1 hr with h | h
        · exact hsz r h
        · exact hsz2 r h
      have el : DV.list 6 (l.map ruleD ++ m.map ruleD) = rulesD (l ++ m) := by rw [rulesD, List.map_append]
      have es : s ++ [10] ++ t = s ++ 10 :: t := by simp
      simp (disch := omega) only [go_sem, reduceIte, reduceDIte, reduceCtorEq, Nat.reduceBEq, Nat.reduceEqDiff, Nat.reduceAdd, Nat.reduceSub, Nat.reduceMul, Nat.reduceLT, Nat.reduceLeDiff, Nat.reduceBNe, Int.reduceNeg, Int.reduceAdd, Int.reduceSub, Int.reduceMul, Int.reduceLT, Int.reduceLE, Int.reduceGT, Int.reduceGE, Int.reduceEq, Int.reduceNe, Int.reduceToNat, Int.reduceTMod, Int.reduceTDiv, es]
      refine ⟨by omega, by omega, hp3.at ?_⟩
      by_cases hz : chkR peM (l ++ m) = 0
      · rw [hj1 hz]
        simp (disch := omega) only [go_sem, reduceIte, reduceDIte, reduceCtorEq, Nat.reduceBEq, Nat.reduceEqDiff, Nat.reduceAdd, Nat.reduceSub, Nat.reduceMul, Nat.reduceLT, Nat.reduceLeDiff, Nat.reduceBNe, Int.reduceNeg, Int.reduceAdd, Int.reduceSub, Int.reduceMul, Int.reduceLT, Int.reduceLE, Int.reduceGT, Int.reduceGE, Int.reduceEq, Int.reduceNe, Int.reduceToNat, Int.reduceTMod, Int.reduceTDiv, parseA, el]
        refine (checkA (.inl rfl) hs2).at ?_
        simp (disch := omega) only [go_sem, reduceIte, reduceDIte, reduceCtorEq, Nat.reduceBEq, Nat.reduceEqDiff, Nat.reduceAdd, Nat.reduceSub, Nat.reduceMul, Nat.reduceLT, Nat.reduceLeDiff, Nat.reduceBNe, Int.reduceNeg, Int.reduceAdd, Int.reduceSub, Int.reduceMul, Int.reduceLT, Int.reduceLE, Int.reduceGT, Int.reduceGE, Int.reduceEq, Int.reduceNe, Int.reduceToNat, Int.reduceTMod, Int.reduceTDiv, hz]
        have h := same13 (listA_is (l ++ m)) (.inl rfl : IsRules (.d (rulesD (l ++ m))) (l ++ m)) (by simp; omega)
        rw [decide_eq_true rfl] at h
        refine h.at ?_
        simp (disch := omega) only [go_sem, reduceIte, reduceDIte, reduceCtorEq, Nat.reduceBEq, Nat.reduceEqDiff, Nat.reduceAdd, Nat.reduceSub, Nat.reduceMul, Nat.reduceLT, Nat.reduceLeDiff, Nat.reduceBNe, Int.reduceNeg, Int.reduceAdd, Int.reduceSub, Int.reduceMul, Int.reduceLT, Int.reduceLE, Int.reduceGT, Int.reduceGE, Int.reduceEq, Int.reduceNe, Int.reduceToNat, Int.reduceTMod, Int.reduceTDiv]
        refine awake9.at ?_
        simp (disch := omega) only [go_sem, reduceIte, reduceDIte, reduceCtorEq, Nat.reduceBEq, Nat.reduceEqDiff, Nat.reduceAdd, Nat.reduceSub, Nat.reduceMul, Nat.reduceLT, Nat.reduceLeDiff, Nat.reduceBNe, Int.reduceNeg, Int.reduceAdd, Int.reduceSub, Int.reduceMul, Int.reduceLT, Int.reduceLE, Int.reduceGT, Int.reduceGE, Int.reduceEq, Int.reduceNe, Int.reduceToNat, Int.reduceTMod, Int.reduceTDiv]
      · have hne := hj2 hz
        rcases hxy : parseT peM (s ++ 10 :: t) with ⟨l3, n3, e3⟩
        rw [hxy] at hne
        simp only at hne
        simp (disch := omega) only [go_sem, reduceIte, reduceDIte, reduceCtorEq, Nat.reduceBEq, Nat.reduceEqDiff, Nat.reduceAdd, Nat.reduceSub, Nat.reduceMul, Nat.reduceLT, Nat.reduceLeDiff, Nat.reduceBNe, Int.reduceNeg, Int.reduceAdd, Int.reduceSub, Int.reduceMul, Int.reduceLT, Int.reduceLE, Int.reduceGT, Int.reduceGE, Int.reduceEq, Int.reduceNe, Int.reduceToNat, Int.reduceTMod, Int.reduceTDiv, parseA, el]
        refine (checkA (.inl rfl) hs2).at ?_
        simp (disch := omega) only [go_sem, reduceIte, reduceDIte, reduceCtorEq, Nat.reduceBEq, Nat.reduceEqDiff, Nat.reduceAdd, Nat.reduceSub, Nat.reduceMul, Nat.reduceLT, Nat.reduceLeDiff, Nat.reduceBNe, Int.reduceNeg, Int.reduceAdd, Int.reduceSub, Int.reduceMul, Int.reduceLT, Int.reduceLE, Int.reduceGT, Int.reduceGE, Int.reduceEq, Int.reduceNe, Int.reduceToNat, Int.reduceTMod, Int.reduceTDiv, hz, hne]
        refine awake9.at ?_
        simp (disch := omega) only [go_sem, reduceIte, reduceDIte, reduceCtorEq, Nat.reduceBEq, Nat.reduceEqDiff, Nat.reduceAdd, Nat.reduceSub, Nat.reduceMul, Nat.reduceLT, Nat.reduceLeDiff, Nat.reduceBNe, Int.reduceNeg, Int.reduceAdd, Int.reduceSub, Int.reduceMul, Int.reduceLT, Int.reduceLE, Int.reduceGT, Int.reduceGE, Int.reduceEq, Int.reduceNe, Int.reduceToNat, Int.reduceTMod, Int.reduceTDiv]
    · simp (disch := omega) only [go_sem, reduceIte, reduceDIte, reduceCtorEq, Nat.reduceBEq, Nat.reduceEqDiff, Nat.reduceAdd, Nat.reduceSub, Nat.reduceMul, Nat.reduceLT, Nat.reduceLeDiff, Nat.reduceBNe, Int.reduceNeg, Int.reduceAdd, Int.reduceSub, Int.reduceMul, Int.reduceLT, Int.reduceLE, Int.reduceGT, Int.reduceGE, Int.reduceEq, Int.reduceNe, Int.reduceToNat, Int.reduceTMod, Int.reduceTDiv, parseA, he, he2]
      refine awake9.at ?_
      simp (disch := omega) only [go_sem, reduceIte, reduceDIte, reduceCtorEq, Nat.reduceBEq, Nat.reduceEqDiff, Nat.reduceAdd, Nat.reduceSub, Nat.reduceMul, Nat.reduceLT, Nat.reduceLeDiff, Nat.reduceBNe, Int.reduceNeg, Int.reduceAdd, Int.reduceSub, Int.reduceMul, Int.reduceLT, Int.reduceLE, Int.reduceGT, Int.reduceGE, Int.reduceEq, Int.reduceNe, Int.reduceToNat, Int.reduceTMod, Int.reduceTDiv]
  · simp (disch := omega) only [go_sem, reduceIte, reduceDIte, reduceCtorEq, Nat.reduceBEq, Nat.reduceEqDiff, Nat.reduceAdd, Nat.reduceSub, Nat.reduceMul, Nat.reduceLT, Nat.reduceLeDiff, Nat.reduceBNe, Int.reduceNeg, Int.reduceAdd, Int.reduceSub, Int.reduceMul, Int.reduceLT, Int.reduceLE, Int.reduceGT, Int.reduceGE, Int.reduceEq, Int.reduceNe, Int.reduceToNat, Int.reduceTMod, Int.reduceTDiv, parseA, he]
    refine awake9.at ?_
    simp (disch := omega) only [go_sem, reduceIte, reduceDIte, reduceCtorEq, Nat.reduceBEq, Nat.reduceEqDiff, Nat.reduceAdd, Nat.reduceSub, Nat.reduceMul, Nat.reduceLT, Nat.reduceLeDiff, Nat.reduceBNe, Int.reduceNeg, Int.reduceAdd, Int.reduceSub, Int.reduceMul, Int.reduceLT, Int.reduceLE, Int.reduceGT, Int.reduceGE, Int.reduceEq, Int.reduceNe, Int.reduceToNat, Int.reduceTMod, Int.reduceTDiv]
end Go.Proofs.YtjgbdlaecpkmhaaGreatDoor
set_option linter.unusedVariables false
set_option linter.unusedSimpArgs false
set_option maxRecDepth 100000
namespace Go.Proofs.YtjgbdlaecpkmhaaGreatDoor
open Go Nv Rul

/- What comes in, as rules. -/
theorem int_td {n : Nat} {t : TypeId} {k : IntKind} {ds : List DV} (ht : Tryz.prog.underlying t = some (.int k)) (h : TD Tryz.prog n t ds) : ∃ z, ds = [.int k z] ∧ (Lit.int k z).wf = true := by
  cases n with
  | zero => exact h.elim
  | succ n => simp only [TD, ht] at h; exact h
theorem str_td {n : Nat} {t : TypeId} {ds : List DV} (ht : Tryz.prog.underlying t = some .string) (h : TD Tryz.prog n t ds) : ∃ s : List UInt8, ds = [.str s] ∧ s.length ≤ 9223372036854775807 := by
  cases n with
  | zero => exact h.elim
  | succ n => simp only [TD, ht] at h; obtain ⟨s, h, h2⟩ := h; exact ⟨s, h, by unfold maxLen at h2; omega⟩
theorem rows_with {α : Type} {Q : α → Prop} {f : α → DV} : ∀ {xs : List DV}, (∀ x, x ∈ xs → ∃ a, x = f a ∧ Q a) → ∃ l : List α, xs = l.map f ∧ ∀ a, a ∈ l → Q a
  | [], _ => ⟨[], rfl, by simp⟩
  | x :: xs, h => by
    obtain ⟨a, rfl, ha⟩ := h x (by simp)
    obtain ⟨l, rfl, hl⟩ := rows_with (xs := xs) fun y hy => h y (by simp [hy])
    exact ⟨a :: l, rfl, fun b hb => by
      rcases List.mem_cons.1 hb with rfl | hb
      · exact ha
      · exact hl b hb⟩
theorem rule_td {n : Nat} {cs : List DV} (h : TD Tryz.prog n 33 cs) : ∃ r : Rule, cs = (ruleD r).cells ∧ r.name.length ≤ 9223372036854775807 ∧ r.pat.length ≤ 9223372036854775807 := by
  cases n with
  | zero => exact h.elim
  | succ n =>
    simp only [TD, go_sem, List.mem_cons, List.not_mem_nil, or_false, forall_eq_or_imp, forall_eq] at h
    obtain ⟨hl, h0, h1, h2, h3, h4, h5⟩ := h
    match cs, hl with
    | [a, b, c, d, e, f], _ =>
      simp only [List.drop, List.take] at h0 h1 h2 h3 h4 h5
      obtain ⟨s0, e0, k0⟩ := str_td Tryz.underlying9 h0
      obtain ⟨s1, e1, k1⟩ := str_td Tryz.underlying9 h1
      obtain ⟨z2, e2, _⟩ := int_td Tryz.underlying3 h2
      obtain ⟨z3, e3, _⟩ := int_td Tryz.underlying3 h3
      obtain ⟨z4, e4, _⟩ := int_td Tryz.underlying3 h4
      obtain ⟨z5, e5, _⟩ := int_td Tryz.underlying3 h5
      simp only [List.cons.injEq, and_true] at e0 e1 e2 e3 e4 e5
      exact ⟨⟨s0, s1, z2, z3, z4, z5⟩, by rw [e0, e1, e2, e3, e4, e5]; rfl, k0, k1⟩
theorem rules_td {n : Nat} {ds : List DV} (h : TD Tryz.prog n 23 ds) : ∃ l : List Rule, ds = [rulesD l] ∧ Sized l := by
  cases n with
  | zero => exact h.elim
  | succ n =>
    simp only [TD, go_sem] at h
    obtain ⟨xs, rfl, _, hx⟩ := h
    obtain ⟨l, rfl, hq⟩ := rows_with (Q := fun r : Rule => r.name.length ≤ 9223372036854775807 ∧ r.pat.length ≤ 9223372036854775807) (f := ruleD) fun x hm => by
      obtain ⟨cs, rfl, hc⟩ := hx x hm
      obtain ⟨r, rfl, h1, h2⟩ := rule_td hc
      exact ⟨r, by rw [ruleD_cells]; simp only [ofCells, go_sem, ruleD], h1, h2⟩
    exact ⟨l, rfl, hq⟩
end Go.Proofs.YtjgbdlaecpkmhaaGreatDoor
