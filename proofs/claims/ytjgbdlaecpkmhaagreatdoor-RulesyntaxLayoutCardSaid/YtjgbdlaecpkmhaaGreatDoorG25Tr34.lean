/- Part of a proof about the functions of this seat. -/
import Derived.Test.YtjgbdlaecpkmhaaGreatDoorG24Nh34
import Derived.Test.YtjgbdlaecpkmhaaGreatDoorG11Rsz
import Derived.Test.YtjgbdlaecpkmhaaGreatDoorG13Bx34
import Derived.Test.YtjgbdlaecpkmhaaGreatDoorG12Rst
import Derived.Test.YtjgbdlaecpkmhaaGreatDoorG22Na34
import Derived.Test.YtjgbdlaecpkmhaaGreatDoorG21Vu34
set_option linter.unusedVariables false
set_option linter.unusedSimpArgs false
set_option maxRecDepth 100000
namespace Go.Proofs.YtjgbdlaecpkmhaaGreatDoor
open Go Nv Rul

/- Texts joined. -/
theorem elems_list (l : List Rule) (σ : Nv.ST) : elems ⟨6, 33⟩ (listA l) σ = some (l.map ruleD) := by
  cases l with
  | nil => simp only [listA, go_sem, List.map_nil]
  | cons r l => simp only [listA, rulesD, go_sem]
theorem chk_small {l : List Rule} (h : chkR peM l = 0) : l.length ≤ 16 := by
  unfold chkR at h
  split at h
  · cases h
  · omega
theorem joins_law (s t : List UInt8) (hs : s.length ≤ 9223372036854775807) (ht : t.length ≤ 9223372036854775807) : PCall Tryz.prog 4 [.d (.str s), .d (.str t)] (.d (.bool true)) := by
  refine fn4.pure (fun i => if i = 47 then .freeze else .no) (Nat.le_refl _) (by simp only [go_sem]) (by simp only [go_sem]) ?_
  by_cases hl : 300 < s.length
  · have hl' : (300 : Int) < s.length := by omega
    simp (disch := omega) only [go_sem, reduceIte, reduceDIte, reduceCtorEq, Nat.reduceBEq, Nat.reduceEqDiff, Nat.reduceAdd, Nat.reduceSub, Nat.reduceMul, Nat.reduceLT, Nat.reduceLeDiff, Nat.reduceBNe, Int.reduceNeg, Int.reduceAdd, Int.reduceSub, Int.reduceMul, Int.reduceLT, Int.reduceLE, Int.reduceGT, Int.reduceGE, Int.reduceEq, Int.reduceNe, Int.reduceToNat, Int.reduceTMod, Int.reduceTDiv, hl']
    refine awake9.at ?_
    simp (disch := omega) only [go_sem, reduceIte, reduceDIte, reduceCtorEq, Nat.reduceBEq, Nat.reduceEqDiff, Nat.reduceAdd, Nat.reduceSub, Nat.reduceMul, Nat.reduceLT, Nat.reduceLeDiff, Nat.reduceBNe, Int.reduceNeg, Int.reduceAdd, Int.reduceSub, Int.reduceMul, Int.reduceLT, Int.reduceLE, Int.reduceGT, Int.reduceGE, Int.reduceEq, Int.reduceNe, Int.reduceToNat, Int.reduceTMod, Int.reduceTDiv]
  have hl' : ¬ (300 : Int) < s.length := by omega
  by_cases hm : 300 < t.length
  · have hm' : (300 : Int) < t.length := by omega
    simp (disch := omega) only [go_sem, reduceIte, reduceDIte, reduceCtorEq, Nat.reduceBEq, Nat.reduceEqDiff, Nat.reduceAdd, Nat.reduceSub, Nat.reduceMul, Nat.reduceLT, Nat.reduceLeDiff, Nat.reduceBNe, Int.reduceNeg, Int.reduceAdd, Int.reduceSub, Int.reduceMul, Int.reduceLT, Int.reduceLE, Int.reduceGT, Int.reduceGE, Int.reduceEq, Int.reduceNe, Int.reduceToNat, Int.reduceTMod, Int.reduceTDiv, hl', hm']
    refine awake9.at ?_
    simp (disch := omega) only [go_sem, reduceIte, reduceDIte, reduceCtorEq, Nat.reduceBEq, Nat.reduceEqDiff, Nat.reduceAdd, Nat.reduceSub, Nat.reduceMul, Nat.reduceLT, Nat.reduceLeDiff, Nat.reduceBNe, Int.reduceNeg, Int.reduceAdd, Int.reduceSub, Int.reduceMul, Int.reduceLT, Int.reduceLE, Int.reduceGT, Int.reduceGE, Int.reduceEq, Int.reduceNe, Int.reduceToNat, Int.reduceTMod, Int.reduceTDiv]
  have hm' : ¬ (300 : Int) < t.length := by omega
  have hok := proper_ok (pe := peM) s
  have hok2 := proper_ok (pe := peM) t
  have hj := joins_ok (pe := peM) (s := s) (t := t)
  have hsz := parse_sized (s := s) (by omega)
  have hsz2 := parse_sized (s := t) (by omega)
  have hp3 := parse10 (s ++ 10 :: t) (by simp; omega)
  simp (disch := omega) only [go_sem, reduceIte, reduceDIte, reduceCtorEq, Nat.reduceBEq, Nat.reduceEqDiff, Nat.reduceAdd, Nat.reduceSub, Nat.reduceMul, Nat.reduceLT, Nat.reduceLeDiff, Nat.reduceBNe, Int.reduceNeg, Int.reduceAdd, Int.reduceSub, Int.reduceMul, Int.reduceLT, Int.reduceLE, Int.reduceGT, Int.reduceGE, Int.reduceEq, Int.reduceNe, Int.reduceToNat, Int.reduceTMod, Int.reduceTDiv, hl', hm']
  refine (parse10 s (by omega)).at ?_
  simp (disch := omega) only [go_sem, reduceIte, reduceDIte, reduceCtorEq, Nat.reduceBEq, Nat.reduceEqDiff, Nat.reduceAdd, Nat.reduceSub, Nat.reduceMul, Nat.reduceLT, Nat.reduceLeDiff, Nat.reduceBNe, Int.reduceNeg, Int.reduceAdd, Int.reduceSub, Int.reduceMul, Int.reduceLT, Int.reduceLE, Int.reduceGT, Int.reduceGE, Int.reduceEq, Int.reduceNe, Int.reduceToNat, Int.reduceTMod, Int.reduceTDiv, parseA]
  refine (parse10 t (by omega)).at ?_
  rcases hx : parseT peM s with ⟨l, n, e⟩
  rcases hy : parseT peM t with ⟨m, n2, e2⟩
  rw [hx] at hok hsz
  rw [hy] at hok2 hsz2
  rw [hx, hy] at hj
  simp only at hok hsz hok2 hsz2 hj
  by_cases he : e = 0
  · by_cases he2 : e2 = 0
    · obtain ⟨_, hc⟩ := hok.1 he
      obtain ⟨_, hc2⟩ := hok2.1 he2
      have h16 := chk_small hc
      have h162 := chk_small hc2
      obtain ⟨hj1, hj2⟩ := hj he he2
      subst he he2
      simp (disch := omega) only [go_sem, reduceIte, reduceDIte, reduceCtorEq, Nat.reduceBEq, Nat.reduceEqDiff, Nat.reduceAdd, Nat.reduceSub, Nat.reduceMul, Nat.reduceLT, Nat.reduceLeDiff, Nat.reduceBNe, Int.reduceNeg, Int.reduceAdd, Int.reduceSub, Int.reduceMul, Int.reduceLT, Int.reduceLE, Int.reduceGT, Int.reduceGE, Int.reduceEq, Int.reduceNe, Int.reduceToNat, Int.reduceTMod, Int.reduceTDiv, parseA, elems_list, List.length_map, List.length_append]
      refine ⟨by omega, ?_⟩
      have htk : List.take (0 + l.length) (l.map ruleD) = l.map ruleD := List.take_of_length_le (by simp)
      have hle : 0 + (0 + l.length) ≤ l.length := by omega
      have hle2 : 0 + (l.length + m.length) ≤ l.length + m.length := by omega
      have htk2 : List.take (l.length + m.length) (l.map ruleD ++ m.map ruleD) = l.map ruleD ++ m.map ruleD := List.take_of_length_le (by simp)
      simp (disch := omega) only [go_sem, reduceIte, reduceDIte, reduceCtorEq, Nat.reduceBEq, Nat.reduceEqDiff, Nat.reduceAdd, Nat.reduceSub, Nat.reduceMul, Nat.reduceLT, Nat.reduceLeDiff, Nat.reduceBNe, Int.reduceNeg, Int.reduceAdd, Int.reduceSub, Int.reduceMul, Int.reduceLT, Int.reduceLE, Int.reduceGT, Int.reduceGE, Int.reduceEq, Int.reduceNe, Int.reduceToNat, Int.reduceTMod, Int.reduceTDiv, htk, hle, hle2, htk2, List.length_map, List.length_append]
      refine ⟨by omega, ?_⟩
      have hs2 : Sized (l ++ m) := fun r hr => by
        rcases List.mem_append.1 hr with h | h
        · exact hsz r h
        · exact hsz2 r h
      have el : DV.list 6 (l.map ruleD ++ m.map ruleD) = rulesD (l ++ m) := by rw [rulesD, List.map_append]
      have es : s ++ [10] ++ t = s ++ 10 :: t := by simp
      simp (disch := omega) only [go_sem, reduceIte, reduceDIte, reduceCtorEq, Nat.reduceBEq, Nat.reduceEqDiff, Nat.reduceAdd, Nat.reduceSub, Nat.reduceMul, Nat.reduceLT, Nat.reduceLeDiff, Nat.reduceBNe, Int.reduceNeg, Int.reduceAdd, Int.reduceSub, Int.reduceMul, Int.reduceLT, Int.reduceLE, Int.reduceGT, Int.reduceGE, Int.reduceEq, Int.reduceNe, Int.reduceToNat, Int.reduceTMod, Int.reduceTDiv, es]
      refine ⟨by omega, by omega, hp3.at ?_⟩
      by_cases hz : chkR peM (l ++ m) = 0
      · rw [hj1 hz]
        simp (disch := omega) only [go_sem, reduceIte, reduceDIte, reduceCtorEq, Nat.reduceBEq, Nat.reduceEqDiff, Nat.reduceAdd, Nat.reduceSub, Nat.reduceMul, Nat.reduceLT, Nat.reduceLeDiff, Nat.reduceBNe, Int.reduceNeg, Int.reduceAdd, Int.reduceSub, Int.reduceMul, Int.reduceLT, Int.reduceLE, Int.reduceGT, Int.reduceGE, Int.reduceEq, Int.reduceNe, Int.reduceToNat, Int.reduceTMod, Int.reduceTDiv, parseA, el]
        refine (checkA (.inl rfl) hs2).at ?_
        simp (disch := omega) only [go_sem, reduceIte, reduceDIte, reduceCtorEq, Nat.reduceBEq, Nat.reduceEqDiff, Nat.reduceAdd, Nat.reduceSub, Nat.reduceMul, Nat.reduceLT, Nat.reduceLeDiff, Nat.reduceBNe, Int.reduceNeg, Int.reduceAdd, Int.reduceSub, Int.reduceMul, Int.reduceLT, Int.reduceLE, Int.reduceGT, Int.reduceGE, Int.reduceEq, Int.reduceNe, Int.reduceToNat, Int.reduceTMod, Int.reduceTDiv, hz]
        have h := same13 (listA_is (l ++ m)) (.inl rfl : IsRules (.d (rulesD (l ++ m))) (l ++ m)) (by simp; omega)
        rw [decide_eq_true rfl] at h
        refine h.at ?_
        simp (disch := omega) only [go_sem, reduceIte, reduceDIte, reduceCtorEq, Nat.reduceBEq, Nat.reduceEqDiff, Nat.reduceAdd, Nat.reduceSub, Nat.reduceMul, Nat.reduceLT, Nat.reduceLeDiff, Nat.reduceBNe, Int.reduceNeg, Int.reduceAdd, Int.reduceSub, Int.reduceMul, Int.reduceLT, Int.reduceLE, Int.reduceGT, Int.reduceGE, Int.reduceEq, Int.reduceNe, Int.reduceToNat, Int.reduceTMod, Int.reduceTDiv]
        refine awake9.at ?_
        simp (disch := omega) only [go_sem, reduceIte, reduceDIte, reduceCtorEq, Nat.reduceBEq, Nat.reduceEqDiff, Nat.reduceAdd, Nat.reduceSub, Nat.reduceMul, Nat.reduceLT, Nat.reduceLeDiff, Nat.reduceBNe, Int.reduceNeg, Int.reduceAdd, Int.reduceSub, Int.reduceMul, Int.reduceLT, Int.reduceLE, Int.reduceGT, Int.reduceGE, Int.reduceEq, Int.reduceNe, Int.reduceToNat, Int.reduceTMod, Int.reduceTDiv]
      · have hne := hj2 hz
        rcases hxy : parseT peM (s ++ 10 :: t) with ⟨l3, n3, e3⟩
        rw [hxy] at hne
        simp only at hne
        simp (disch := omega) only [go_sem, reduceIte, reduceDIte, reduceCtorEq, Nat.reduceBEq, Nat.reduceEqDiff, Nat.reduceAdd, Nat.reduceSub, Nat.reduceMul, Nat.reduceLT, Nat.reduceLeDiff, Nat.reduceBNe, Int.reduceNeg, Int.reduceAdd, Int.reduceSub, Int.reduceMul, Int.reduceLT, Int.reduceLE, Int.reduceGT, Int.reduceGE, Int.reduceEq, Int.reduceNe, Int.reduceToNat, Int.reduceTMod, Int.reduceTDiv, parseA, el]
        refine (checkA (.inl rfl) hs2).at ?_
        simp (disch := omega) only [go_sem, reduceIte, reduceDIte, reduceCtorEq, Nat.reduceBEq, Nat.reduceEqDiff, Nat.reduceAdd, Nat.reduceSub, Nat.reduceMul, Nat.reduceLT, Nat.reduceLeDiff, Nat.reduceBNe, Int.reduceNeg, Int.reduceAdd, Int.reduceSub, Int.reduceMul, Int.reduceLT, Int.reduceLE, Int.reduceGT, Int.reduceGE, Int.reduceEq, Int.reduceNe, Int.reduceToNat, Int.reduceTMod, Int.reduceTDiv, hz, hne]
        refine awake9.at ?_
        simp (disch := omega) only [go_sem, reduceIte, reduceDIte, reduceCtorEq, Nat.reduceBEq, Nat.reduceEqDiff, Nat.reduceAdd, Nat.reduceSub, Nat.reduceMul, Nat.reduceLT, Nat.reduceLeDiff, Nat.reduceBNe, Int.reduceNeg, Int.reduceAdd, Int.reduceSub, Int.reduceMul, Int.reduceLT, Int.reduceLE, Int.reduceGT, Int.reduceGE, Int.reduceEq, Int.reduceNe, Int.reduceToNat, Int.reduceTMod, Int.reduceTDiv]
    · simp (disch := omega) only [go_sem, reduceIte, reduceDIte, reduceCtorEq, Nat.reduceBEq, Nat.reduceEqDiff, Nat.reduceAdd, Nat.reduceSub, Nat.reduceMul, Nat.reduceLT, Nat.reduceLeDiff, Nat.reduceBNe, Int.reduceNeg, Int.reduceAdd, Int.reduceSub, Int.reduceMul, Int.reduceLT, Int.reduceLE, Int.reduceGT, Int.reduceGE, Int.reduceEq, Int.reduceNe, Int.reduceToNat, Int.reduceTMod, Int.reduceTDiv, parseA, he, he2]
      refine awake9.at ?_
      simp (disch := omega) only [go_sem, reduceIte, reduceDIte, reduceCtorEq, Nat.reduceBEq, Nat.reduceEqDiff, Nat.reduceAdd, Nat.reduceSub, Nat.reduceMul, Nat.reduceLT, Nat.reduceLeDiff, Nat.reduceBNe, Int.reduceNeg, Int.reduceAdd, Int.reduceSub, Int.reduceMul, Int.reduceLT, Int.reduceLE, Int.reduceGT, Int.reduceGE, Int.reduceEq, Int.reduceNe, Int.reduceToNat, Int.reduceTMod, Int.reduceTDiv]
  · simp (disch := omega) only [go_sem, reduceIte, reduceDIte, reduceCtorEq, Nat.reduceBEq, Nat.reduceEqDiff, Nat.reduceAdd, Nat.reduceSub, Nat.reduceMul, Nat.reduceLT, Nat.reduceLeDiff, Nat.reduceBNe, Int.reduceNeg, Int.reduceAdd, Int.reduceSub, Int.reduceMul, Int.reduceLT, Int.reduceLE, Int.reduceGT, Int.reduceGE, Int.reduceEq, Int.reduceNe, Int.reduceToNat, Int.reduceTMod, Int.reduceTDiv, parseA, he]
    refine awake9.at ?_
    simp (disch := omega) only [go_sem, reduceIte, reduceDIte, reduceCtorEq, Nat.reduceBEq, Nat.reduceEqDiff, Nat.reduceAdd, Nat.reduceSub, Nat.reduceMul, Nat.reduceLT, Nat.reduceLeDiff, Nat.reduceBNe, Int.reduceNeg, Int.reduceAdd, Int.reduceSub, Int.reduceMul, Int.reduceLT, Int.reduceLE, Int.reduceGT, Int.reduceGE, Int.reduceEq, Int.reduceNe, Int.reduceToNat, Int.reduceTMod, Int.reduceTDiv]
end Go.Proofs.YtjgbdlaecpkmhaaGreatDoor
set_option linter.unusedVariables false
set_option linter.unusedSimpArgs false
set_option maxRecDepth 100000
namespace Go.Proofs.YtjgbdlaecpkmhaaGreatDoor
open Go Nv Rul

/- Layout. -/
theorem repl_len : ∀ s : List UInt8, (repl s).length ≤ 3 * s.length
  | [] => by simp [repl]
  | c :: s => by
    have := repl_len s
    show ((if c = 32 then [32, 32, 32] else [c]) ++ repl s).length ≤ _
    rw [List.length_append, List.length_cons]
    split
    · simp; omega
    · simp; omega
theorem cut_total (s : List UInt8) : (cutAt 34 s).1.length + (cutAt 34 s).2.1.length ≤ s.length := by
  have := congrArg List.length (cut_as 34 s)
  cases hb : (cutAt 34 s).2.2
  · rw [hb] at this
    have h2 := cut_rest_false 34 s hb
    rw [h2]
    simp only [Bool.false_eq_true, if_false] at this
    simp only [List.length_nil]; omega
  · rw [hb] at this
    simp only [if_true, List.length_append, List.length_cons] at this
    omega
theorem wideLine_len (s : List UInt8) : (wideLine s).length ≤ 3 * s.length + 5 := by
  have h1 := cut_total s
  have h2 := repl_len (cutAt 34 s).1
  unfold wideLine
  rw [List.length_append, List.length_append]
  split
  · simp only [List.length_cons, List.length_append, List.length_nil]; omega
  · simp only [List.length_cons, List.length_nil]; omega
theorem wide_len (c : List UInt8) : ∀ ls : List (List UInt8), (wideOf c ls).length ≤ 3 * (ls.map List.length).sum + ls.length * (c.length + 11)
  | [] => by simp [wideOf]
  | x :: ls => by
    have h1 := wide_len c ls
    have h2 := wideLine_len x
    show ((remark c ++ [10, 10] ++ wideLine x ++ [10]) ++ wideOf c ls).length ≤ _
    simp only [remark, List.length_append, List.length_cons, List.length_nil, List.map_cons, List.sum_cons, Nat.add_mul]
    omega
theorem lines_sum : ∀ s : List UInt8, ((linesOf s).map List.length).sum ≤ s.length
  | [] => by simp [linesOf]
  | c :: s => by
    have ih := lines_sum s
    have hne := lines_ne s
    rw [linesOf]
    split
    · simp only [List.map_cons, List.sum_cons, List.length_nil, List.length_cons]; omega
    · cases hl : linesOf s with
      | nil => exact absurd hl hne
      | cons y ys =>
        rw [hl] at ih
        simp only [List.map_cons, List.sum_cons, List.headD_cons, List.tail_cons, List.length_cons] at ih ⊢; omega
theorem wide_take (c : List UInt8) (ls : List (List UInt8)) (j : Nat) : (wideOf c (ls.take j)).length ≤ (wideOf c ls).length := by
  have e : wideOf c ls = wideOf c (ls.take j) ++ wideOf c (ls.drop j) := by
    unfold wideOf; rw [← List.flatMap_append, List.take_append_drop]
  rw [e, List.length_append]; omega
theorem wide_succ (c : List UInt8) {ls : List (List UInt8)} {j : Nat} (h : j < ls.length) : wideOf c (ls.take (j + 1)) = wideOf c (ls.take j) ++ (remark c ++ [10, 10] ++ wideLine (ls.getD j []) ++ [10]) := by
  have e : ls.getD j [] = ls[j] := by simp [List.getD_eq_getElem?_getD, h]
  rw [List.take_succ_eq_append_getElem h, e]
  unfold wideOf
  rw [List.flatMap_append, List.flatMap_singleton]
theorem layout_law (s c : List UInt8) (hs : s.length ≤ 9223372036854775807) (hc : c.length ≤ 9223372036854775807) : PCall Tryz.prog 8 [.d (.str s), .d (.str c)] (.d (.bool true)) := by
  refine fn8.pure noHint (Nat.le_refl _) (by simp only [go_sem]) (by simp only [go_sem]) ?_
  by_cases hl : 600 < s.length
  · have hl' : (600 : Int) < s.length := by omega
    simp (disch := omega) only [go_sem, reduceIte, reduceDIte, reduceCtorEq, Nat.reduceBEq, Nat.reduceEqDiff, Nat.reduceAdd, Nat.reduceSub, Nat.reduceMul, Nat.reduceLT, Nat.reduceLeDiff, Nat.reduceBNe, Int.reduceNeg, Int.reduceAdd, Int.reduceSub, Int.reduceMul, Int.reduceLT, Int.reduceLE, Int.reduceGT, Int.reduceGE, Int.reduceEq, Int.reduceNe, Int.reduceToNat, Int.reduceTMod, Int.reduceTDiv, hl']
    refine awake9.at ?_
    simp (disch := omega) only [go_sem, reduceIte, reduceDIte, reduceCtorEq, Nat.reduceBEq, Nat.reduceEqDiff, Nat.reduceAdd, Nat.reduceSub, Nat.reduceMul, Nat.reduceLT, Nat.reduceLeDiff, Nat.reduceBNe, Int.reduceNeg, Int.reduceAdd, Int.reduceSub, Int.reduceMul, Int.reduceLT, Int.reduceLE, Int.reduceGT, Int.reduceGE, Int.reduceEq, Int.reduceNe, Int.reduceToNat, Int.reduceTMod, Int.reduceTDiv]
  have hl' : ¬ (600 : Int) < s.length := by omega
  by_cases hm : 50 < c.length
  · have hm' : (50 : Int) < c.length := by omega
    simp (disch := omega) only [go_sem, reduceIte, reduceDIte, reduceCtorEq, Nat.reduceBEq, Nat.reduceEqDiff, Nat.reduceAdd, Nat.reduceSub, Nat.reduceMul, Nat.reduceLT, Nat.reduceLeDiff, Nat.reduceBNe, Int.reduceNeg, Int.reduceAdd, Int.reduceSub, Int.reduceMul, Int.reduceLT, Int.reduceLE, Int.reduceGT, Int.reduceGE, Int.reduceEq, Int.reduceNe, Int.reduceToNat, Int.reduceTMod, Int.reduceTDiv, hl', hm']
    refine awake9.at ?_
    simp (disch := omega) only [go_sem, reduceIte, reduceDIte, reduceCtorEq, Nat.reduceBEq, Nat.reduceEqDiff, Nat.reduceAdd, Nat.reduceSub, Nat.reduceMul, Nat.reduceLT, Nat.reduceLeDiff, Nat.reduceBNe, Int.reduceNeg, Int.reduceAdd, Int.reduceSub, Int.reduceMul, Int.reduceLT, Int.reduceLE, Int.reduceGT, Int.reduceGE, Int.reduceEq, Int.reduceNe, Int.reduceToNat, Int.reduceTMod, Int.reduceTDiv]
  have hm' : ¬ (50 : Int) < c.length := by omega
  simp (disch := omega) only [go_sem, reduceIte, reduceDIte, reduceCtorEq, Nat.reduceBEq, Nat.reduceEqDiff, Nat.reduceAdd, Nat.reduceSub, Nat.reduceMul, Nat.reduceLT, Nat.reduceLeDiff, Nat.reduceBNe, Int.reduceNeg, Int.reduceAdd, Int.reduceSub, Int.reduceMul, Int.reduceLT, Int.reduceLE, Int.reduceGT, Int.reduceGE, Int.reduceEq, Int.reduceNe, Int.reduceToNat, Int.reduceTMod, Int.reduceTDiv, hl', hm']
  refine (contains_one c 10).at ?_
  by_cases hq : 0 ≤ Lib.indexByte c 10
  · simp (disch := omega) only [go_sem, reduceIte, reduceDIte, reduceCtorEq, Nat.reduceBEq, Nat.reduceEqDiff, Nat.reduceAdd, Nat.reduceSub, Nat.reduceMul, Nat.reduceLT, Nat.reduceLeDiff, Nat.reduceBNe, Int.reduceNeg, Int.reduceAdd, Int.reduceSub, Int.reduceMul, Int.reduceLT, Int.reduceLE, Int.reduceGT, Int.reduceGE, Int.reduceEq, Int.reduceNe, Int.reduceToNat, Int.reduceTMod, Int.reduceTDiv, hq]
    refine awake9.at ?_
    simp (disch := omega) only [go_sem, reduceIte, reduceDIte, reduceCtorEq, Nat.reduceBEq, Nat.reduceEqDiff, Nat.reduceAdd, Nat.reduceSub, Nat.reduceMul, Nat.reduceLT, Nat.reduceLeDiff, Nat.reduceBNe, Int.reduceNeg, Int.reduceAdd, Int.reduceSub, Int.reduceMul, Int.reduceLT, Int.reduceLE, Int.reduceGT, Int.reduceGE, Int.reduceEq, Int.reduceNe, Int.reduceToNat, Int.reduceTMod, Int.reduceTDiv]
  have hn : (10 : UInt8) ∉ c := fun hm => hq (by have := (isIn_iff c).2 hm; unfold isIn at this; exact of_decide_eq_true this)
  simp (disch := omega) only [go_sem, reduceIte, reduceDIte, reduceCtorEq, Nat.reduceBEq, Nat.reduceEqDiff, Nat.reduceAdd, Nat.reduceSub, Nat.reduceMul, Nat.reduceLT, Nat.reduceLeDiff, Nat.reduceBNe, Int.reduceNeg, Int.reduceAdd, Int.reduceSub, Int.reduceMul, Int.reduceLT, Int.reduceLE, Int.reduceGT, Int.reduceGE, Int.reduceEq, Int.reduceNe, Int.reduceToNat, Int.reduceTMod, Int.reduceTDiv, hq]
  refine (split18 s (by omega)).at ?_
  have hnl : ∀ x, x ∈ linesOf s → x.length ≤ 600 := fun x hx => Nat.le_trans (lines_len s x hx) (by omega)
  have hcount : (linesOf s).length ≤ 601 := by rw [lines_count]; have := List.count_le_length (a := (10 : UInt8)) (l := s); omega
  simp (disch := omega) only [go_sem, reduceIte, reduceDIte, reduceCtorEq, Nat.reduceBEq, Nat.reduceEqDiff, Nat.reduceAdd, Nat.reduceSub, Nat.reduceMul, Nat.reduceLT, Nat.reduceLeDiff, Nat.reduceBNe, Int.reduceNeg, Int.reduceAdd, Int.reduceSub, Int.reduceMul, Int.reduceLT, Int.reduceLE, Int.reduceGT, Int.reduceGE, Int.reduceEq, Int.reduceNe, Int.reduceToNat, Int.reduceTMod, Int.reduceTDiv, List.length_map, strsD]
  have hw : (wideOf c (linesOf s)).length ≤ 80000 := by
    have h1 := wide_len c (linesOf s)
    have h2 := lines_sum s
    have h3 : (linesOf s).length * (c.length + 11) ≤ 601 * 61 := Nat.mul_le_mul hcount (by omega)
    omega
  have hll : (strsD (linesOf s)).length = (linesOf s).length := by simp [strsD]
  refine wL_ind (fun (j : Nat) fr σ => j ≤ (linesOf s).length ∧ fr 0 = .d (.str s) ∧ fr 1 = .d (.str c) ∧ fr 31 = .d (.list 1 (strsD (linesOf s))) ∧ fr 32 = .d (.int .i64 (linesOf s).length) ∧ fr 33 = .d (.int .i64 j) ∧
    fr 5 = .d (.str (wideOf c ((linesOf s).take j)))) (fun j => (linesOf s).length - j) ?_ 0 ?_
  · rintro j fr σ ⟨hj, f0, f1, f31, f32, f33, f5⟩ ih
    by_cases hlt : j < (linesOf s).length
    · have hsu := wide_succ c hlt
      have hpre := wide_take c (linesOf s) j
      obtain ⟨x, hx⟩ : ∃ x, x = (linesOf s).getD j [] := ⟨_, rfl⟩
      have hxm : x ∈ linesOf s := by rw [hx, List.getD_eq_getElem?_getD, List.getElem?_eq_getElem hlt]; exact List.getElem_mem hlt
      have hxl := hnl x hxm
      have hg := str_get (linesOf s) j hlt
      rw [← hx] at hg hsu
      have hlt' : (j : Int) < (linesOf s).length := by omega
      have hct := cut_total x
      have hrl := repl_len (cutAt 34 x).1
      have hwl : wideLine x = [32, 32] ++ repl (cutAt 34 x).1 ++ (if (cutAt 34 x).2.2 then 34 :: ((cutAt 34 x).2.1 ++ [32, 32]) else []) := rfl
      simp (disch := omega) only [go_sem, reduceIte, reduceDIte, reduceCtorEq, Nat.reduceBEq, Nat.reduceEqDiff, Nat.reduceAdd, Nat.reduceSub, Nat.reduceMul, Nat.reduceLT, Nat.reduceLeDiff, Nat.reduceBNe, Int.reduceNeg, Int.reduceAdd, Int.reduceSub, Int.reduceMul, Int.reduceLT, Int.reduceLE, Int.reduceGT, Int.reduceGE, Int.reduceEq, Int.reduceNe, Int.reduceToNat, Int.reduceTMod, Int.reduceTDiv, f31, f32, f33, hlt', hll, hg]
      refine (cut19 x 34 (by omega)).at ?_
      simp (disch := omega) only [go_sem, reduceIte, reduceDIte, reduceCtorEq, Nat.reduceBEq, Nat.reduceEqDiff, Nat.reduceAdd, Nat.reduceSub, Nat.reduceMul, Nat.reduceLT, Nat.reduceLeDiff, Nat.reduceBNe, Int.reduceNeg, Int.reduceAdd, Int.reduceSub, Int.reduceMul, Int.reduceLT, Int.reduceLE, Int.reduceGT, Int.reduceGE, Int.reduceEq, Int.reduceNe, Int.reduceToNat, Int.reduceTMod, Int.reduceTDiv]
      refine (replace20 (cutAt 34 x).1 (by omega)).at ?_
      generalize (cutAt 34 x).2.2 = q at hwl ⊢
      generalize (cutAt 34 x).2.1 = y at hwl hct ⊢
      generalize repl (cutAt 34 x).1 = z at hwl hrl ⊢
      generalize wideOf c ((linesOf s).take j) = pre at hsu hpre f5 ⊢
      cases q
      · simp (disch := omega) only [go_sem, reduceIte, reduceDIte, reduceCtorEq, Nat.reduceBEq, Nat.reduceEqDiff, Nat.reduceAdd, Nat.reduceSub, Nat.reduceMul, Nat.reduceLT, Nat.reduceLeDiff, Nat.reduceBNe, Int.reduceNeg, Int.reduceAdd, Int.reduceSub, Int.reduceMul, Int.reduceLT, Int.reduceLE, Int.reduceGT, Int.reduceGE, Int.reduceEq, Int.reduceNe, Int.reduceToNat, Int.reduceTMod, Int.reduceTDiv, f0, f1, f5, f33]
        refine ⟨by omega, by first | omega | (simp only [List.length_append, List.length_cons, List.length_nil]; omega), by first | omega | (simp only [List.length_append, List.length_cons, List.length_nil]; omega), by first | omega | (simp only [List.length_append, List.length_cons, List.length_nil]; omega), by first | omega | (simp only [List.length_append, List.length_cons, List.length_nil]; omega), by first | omega | (simp only [List.length_append, List.length_cons, List.length_nil]; omega), ?_⟩
        refine ih (j + 1) _ _ (by omega) ⟨by omega, ?_, ?_, ?_, ?_, ?_, ?_⟩
        · simp (disch := omega) only [go_sem, reduceIte, reduceDIte, reduceCtorEq, Nat.reduceBEq, Nat.reduceEqDiff, Nat.reduceAdd, Nat.reduceSub, Nat.reduceMul, Nat.reduceLT, Nat.reduceLeDiff, Nat.reduceBNe, Int.reduceNeg, Int.reduceAdd, Int.reduceSub, Int.reduceMul, Int.reduceLT, Int.reduceLE, Int.reduceGT, Int.reduceGE, Int.reduceEq, Int.reduceNe, Int.reduceToNat, Int.reduceTMod, Int.reduceTDiv, f0]
        · simp (disch := omega) only [go_sem, reduceIte, reduceDIte, reduceCtorEq, Nat.reduceBEq, Nat.reduceEqDiff, Nat.reduceAdd, Nat.reduceSub, Nat.reduceMul, Nat.reduceLT, Nat.reduceLeDiff, Nat.reduceBNe, Int.reduceNeg, Int.reduceAdd, Int.reduceSub, Int.reduceMul, Int.reduceLT, Int.reduceLE, Int.reduceGT, Int.reduceGE, Int.reduceEq, Int.reduceNe, Int.reduceToNat, Int.reduceTMod, Int.reduceTDiv, f1]
        · simp (disch := omega) only [go_sem, reduceIte, reduceDIte, reduceCtorEq, Nat.reduceBEq, Nat.reduceEqDiff, Nat.reduceAdd, Nat.reduceSub, Nat.reduceMul, Nat.reduceLT, Nat.reduceLeDiff, Nat.reduceBNe, Int.reduceNeg, Int.reduceAdd, Int.reduceSub, Int.reduceMul, Int.reduceLT, Int.reduceLE, Int.reduceGT, Int.reduceGE, Int.reduceEq, Int.reduceNe, Int.reduceToNat, Int.reduceTMod, Int.reduceTDiv, f31]
        · simp (disch := omega) only [go_sem, reduceIte, reduceDIte, reduceCtorEq, Nat.reduceBEq, Nat.reduceEqDiff, Nat.reduceAdd, Nat.reduceSub, Nat.reduceMul, Nat.reduceLT, Nat.reduceLeDiff, Nat.reduceBNe, Int.reduceNeg, Int.reduceAdd, Int.reduceSub, Int.reduceMul, Int.reduceLT, Int.reduceLE, Int.reduceGT, Int.reduceGE, Int.reduceEq, Int.reduceNe, Int.reduceToNat, Int.reduceTMod, Int.reduceTDiv, f32]
        · simp (disch := omega) only [go_sem, reduceIte, reduceDIte, reduceCtorEq, Nat.reduceBEq, Nat.reduceEqDiff, Nat.reduceAdd, Nat.reduceSub, Nat.reduceMul, Nat.reduceLT, Nat.reduceLeDiff, Nat.reduceBNe, Int.reduceNeg, Int.reduceAdd, Int.reduceSub, Int.reduceMul, Int.reduceLT, Int.reduceLE, Int.reduceGT, Int.reduceGE, Int.reduceEq, Int.reduceNe, Int.reduceToNat, Int.reduceTMod, Int.reduceTDiv]
        · rw [hsu, hwl]
          simp (disch := omega) only [go_sem, reduceIte, reduceDIte, reduceCtorEq, Nat.reduceBEq, Nat.reduceEqDiff, Nat.reduceAdd, Nat.reduceSub, Nat.reduceMul, Nat.reduceLT, Nat.reduceLeDiff, Nat.reduceBNe, Int.reduceNeg, Int.reduceAdd, Int.reduceSub, Int.reduceMul, Int.reduceLT, Int.reduceLE, Int.reduceGT, Int.reduceGE, Int.reduceEq, Int.reduceNe, Int.reduceToNat, Int.reduceTMod, Int.reduceTDiv, remark]
          try simp only [List.append_assoc, List.cons_append, List.nil_append, List.append_nil, if_true, if_false, Bool.false_eq_true]
      · simp (disch := omega) only [go_sem, reduceIte, reduceDIte, reduceCtorEq, Nat.reduceBEq, Nat.reduceEqDiff, Nat.reduceAdd, Nat.reduceSub, Nat.reduceMul, Nat.reduceLT, Nat.reduceLeDiff, Nat.reduceBNe, Int.reduceNeg, Int.reduceAdd, Int.reduceSub, Int.reduceMul, Int.reduceLT, Int.reduceLE, Int.reduceGT, Int.reduceGE, Int.reduceEq, Int.reduceNe, Int.reduceToNat, Int.reduceTMod, Int.reduceTDiv, f0, f1, f5, f33]
        refine ⟨by omega, by first | omega | (simp only [List.length_append, List.length_cons, List.length_nil]; omega), by first | omega | (simp only [List.length_append, List.length_cons, List.length_nil]; omega), by first | omega | (simp only [List.length_append, List.length_cons, List.length_nil]; omega), by first | omega | (simp only [List.length_append, List.length_cons, List.length_nil]; omega), by first | omega | (simp only [List.length_append, List.length_cons, List.length_nil]; omega), by first | omega | (simp only [List.length_append, List.length_cons, List.length_nil]; omega), by first | omega | (simp only [List.length_append, List.length_cons, List.length_nil]; omega), by first | omega | (simp only [List.length_append, List.length_cons, List.length_nil]; omega), ?_⟩
        refine ih (j + 1) _ _ (by omega) ⟨by omega, ?_, ?_, ?_, ?_, ?_, ?_⟩
        · simp (disch := omega) only [go_sem, reduceIte, reduceDIte, reduceCtorEq, Nat.reduceBEq, Nat.reduceEqDiff, Nat.reduceAdd, Nat.reduceSub, Nat.reduceMul, Nat.reduceLT, Nat.reduceLeDiff, Nat.reduceBNe, Int.reduceNeg, Int.reduceAdd, Int.reduceSub, Int.reduceMul, Int.reduceLT, Int.reduceLE, Int.reduceGT, Int.reduceGE, Int.reduceEq, Int.reduceNe, Int.reduceToNat, Int.reduceTMod, Int.reduceTDiv, f0]
        · simp (disch := omega) only [go_sem, reduceIte, reduceDIte, reduceCtorEq, Nat.reduceBEq, Nat.reduceEqDiff, Nat.reduceAdd, Nat.reduceSub, Nat.reduceMul, Nat.reduceLT, Nat.reduceLeDiff, Nat.reduceBNe, Int.reduceNeg, Int.reduceAdd, Int.reduceSub, Int.reduceMul, Int.reduceLT, Int.reduceLE, Int.reduceGT, Int.reduceGE, Int.reduceEq, Int.reduceNe, Int.reduceToNat, Int.reduceTMod, Int.reduceTDiv, f1]
        · simp (disch := omega) only [go_sem, reduceIte, reduceDIte, reduceCtorEq, Nat.reduceBEq, Nat.reduceEqDiff, Nat.reduceAdd, Nat.reduceSub, Nat.reduceMul, Nat.reduceLT, Nat.reduceLeDiff, Nat.reduceBNe, Int.reduceNeg, Int.reduceAdd, Int.reduceSub, Int.reduceMul, Int.reduceLT, Int.reduceLE, Int.reduceGT, Int.reduceGE, Int.reduceEq, Int.reduceNe, Int.reduceToNat, Int.reduceTMod, Int.reduceTDiv, f31]
        · simp (disch := omega) only [go_sem, reduceIte, reduceDIte, reduceCtorEq, Nat.reduceBEq, Nat.reduceEqDiff, Nat.reduceAdd, Nat.reduceSub, Nat.reduceMul, Nat.reduceLT, Nat.reduceLeDiff, Nat.reduceBNe, Int.reduceNeg, Int.reduceAdd, Int.reduceSub, Int.reduceMul, Int.reduceLT, Int.reduceLE, Int.reduceGT, Int.reduceGE, Int.reduceEq, Int.reduceNe, Int.reduceToNat, Int.reduceTMod, Int.reduceTDiv, f32]
        · simp (disch := omega) only [go_sem, reduceIte, reduceDIte, reduceCtorEq, Nat.reduceBEq, Nat.reduceEqDiff, Nat.reduceAdd, Nat.reduceSub, Nat.reduceMul, Nat.reduceLT, Nat.reduceLeDiff, Nat.reduceBNe, Int.reduceNeg, Int.reduceAdd, Int.reduceSub, Int.reduceMul, Int.reduceLT, Int.reduceLE, Int.reduceGT, Int.reduceGE, Int.reduceEq, Int.reduceNe, Int.reduceToNat, Int.reduceTMod, Int.reduceTDiv]
        · rw [hsu, hwl]
          simp (disch := omega) only [go_sem, reduceIte, reduceDIte, reduceCtorEq, Nat.reduceBEq, Nat.reduceEqDiff, Nat.reduceAdd, Nat.reduceSub, Nat.reduceMul, Nat.reduceLT, Nat.reduceLeDiff, Nat.reduceBNe, Int.reduceNeg, Int.reduceAdd, Int.reduceSub, Int.reduceMul, Int.reduceLT, Int.reduceLE, Int.reduceGT, Int.reduceGE, Int.reduceEq, Int.reduceNe, Int.reduceToNat, Int.reduceTMod, Int.reduceTDiv, remark]
          try simp only [List.append_assoc, List.cons_append, List.nil_append, List.append_nil, if_true, if_false, Bool.false_eq_true]
    · have hjn : j = (linesOf s).length := by omega
      have hlt' : ¬ (j : Int) < (linesOf s).length := by omega
      rw [List.take_of_length_le (by omega)] at f5
      simp (disch := omega) only [go_sem, reduceIte, reduceDIte, reduceCtorEq, Nat.reduceBEq, Nat.reduceEqDiff, Nat.reduceAdd, Nat.reduceSub, Nat.reduceMul, Nat.reduceLT, Nat.reduceLeDiff, Nat.reduceBNe, Int.reduceNeg, Int.reduceAdd, Int.reduceSub, Int.reduceMul, Int.reduceLT, Int.reduceLE, Int.reduceGT, Int.reduceGE, Int.reduceEq, Int.reduceNe, Int.reduceToNat, Int.reduceTMod, Int.reduceTDiv, f32, f33, hlt', f0]
      refine (parse10 s (by omega)).at ?_
      simp (disch := omega) only [go_sem, reduceIte, reduceDIte, reduceCtorEq, Nat.reduceBEq, Nat.reduceEqDiff, Nat.reduceAdd, Nat.reduceSub, Nat.reduceMul, Nat.reduceLT, Nat.reduceLeDiff, Nat.reduceBNe, Int.reduceNeg, Int.reduceAdd, Int.reduceSub, Int.reduceMul, Int.reduceLT, Int.reduceLE, Int.reduceGT, Int.reduceGE, Int.reduceEq, Int.reduceNe, Int.reduceToNat, Int.reduceTMod, Int.reduceTDiv, parseA, f5]
      refine (parse10 (wideOf c (linesOf s)) (by omega)).at ?_
      rw [layout_ok hn]
      have hok := proper_ok (pe := peM) s
      have hcs : s.count 10 ≤ s.length := List.count_le_length
      rcases hx : parseT peM s with ⟨l, n, e⟩
      rw [hx] at hok
      simp only at hok
      have hlen : l.length ≤ 16 := by
        by_cases he : e = 0
        · exact chk_small (hok.1 he).2
        · rw [(hok.2 he).1]; simp
      have hn1 : 0 ≤ n ∧ n ≤ 601 := by
        by_cases he : e = 0
        · have := (hok.1 he).1; omega
        · have := (hok.2 he).2; omega
      have h := same13 (listA_is l) (listA_is l) (by omega)
      rw [decide_eq_true rfl] at h
      simp (disch := omega) only [go_sem, reduceIte, reduceDIte, reduceCtorEq, Nat.reduceBEq, Nat.reduceEqDiff, Nat.reduceAdd, Nat.reduceSub, Nat.reduceMul, Nat.reduceLT, Nat.reduceLeDiff, Nat.reduceBNe, Int.reduceNeg, Int.reduceAdd, Int.reduceSub, Int.reduceMul, Int.reduceLT, Int.reduceLE, Int.reduceGT, Int.reduceGE, Int.reduceEq, Int.reduceNe, Int.reduceToNat, Int.reduceTMod, Int.reduceTDiv, parseA]
      refine h.at ?_
      simp (disch := omega) only [go_sem, reduceIte, reduceDIte, reduceCtorEq, Nat.reduceBEq, Nat.reduceEqDiff, Nat.reduceAdd, Nat.reduceSub, Nat.reduceMul, Nat.reduceLT, Nat.reduceLeDiff, Nat.reduceBNe, Int.reduceNeg, Int.reduceAdd, Int.reduceSub, Int.reduceMul, Int.reduceLT, Int.reduceLE, Int.reduceGT, Int.reduceGE, Int.reduceEq, Int.reduceNe, Int.reduceToNat, Int.reduceTMod, Int.reduceTDiv]
      refine awake9.at ?_
      simp (disch := omega) only [go_sem, reduceIte, reduceDIte, reduceCtorEq, Nat.reduceBEq, Nat.reduceEqDiff, Nat.reduceAdd, Nat.reduceSub, Nat.reduceMul, Nat.reduceLT, Nat.reduceLeDiff, Nat.reduceBNe, Int.reduceNeg, Int.reduceAdd, Int.reduceSub, Int.reduceMul, Int.reduceLT, Int.reduceLE, Int.reduceGT, Int.reduceGE, Int.reduceEq, Int.reduceNe, Int.reduceToNat, Int.reduceTMod, Int.reduceTDiv]
  · refine ⟨by omega, ?_, ?_, ?_, ?_, ?_, ?_⟩
    · simp (disch := omega) only [go_sem, reduceIte, reduceDIte, reduceCtorEq, Nat.reduceBEq, Nat.reduceEqDiff, Nat.reduceAdd, Nat.reduceSub, Nat.reduceMul, Nat.reduceLT, Nat.reduceLeDiff, Nat.reduceBNe, Int.reduceNeg, Int.reduceAdd, Int.reduceSub, Int.reduceMul, Int.reduceLT, Int.reduceLE, Int.reduceGT, Int.reduceGE, Int.reduceEq, Int.reduceNe, Int.reduceToNat, Int.reduceTMod, Int.reduceTDiv]
    · simp (disch := omega) only [go_sem, reduceIte, reduceDIte, reduceCtorEq, Nat.reduceBEq, Nat.reduceEqDiff, Nat.reduceAdd, Nat.reduceSub, Nat.reduceMul, Nat.reduceLT, Nat.reduceLeDiff, Nat.reduceBNe, Int.reduceNeg, Int.reduceAdd, Int.reduceSub, Int.reduceMul, Int.reduceLT, Int.reduceLE, Int.reduceGT, Int.reduceGE, Int.reduceEq, Int.reduceNe, Int.reduceToNat, Int.reduceTMod, Int.reduceTDiv]
    · simp (disch := omega) only [go_sem, reduceIte, reduceDIte, reduceCtorEq, Nat.reduceBEq, Nat.reduceEqDiff, Nat.reduceAdd, Nat.reduceSub, Nat.reduceMul, Nat.reduceLT, Nat.reduceLeDiff, Nat.reduceBNe, Int.reduceNeg, Int.reduceAdd, Int.reduceSub, Int.reduceMul, Int.reduceLT, Int.reduceLE, Int.reduceGT, Int.reduceGE, Int.reduceEq, Int.reduceNe, Int.reduceToNat, Int.reduceTMod, Int.reduceTDiv, strsD]
    · simp (disch := omega) only [go_sem, reduceIte, reduceDIte, reduceCtorEq, Nat.reduceBEq, Nat.reduceEqDiff, Nat.reduceAdd, Nat.reduceSub, Nat.reduceMul, Nat.reduceLT, Nat.reduceLeDiff, Nat.reduceBNe, Int.reduceNeg, Int.reduceAdd, Int.reduceSub, Int.reduceMul, Int.reduceLT, Int.reduceLE, Int.reduceGT, Int.reduceGE, Int.reduceEq, Int.reduceNe, Int.reduceToNat, Int.reduceTMod, Int.reduceTDiv]
    · simp (disch := omega) only [go_sem, reduceIte, reduceDIte, reduceCtorEq, Nat.reduceBEq, Nat.reduceEqDiff, Nat.reduceAdd, Nat.reduceSub, Nat.reduceMul, Nat.reduceLT, Nat.reduceLeDiff, Nat.reduceBNe, Int.reduceNeg, Int.reduceAdd, Int.reduceSub, Int.reduceMul, Int.reduceLT, Int.reduceLE, Int.reduceGT, Int.reduceGE, Int.reduceEq, Int.reduceNe, Int.reduceToNat, Int.reduceTMod, Int.reduceTDiv]
    · simp (disch := omega) only [go_sem, reduceIte, reduceDIte, reduceCtorEq, Nat.reduceBEq, Nat.reduceEqDiff, Nat.reduceAdd, Nat.reduceSub, Nat.reduceMul, Nat.reduceLT, Nat.reduceLeDiff, Nat.reduceBNe, Int.reduceNeg, Int.reduceAdd, Int.reduceSub, Int.reduceMul, Int.reduceLT, Int.reduceLE, Int.reduceGT, Int.reduceGE, Int.reduceEq, Int.reduceNe, Int.reduceToNat, Int.reduceTMod, Int.reduceTDiv, wideOf, List.take_zero, List.flatMap_nil]
end Go.Proofs.YtjgbdlaecpkmhaaGreatDoor
set_option linter.unusedVariables false
set_option linter.unusedSimpArgs false
set_option maxRecDepth 100000
namespace Go.Proofs.YtjgbdlaecpkmhaaGreatDoor
open Go Nv Rul

/- What comes in, as rules. -/
theorem int_td {n : Nat} {t : TypeId} {k : IntKind} {ds : List DV} (ht : Tryz.prog.underlying t = some (.int k)) (h : TD Tryz.prog n t ds) : ∃ z, ds = [.int k z] ∧ (Lit.int k z).wf = true := by
  cases n with
  | zero => exact h.elim
  | succ n => simp only [TD, ht] at h; exact h
theorem str_td {n : Nat} {t : TypeId} {ds : List DV} (ht : Tryz.prog.underlying t = some .string) (h : TD Tryz.prog n t ds) : ∃ s : List UInt8, ds = [.str s] ∧ s.length ≤ 9223372036854775807 := by
  cases n with
  | zero => exact h.elim
  | succ n => simp only [TD, ht] at h; obtain ⟨s, h, h2⟩ := h; exact ⟨s, h, by unfold maxLen at h2; omega⟩
theorem rows_with {α : Type} {Q : α → Prop} {f : α → DV} : ∀ {xs : List DV}, (∀ x, x ∈ xs → ∃ a, x = f a ∧ Q a) → ∃ l : List α, xs = l.map f ∧ ∀ a, a ∈ l → Q a
  | [], _ => ⟨[], rfl, by simp⟩
  | x :: xs, h => by
    obtain ⟨a, rfl, ha⟩ := h x (by simp)
    obtain ⟨l, rfl, hl⟩ := rows_with (xs := xs) fun y hy => h y (by simp [hy])
    exact ⟨a :: l, rfl, fun b hb => by
      rcases List.mem_cons.1 hb with rfl | hb
      · exact ha
      · exact hl b hb⟩
theorem rule_td {n : Nat} {cs : List DV} (h : TD Tryz.prog n 33 cs) : ∃ r : Rule, cs = (ruleD r).cells ∧ r.name.length ≤ 9223372036854775807 ∧ r.pat.length ≤ 9223372036854775807 := by
  cases n with
  | zero => exact h.elim
  | succ n =>
    simp only [TD, go_sem, List.mem_cons, List.not_mem_nil, or_false, forall_eq_or_imp, forall_eq] at h
    obtain ⟨hl, h0, h1, h2, h3, h4, h5⟩ := h
    match cs, hl with
    | [a, b, c, d, e, f], _ =>
      simp only [List.drop, List.take] at h0 h1 h2 h3 h4 h5
      obtain ⟨s0, e0, k0⟩ := str_td Tryz.underlying9 h0
      obtain ⟨s1, e1, k1⟩ := str_td Tryz.underlying9 h1
      obtain ⟨z2, e2, _⟩ := int_td Tryz.underlying3 h2
      obtain ⟨z3, e3, _⟩ := int_td Tryz.underlying3 h3
      obtain ⟨z4, e4, _⟩ := int_td Tryz.underlying3 h4
      obtain ⟨z5, e5, _⟩ := int_td Tryz.underlying3 h5
      simp only [List.cons.injEq, and_true] at e0 e1 e2 e3 e4 e5
      exact ⟨⟨s0, s1, z2, z3, z4, z5⟩, by rw [e0, e1, e2, e3, e4, e5]; rfl, k0, k1⟩
theorem rules_td {n : Nat} {ds : List DV} (h : TD Tryz.prog n 23 ds) : ∃ l : List Rule, ds = [rulesD l] ∧ Sized l := by
  cases n with
  | zero => exact h.elim
  | succ n =>
    simp only [TD, go_sem] at h
    obtain ⟨xs, rfl, _, hx⟩ := h
    obtain ⟨l, rfl, hq⟩ := rows_with (Q := fun r : Rule => r.name.length ≤ 9223372036854775807 ∧ r.pat.length ≤ 9223372036854775807) (f := ruleD) fun x hm => by
      obtain ⟨cs, rfl, hc⟩ := hx x hm
      obtain ⟨r, rfl, h1, h2⟩ := rule_td hc
      exact ⟨r, by rw [ruleD_cells]; simp only [ofCells, go_sem, ruleD], h1, h2⟩
    exact ⟨l, rfl, hq⟩
end Go.Proofs.YtjgbdlaecpkmhaaGreatDoor
