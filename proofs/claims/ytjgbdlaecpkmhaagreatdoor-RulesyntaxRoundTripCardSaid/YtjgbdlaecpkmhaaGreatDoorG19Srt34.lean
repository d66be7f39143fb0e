/- Part of a proof about the functions of this seat. -/
import Derived.Test.YtjgbdlaecpkmhaaGreatDoorG18Pn34
import Derived.Shelf.SlSortCmp.WholeK
import Derived.WalkKit
import Derived.KernelRfl
import Derived.Test.YtjgbdlaecpkmhaaGreatDoorProg
import Derived.Test.YtjgbdlaecpkmhaaGreatDoorG12NvY
set_option linter.unusedVariables false
set_option linter.unusedSimpArgs false
set_option maxRecDepth 100000
namespace Go.Proofs.YtjgbdlaecpkmhaaGreatDoor
open Go Nv Pat

theorem numL_nil (n : Int) : numL [] n = (n, []) := rfl
theorem numL_stop {c : Int} (h : digit c = false) (t : List Int) (n : Int) : numL (c :: t) n = (n, c :: t) := by simp [numL, h]
theorem numL_go {c : Int} (h : digit c = true) (t : List Int) (n : Int) : numL (c :: t) n = numL t (min (10 * n + (c - 48)) 1000) := by simp [numL, h]

theorem number77 (l r : List Int) (hl : l.length ≤ 1000000) (h0 : ∀ c, c ∈ l → 0 ≤ c) : PS 109 [] l r ((numP r).map fun x => (.d (.int .i64 x.1), x.2)) := by
  refine PS.of fn109 noHint (Nat.le_refl _) fun A B u e => ?_
  have hul : u.length + r.length = l.length := by rw [e, List.length_append]
  simp (disch := omega) only [go_sem, reduceIte, reduceDIte, reduceCtorEq, Nat.reduceBEq, Nat.reduceEqDiff, Nat.reduceAdd, Nat.reduceSub, Nat.reduceMul, Nat.reduceLT, Nat.reduceLeDiff, Nat.reduceBNe, Int.reduceNeg, Int.reduceAdd, Int.reduceSub, Int.reduceMul, Int.reduceLT, Int.reduceLE, Int.reduceGT, Int.reduceGE, Int.reduceEq, Int.reduceNe, Int.reduceToNat, Int.reduceTMod, Int.reduceTDiv, boxP, List.append_assoc, List.cons_append, List.nil_append, List.length_append, stGet_app, stGet_app0, stSet_app, stSet_app0]
  refine wL_ind (fun (r' : List Int) fr σ => fr 0 = .ptr (List.length A) 0 ∧ fr 3 = .d (.int .i64 u.length) ∧ ∃ (n : Int) (u' : List Int) (τ : Nv.ST), (0 ≤ n ∧ n ≤ 1000) ∧ l = u' ++ r' ∧ numL r 0 = numL r' n ∧ r'.length ≤ r.length ∧ fr 4 = .d (.int .i64 n) ∧
    σ = A ++ boxP l u'.length :: (B ++ τ)) (fun r' => r'.length) ?_ r ?_
  · rintro r' fr σ ⟨f0, f3, n, u', τ, hn, e', hN, hrl, f4, rfl⟩ ih
    have hul' : u'.length + r'.length = l.length := by rw [e', List.length_append]
    have out : (r' = [] ∨ ∃ c t, r' = c :: t ∧ digit c = false) → numL r 0 = (n, r') := by
      rintro (h | ⟨c, t, h, hd⟩)
      · rw [hN, h, numL_nil]
      · rw [hN, h, numL_stop hd]
    simp (disch := omega) only [go_sem, reduceIte, reduceDIte, reduceCtorEq, Nat.reduceBEq, Nat.reduceEqDiff, Nat.reduceAdd, Nat.reduceSub, Nat.reduceMul, Nat.reduceLT, Nat.reduceLeDiff, Nat.reduceBNe, Int.reduceNeg, Int.reduceAdd, Int.reduceSub, Int.reduceMul, Int.reduceLT, Int.reduceLE, Int.reduceGT, Int.reduceGE, Int.reduceEq, Int.reduceNe, Int.reduceToNat, Int.reduceTMod, Int.reduceTDiv, f0]
    refine (peekL l u' r' e' hl A (B ++ τ)).at ?_
    by_cases hdd : 48 ≤ r'.headD (-1) ∧ r'.headD (-1) ≤ 57
    · obtain ⟨hd, hd2⟩ := hdd
      simp (disch := omega) only [go_sem, reduceIte, reduceDIte, reduceCtorEq, Nat.reduceBEq, Nat.reduceEqDiff, Nat.reduceAdd, Nat.reduceSub, Nat.reduceMul, Nat.reduceLT, Nat.reduceLeDiff, Nat.reduceBNe, Int.reduceNeg, Int.reduceAdd, Int.reduceSub, Int.reduceMul, Int.reduceLT, Int.reduceLE, Int.reduceGT, Int.reduceGE, Int.reduceEq, Int.reduceNe, Int.reduceToNat, Int.reduceTMod, Int.reduceTDiv, hd, f0]
      refine (peekL l u' r' e' hl A (B ++ τ)).at ?_
      simp (disch := omega) only [go_sem, reduceIte, reduceDIte, reduceCtorEq, Nat.reduceBEq, Nat.reduceEqDiff, Nat.reduceAdd, Nat.reduceSub, Nat.reduceMul, Nat.reduceLT, Nat.reduceLeDiff, Nat.reduceBNe, Int.reduceNeg, Int.reduceAdd, Int.reduceSub, Int.reduceMul, Int.reduceLT, Int.reduceLE, Int.reduceGT, Int.reduceGE, Int.reduceEq, Int.reduceNe, Int.reduceToNat, Int.reduceTMod, Int.reduceTDiv, hd2, f0, f4]
      cases r' with
      | nil => simp at hd
      | cons c t =>
        simp only [List.headD_cons] at hd hd2
        have hdg : digit c = true := by simp [digit, hd, hd2]
        have hw1 : IntKind.i64.wrap (10 * n) = 10 * n := wrap_id (by omega) (by omega)
        have hw2 : IntKind.i32.wrap (c - 48) = c - 48 := wrap_i32 (by omega) (by omega)
        have hw3 : IntKind.i64.wrap (c - 48) = c - 48 := wrap_id (by omega) (by omega)
        have hw4 : IntKind.i64.wrap (10 * n + (c - 48)) = 10 * n + (c - 48) := wrap_id (by omega) (by omega)
        refine (next84 l (c :: t) hl h0).at A (B ++ τ) u' e' ?_ ?_
        · intro v r2 u2 τ2 ho e2
          cases ho
          simp (disch := omega) only [go_sem, reduceIte, reduceDIte, reduceCtorEq, Nat.reduceBEq, Nat.reduceEqDiff, Nat.reduceAdd, Nat.reduceSub, Nat.reduceMul, Nat.reduceLT, Nat.reduceLeDiff, Nat.reduceBNe, Int.reduceNeg, Int.reduceAdd, Int.reduceSub, Int.reduceMul, Int.reduceLT, Int.reduceLE, Int.reduceGT, Int.reduceGE, Int.reduceEq, Int.reduceNe, Int.reduceToNat, Int.reduceTMod, Int.reduceTDiv, hw1, hw2, hw3, hw4, min_if]
          refine ih t _ _ (by simp) ⟨?_, ?_, min (10 * n + (c - 48)) 1000, u2, τ ++ τ2, by omega, e2, by rw [hN, numL_go hdg], by simp at hrl; omega, ?_, by simp⟩
          · simp (disch := omega) only [go_sem, reduceIte, reduceDIte, reduceCtorEq, Nat.reduceBEq, Nat.reduceEqDiff, Nat.reduceAdd, Nat.reduceSub, Nat.reduceMul, Nat.reduceLT, Nat.reduceLeDiff, Nat.reduceBNe, Int.reduceNeg, Int.reduceAdd, Int.reduceSub, Int.reduceMul, Int.reduceLT, Int.reduceLE, Int.reduceGT, Int.reduceGE, Int.reduceEq, Int.reduceNe, Int.reduceToNat, Int.reduceTMod, Int.reduceTDiv, f0]
          · simp (disch := omega) only [go_sem, reduceIte, reduceDIte, reduceCtorEq, Nat.reduceBEq, Nat.reduceEqDiff, Nat.reduceAdd, Nat.reduceSub, Nat.reduceMul, Nat.reduceLT, Nat.reduceLeDiff, Nat.reduceBNe, Int.reduceNeg, Int.reduceAdd, Int.reduceSub, Int.reduceMul, Int.reduceLT, Int.reduceLE, Int.reduceGT, Int.reduceGE, Int.reduceEq, Int.reduceNe, Int.reduceToNat, Int.reduceTMod, Int.reduceTDiv, f3]
          · simp (disch := omega) only [go_sem, reduceIte, reduceDIte, reduceCtorEq, Nat.reduceBEq, Nat.reduceEqDiff, Nat.reduceAdd, Nat.reduceSub, Nat.reduceMul, Nat.reduceLT, Nat.reduceLeDiff, Nat.reduceBNe, Int.reduceNeg, Int.reduceAdd, Int.reduceSub, Int.reduceMul, Int.reduceLT, Int.reduceLE, Int.reduceGT, Int.reduceGE, Int.reduceEq, Int.reduceNe, Int.reduceToNat, Int.reduceTMod, Int.reduceTDiv]
        · intro ho; cases ho
    · have hN' := out (by
        cases r' with
        | nil => exact .inl rfl
        | cons c t => simp only [List.headD_cons] at hdd; exact .inr ⟨c, t, rfl, by simp [digit]; omega⟩)
      clear ih
      have hnum : numP r = if r'.length = r.length ∨ (r.headD 0 = 48 ∧ r'.length + 1 < r.length) ∨ 20 < n then none else some (n, r') := by rw [numP, hN']
      rw [hnum]
      by_cases hd : 48 ≤ r'.headD (-1)
      case' pos =>
        have hd2 : ¬ r'.headD (-1) ≤ 57 := fun h => hdd ⟨hd, h⟩
        simp (disch := omega) only [go_sem, reduceIte, reduceDIte, reduceCtorEq, Nat.reduceBEq, Nat.reduceEqDiff, Nat.reduceAdd, Nat.reduceSub, Nat.reduceMul, Nat.reduceLT, Nat.reduceLeDiff, Nat.reduceBNe, Int.reduceNeg, Int.reduceAdd, Int.reduceSub, Int.reduceMul, Int.reduceLT, Int.reduceLE, Int.reduceGT, Int.reduceGE, Int.reduceEq, Int.reduceNe, Int.reduceToNat, Int.reduceTMod, Int.reduceTDiv, hd, f0]
        refine (peekL l u' r' e' hl A (B ++ τ)).at ?_
        simp (disch := omega) only [go_sem, reduceIte, reduceDIte, reduceCtorEq, Nat.reduceBEq, Nat.reduceEqDiff, Nat.reduceAdd, Nat.reduceSub, Nat.reduceMul, Nat.reduceLT, Nat.reduceLeDiff, Nat.reduceBNe, Int.reduceNeg, Int.reduceAdd, Int.reduceSub, Int.reduceMul, Int.reduceLT, Int.reduceLE, Int.reduceGT, Int.reduceGE, Int.reduceEq, Int.reduceNe, Int.reduceToNat, Int.reduceTMod, Int.reduceTDiv, hd2, f0, f3, f4, boxP, List.append_assoc, List.cons_append, List.nil_append, List.length_append, stGet_app, stGet_app0, stSet_app, stSet_app0]
      case' neg => simp (disch := omega) only [go_sem, reduceIte, reduceDIte, reduceCtorEq, Nat.reduceBEq, Nat.reduceEqDiff, Nat.reduceAdd, Nat.reduceSub, Nat.reduceMul, Nat.reduceLT, Nat.reduceLeDiff, Nat.reduceBNe, Int.reduceNeg, Int.reduceAdd, Int.reduceSub, Int.reduceMul, Int.reduceLT, Int.reduceLE, Int.reduceGT, Int.reduceGE, Int.reduceEq, Int.reduceNe, Int.reduceToNat, Int.reduceTMod, Int.reduceTDiv, hd, f0, f3, f4, boxP, List.append_assoc, List.cons_append, List.nil_append, List.length_append, stGet_app, stGet_app0, stSet_app, stSet_app0]
      all_goals
        by_cases q1 : r'.length = r.length
        · have q1' : u'.length = u.length := by omega
          simp (disch := omega) only [go_sem, reduceIte, reduceDIte, reduceCtorEq, Nat.reduceBEq, Nat.reduceEqDiff, Nat.reduceAdd, Nat.reduceSub, Nat.reduceMul, Nat.reduceLT, Nat.reduceLeDiff, Nat.reduceBNe, Int.reduceNeg, Int.reduceAdd, Int.reduceSub, Int.reduceMul, Int.reduceLT, Int.reduceLE, Int.reduceGT, Int.reduceGE, Int.reduceEq, Int.reduceNe, Int.reduceToNat, Int.reduceTMod, Int.reduceTDiv, q1, q1', badV, true_or, Option.map_none]; exact ⟨_, rfl⟩
        · have q1' : ¬ u'.length = u.length := by omega
          obtain ⟨c, t, rfl⟩ : ∃ c t, r = c :: t := by
            cases r with
            | nil => simp at hrl; simp [hrl] at q1
            | cons c t => exact ⟨c, t, rfl⟩
          have hg : (runesD l).getD u.length default = .int .i32 c := by rw [e]; exact runes_at u t c
          have hlt : u.length < l.length := by rw [e]; simp
          simp only [List.length_cons] at hul q1 hrl
          have hw5 : IntKind.i64.wrap ((u.length : Int) + 1) = (u.length : Int) + 1 := wrap_id (by omega) (by omega)
          simp (disch := omega) only [go_sem, reduceIte, reduceDIte, reduceCtorEq, Nat.reduceBEq, Nat.reduceEqDiff, Nat.reduceAdd, Nat.reduceSub, Nat.reduceMul, Nat.reduceLT, Nat.reduceLeDiff, Nat.reduceBNe, Int.reduceNeg, Int.reduceAdd, Int.reduceSub, Int.reduceMul, Int.reduceLT, Int.reduceLE, Int.reduceGT, Int.reduceGE, Int.reduceEq, Int.reduceNe, Int.reduceToNat, Int.reduceTMod, Int.reduceTDiv, q1, q1', f0, f3, hg, hlt, runesD_length, hw5, boxP, List.append_assoc, List.cons_append, List.nil_append, List.length_append, stGet_app, stGet_app0, stSet_app, stSet_app0]
          by_cases q2 : c = 48
          · by_cases q3 : u.length + 1 < u'.length
            · have q3' : r'.length + 1 < t.length + 1 := by omega
              simp (disch := omega) only [go_sem, reduceIte, reduceDIte, reduceCtorEq, Nat.reduceBEq, Nat.reduceEqDiff, Nat.reduceAdd, Nat.reduceSub, Nat.reduceMul, Nat.reduceLT, Nat.reduceLeDiff, Nat.reduceBNe, Int.reduceNeg, Int.reduceAdd, Int.reduceSub, Int.reduceMul, Int.reduceLT, Int.reduceLE, Int.reduceGT, Int.reduceGE, Int.reduceEq, Int.reduceNe, Int.reduceToNat, Int.reduceTMod, Int.reduceTDiv, q2, q3, q3', f0, f3, hw5, List.headD_cons, badV, true_or, or_true, true_and, Option.map_none, List.length_cons, boxP, List.append_assoc, List.cons_append, List.nil_append, List.length_append, stGet_app, stGet_app0, stSet_app, stSet_app0]; exact ⟨_, rfl⟩
            · have q3' : ¬ r'.length + 1 < t.length + 1 := by omega
              by_cases q4 : 20 < n
              · simp (disch := omega) only [go_sem, reduceIte, reduceDIte, reduceCtorEq, Nat.reduceBEq, Nat.reduceEqDiff, Nat.reduceAdd, Nat.reduceSub, Nat.reduceMul, Nat.reduceLT, Nat.reduceLeDiff, Nat.reduceBNe, Int.reduceNeg, Int.reduceAdd, Int.reduceSub, Int.reduceMul, Int.reduceLT, Int.reduceLE, Int.reduceGT, Int.reduceGE, Int.reduceEq, Int.reduceNe, Int.reduceToNat, Int.reduceTMod, Int.reduceTDiv, q2, q3, q3', q4, f0, f3, f4, hw5, List.headD_cons, badV, true_or, or_true, true_and, Option.map_none, List.length_cons, boxP, List.append_assoc, List.cons_append, List.nil_append, List.length_append, stGet_app, stGet_app0, stSet_app, stSet_app0]; exact ⟨_, rfl⟩
              · simp (disch := omega) only [go_sem, reduceIte, reduceDIte, reduceCtorEq, Nat.reduceBEq, Nat.reduceEqDiff, Nat.reduceAdd, Nat.reduceSub, Nat.reduceMul, Nat.reduceLT, Nat.reduceLeDiff, Nat.reduceBNe, Int.reduceNeg, Int.reduceAdd, Int.reduceSub, Int.reduceMul, Int.reduceLT, Int.reduceLE, Int.reduceGT, Int.reduceGE, Int.reduceEq, Int.reduceNe, Int.reduceToNat, Int.reduceTMod, Int.reduceTDiv, q1, q2, q3, q3', q4, f0, f3, f4, hw5, List.headD_cons, false_or, and_false, or_self, Option.map_some, List.length_cons, boxP, List.append_assoc, List.cons_append, List.nil_append, List.length_append, stGet_app, stGet_app0, stSet_app, stSet_app0]
                exact ⟨u', τ, e', by simp [boxP]⟩
          · by_cases q4 : 20 < n
            · simp (disch := omega) only [go_sem, reduceIte, reduceDIte, reduceCtorEq, Nat.reduceBEq, Nat.reduceEqDiff, Nat.reduceAdd, Nat.reduceSub, Nat.reduceMul, Nat.reduceLT, Nat.reduceLeDiff, Nat.reduceBNe, Int.reduceNeg, Int.reduceAdd, Int.reduceSub, Int.reduceMul, Int.reduceLT, Int.reduceLE, Int.reduceGT, Int.reduceGE, Int.reduceEq, Int.reduceNe, Int.reduceToNat, Int.reduceTMod, Int.reduceTDiv, q2, q4, f4, List.headD_cons, badV, true_or, or_true, true_and, Option.map_none, List.length_cons]; exact ⟨_, rfl⟩
            · simp (disch := omega) only [go_sem, reduceIte, reduceDIte, reduceCtorEq, Nat.reduceBEq, Nat.reduceEqDiff, Nat.reduceAdd, Nat.reduceSub, Nat.reduceMul, Nat.reduceLT, Nat.reduceLeDiff, Nat.reduceBNe, Int.reduceNeg, Int.reduceAdd, Int.reduceSub, Int.reduceMul, Int.reduceLT, Int.reduceLE, Int.reduceGT, Int.reduceGE, Int.reduceEq, Int.reduceNe, Int.reduceToNat, Int.reduceTMod, Int.reduceTDiv, q1, q2, q4, f4, List.headD_cons, false_or, false_and, or_self, Option.map_some, List.length_cons]
              exact ⟨u', τ, e', rfl⟩
  · refine ⟨?_, ?_, 0, u, [], by omega, e, rfl, by omega, ?_, ?_⟩
    · simp (disch := omega) only [go_sem, reduceIte, reduceDIte, reduceCtorEq, Nat.reduceBEq, Nat.reduceEqDiff, Nat.reduceAdd, Nat.reduceSub, Nat.reduceMul, Nat.reduceLT, Nat.reduceLeDiff, Nat.reduceBNe, Int.reduceNeg, Int.reduceAdd, Int.reduceSub, Int.reduceMul, Int.reduceLT, Int.reduceLE, Int.reduceGT, Int.reduceGE, Int.reduceEq, Int.reduceNe, Int.reduceToNat, Int.reduceTMod, Int.reduceTDiv]
    · simp (disch := omega) only [go_sem, reduceIte, reduceDIte, reduceCtorEq, Nat.reduceBEq, Nat.reduceEqDiff, Nat.reduceAdd, Nat.reduceSub, Nat.reduceMul, Nat.reduceLT, Nat.reduceLeDiff, Nat.reduceBNe, Int.reduceNeg, Int.reduceAdd, Int.reduceSub, Int.reduceMul, Int.reduceLT, Int.reduceLE, Int.reduceGT, Int.reduceGE, Int.reduceEq, Int.reduceNe, Int.reduceToNat, Int.reduceTMod, Int.reduceTDiv]
    · simp (disch := omega) only [go_sem, reduceIte, reduceDIte, reduceCtorEq, Nat.reduceBEq, Nat.reduceEqDiff, Nat.reduceAdd, Nat.reduceSub, Nat.reduceMul, Nat.reduceLT, Nat.reduceLeDiff, Nat.reduceBNe, Int.reduceNeg, Int.reduceAdd, Int.reduceSub, Int.reduceMul, Int.reduceLT, Int.reduceLE, Int.reduceGT, Int.reduceGE, Int.reduceEq, Int.reduceNe, Int.reduceToNat, Int.reduceTMod, Int.reduceTDiv]
    · simp [boxP]
end Go.Proofs.YtjgbdlaecpkmhaaGreatDoor
set_option linter.unusedVariables false
set_option linter.unusedSimpArgs false
set_option maxRecDepth 100000
namespace Go.Proofs.YtjgbdlaecpkmhaaGreatDoor
open Go Nv Pat

theorem let_lt {l r : List Int} {c : Int} (h : letP l = some (c, r)) : r.length < l.length := by
  cases l with
  | nil => cases h
  | cons d t =>
    rw [letP] at h
    split at h
    · cases t with
      | nil => cases h
      | cons d t => simp only [oneP, Option.some.injEq, Prod.mk.injEq] at h; rw [← h.2]; simp; omega
    · split at h
      · cases h
      · simp only [Option.some.injEq, Prod.mk.injEq] at h; rw [← h.2]; simp
theorem clip_char (a b : Int) : ∀ q, q ∈ clipS a b → CharR q := by
  intro q hq
  unfold clipS clip1 at hq
  rcases List.mem_append.1 hq with hq | hq
  · split at hq
    · rw [List.mem_singleton] at hq; subst hq; simp only at *; exact ⟨by simp only; omega, by simp only; omega⟩
    · cases hq
  · split at hq
    · rw [List.mem_singleton] at hq; subst hq; simp only at *; exact ⟨by simp only; omega, by simp only; omega⟩
    · cases hq
theorem fold_char : ∀ (l acc : List (Int × Int)), (∀ q, q ∈ acc → CharR q) → (∀ q, q ∈ l → CharR q) → ∀ q, q ∈ l.foldl joinR acc → CharR q
  | [], acc, h, _ => h
  | r :: l, acc, h, hl => fold_char l (joinR acc r) (joinR_char h (hl r (by simp))) (fun q hq => hl q (by simp [hq]))
theorem fold_len : ∀ (l acc : List (Int × Int)), (l.foldl joinR acc).length ≤ acc.length + l.length
  | [], acc => by simp
  | r :: l, acc => by
    have h1 := fold_len l (joinR acc r)
    have h2 := joinR_len acc r
    rw [List.foldl_cons, List.length_cons]; omega

/-- What is known of the sorting: it sorts in place, and hands back what it took. -/
structure Sorts (sort : List (Int × Int) → List (Int × Int)) : Prop where
  call : SortC sort
  len : ∀ s, (sort s).length = s.length
  mem : ∀ s r, r ∈ sort s ↔ r ∈ s

def hintL : Nat → Hint := fun i => if i = 4 then .own ⟨2, 154⟩ else if i = 37 then .freeze else if i = 39 then .freeze else .no
@[go_sem] theorem hintL_at (i : Nat) : hintL i = if i = 4 then .own ⟨2, 154⟩ else if i = 37 then .freeze else if i = 39 then .freeze else .no := nrfl rfl

theorem class85 (sort : List (Int × Int) → List (Int × Int)) (hS : Sorts sort) (l r : List Int) (hl : l.length ≤ 10000) (h0 : ∀ c, c ∈ l → 0 ≤ c) :
    PS 117 [] l r ((classP sort r).map fun x => (.d (setD x.1), x.2)) := by
  refine PS.of fn117 hintL (Nat.le_refl _) fun A B u e => ?_
  have hl' : l.length ≤ 1000000 := by omega
  simp (disch := omega) only [go_sem, reduceIte, reduceDIte, reduceCtorEq, Nat.reduceBEq, Nat.reduceEqDiff, Nat.reduceAdd, Nat.reduceSub, Nat.reduceMul, Nat.reduceLT, Nat.reduceLeDiff, Nat.reduceBNe, Int.reduceNeg, Int.reduceAdd, Int.reduceSub, Int.reduceMul, Int.reduceLT, Int.reduceLE, Int.reduceGT, Int.reduceGE, Int.reduceEq, Int.reduceNe, Int.reduceToNat, Int.reduceTMod, Int.reduceTDiv]
  refine (skip45 l r hl' 94 (by omega)).at A B u e ?_ (fun h => by cases h)
  intro v r1 u1 τ1 ho e1
  simp only [Option.some.injEq, Prod.mk.injEq] at ho
  obtain ⟨rfl, hr1⟩ := ho
  obtain ⟨neg, hneg⟩ : ∃ neg, neg = decide (r.headD (-1) = 94) := ⟨_, rfl⟩
  have hr1l : r1.length ≤ r.length := by
    rw [← hr1]; split <;> simp
  obtain ⟨tot, htot⟩ : ∃ tot, tot = clsP (r.length + 1) [] r1 := ⟨_, rfl⟩
  have hcl : classP sort r = tot.map fun x => (if neg then compS (normS sort x.1) else normS sort x.1, x.2) := by
    rw [classP, htot, hneg, ← hr1]
    by_cases h : r.headD (-1) = 94
    · simp only [h, if_true, decide_true]
    · simp only [h, if_false, decide_false, Bool.false_eq_true]
  rw [hcl, ← hneg]
  have hul1 : u1.length + r1.length = l.length := by rw [e1, List.length_append]
  clear hcl hr1 hneg
  obtain ⟨B', hB'⟩ : ∃ B', B' = B ++ τ1 := ⟨_, rfl⟩
  rw [← hB']
  simp (disch := omega) only [go_sem, reduceIte, reduceDIte, reduceCtorEq, Nat.reduceBEq, Nat.reduceEqDiff, Nat.reduceAdd, Nat.reduceSub, Nat.reduceMul, Nat.reduceLT, Nat.reduceLeDiff, Nat.reduceBNe, Int.reduceNeg, Int.reduceAdd, Int.reduceSub, Int.reduceMul, Int.reduceLT, Int.reduceLE, Int.reduceGT, Int.reduceGE, Int.reduceEq, Int.reduceNe, Int.reduceToNat, Int.reduceTMod, Int.reduceTDiv, List.append_assoc, List.cons_append, List.nil_append, List.length_append, stGet_app, stGet_app0, stSet_app, stSet_app0]
  refine wL_ind (fun (r' : List Int) fr σ => fr 0 = .ptr (List.length A) 0 ∧ fr 3 = .d (.bool neg) ∧ ∃ (acc : List (Int × Int)) (f g n : Nat) (u' : List Int) (rest : Nv.ST), n = acc.length ∧ acc.length + 2 * r'.length ≤ 2 * r1.length ∧ (∀ q, q ∈ acc → CharR q) ∧ l = u' ++ r' ∧
    r'.length < f ∧ clsP f acc r' = tot ∧ fr 4 = .own (List.length A + (List.length B' + 1)) g 0 n ∧ σ = A ++ boxP l u'.length :: (B' ++ .arr g ⟨2, 154⟩ (acc.map rgD) :: rest)) (fun r' => r'.length) ?_ r1 ?_
  · rintro r' fr σ ⟨f0, f3, acc, f, g, n, u', rest, hn, hal, hac, e', hf, hc, f4, rfl⟩ ih
    have hom : (acc.map rgD).length = n := by simp [hn]
    have hta := take_all (acc.map rgD) n hom
    obtain ⟨f, rfl⟩ : ∃ f', f = f' + 1 := ⟨f - 1, by omega⟩
    rw [clsP] at hc
    by_cases hstop : acc ≠ [] ∧ r'.headD (-1) = 93
    · rw [if_pos hstop] at hc
      have hn0 : 0 < acc.length := by
        cases acc with
        | nil => exact absurd rfl hstop.1
        | cons => simp
      have hnz : ¬ (n : Int) = 0 := by omega
      simp (disch := omega) only [go_sem, reduceIte, reduceDIte, reduceCtorEq, Nat.reduceBEq, Nat.reduceEqDiff, Nat.reduceAdd, Nat.reduceSub, Nat.reduceMul, Nat.reduceLT, Nat.reduceLeDiff, Nat.reduceBNe, Int.reduceNeg, Int.reduceAdd, Int.reduceSub, Int.reduceMul, Int.reduceLT, Int.reduceLE, Int.reduceGT, Int.reduceGE, Int.reduceEq, Int.reduceNe, Int.reduceToNat, Int.reduceTMod, Int.reduceTDiv, f4, f0, hnz, boxP, List.append_assoc, List.cons_append, List.nil_append, List.length_append, stGet_app, stGet_app0, stSet_app, stSet_app0]
      refine (skip45 l r' hl' 93 (by omega)).at A (B' ++ .arr g ⟨2, 154⟩ (acc.map rgD) :: rest) u' e' ?_ (fun h => by cases h)
      intro v r2 u2 τ2 ho e2
      simp only [Option.some.injEq, Prod.mk.injEq] at ho
      obtain ⟨rfl, hr2⟩ := ho
      rw [if_pos hstop.2] at hr2
      simp (disch := omega) only [go_sem, reduceIte, reduceDIte, reduceCtorEq, Nat.reduceBEq, Nat.reduceEqDiff, Nat.reduceAdd, Nat.reduceSub, Nat.reduceMul, Nat.reduceLT, Nat.reduceLeDiff, Nat.reduceBNe, Int.reduceNeg, Int.reduceAdd, Int.reduceSub, Int.reduceMul, Int.reduceLT, Int.reduceLE, Int.reduceGT, Int.reduceGE, Int.reduceEq, Int.reduceNe, Int.reduceToNat, Int.reduceTMod, Int.reduceTDiv, hstop.2, decide_true, f4, List.append_assoc, List.cons_append, List.nil_append, List.length_append, stGet_app, stGet_app0, stSet_app, stSet_app0]
      have hsl := hS.len acc
      have hnm := norm93 sort hS.call acc (fun q hq => hac q ((hS.mem acc q).1 hq)) hsl (by omega) hn0 (List.length A + (List.length B' + 1)) g n hn
        (A ++ boxP l u2.length :: (B' ++ .arr g ⟨2, 154⟩ (acc.map rgD) :: (rest ++ τ2))) (by simp) (by simp (disch := omega) only [go_sem, reduceIte, reduceDIte, reduceCtorEq, Nat.reduceBEq, Nat.reduceEqDiff, Nat.reduceAdd, Nat.reduceSub, Nat.reduceMul, Nat.reduceLT, Nat.reduceLeDiff, Nat.reduceBNe, Int.reduceNeg, Int.reduceAdd, Int.reduceSub, Int.reduceMul, Int.reduceLT, Int.reduceLE, Int.reduceGT, Int.reduceGE, Int.reduceEq, Int.reduceNe, Int.reduceToNat, Int.reduceTMod, Int.reduceTDiv, List.append_assoc, List.cons_append, List.nil_append, List.length_append, stGet_app, stGet_app0, stSet_app, stSet_app0])
      refine hnm.at ?_
      rintro v σ' ⟨g', m, τ', hm, rfl, rfl⟩
      have hnl : (normS sort acc).length ≤ 100000 := by
        have := fold_len (sort acc) []
        rw [normS]; simp at this; omega
      have hnc : ∀ q, q ∈ normS sort acc → CharR q := fold_char _ _ (by simp) (fun q hq => hac q ((hS.mem acc q).1 hq))
      have hom2 : ((normS sort acc).map rgD).length = m := by simp [hm]
      have hta2 := take_all ((normS sort acc).map rgD) m hom2
      rw [← hc, Option.map_some]
      have hu2 : l = u2 ++ r'.tail := by rw [e2, hr2]
      cases neg
      · simp (disch := omega) only [go_sem, reduceIte, reduceDIte, reduceCtorEq, Nat.reduceBEq, Nat.reduceEqDiff, Nat.reduceAdd, Nat.reduceSub, Nat.reduceMul, Nat.reduceLT, Nat.reduceLeDiff, Nat.reduceBNe, Int.reduceNeg, Int.reduceAdd, Int.reduceSub, Int.reduceMul, Int.reduceLT, Int.reduceLE, Int.reduceGT, Int.reduceGE, Int.reduceEq, Int.reduceNe, Int.reduceToNat, Int.reduceTMod, Int.reduceTDiv, f3, hom2, hta2, Nat.zero_add, Nat.le_refl, Bool.false_eq_true, List.append_assoc, List.cons_append, List.nil_append, List.length_append, stGet_app, stGet_app0, stSet_app, stSet_app0]
        refine ⟨rfl, u2, ?q1, hu2, ?_⟩
        rotate_left 1
        · rw [hB']; simp only [List.append_assoc]; rfl
      · have hcm : ∀ g2 : Nat, (compS (normS sort acc)).length = (compS (normS sort acc)).length := fun _ => rfl
        simp (disch := omega) only [go_sem, reduceIte, reduceDIte, reduceCtorEq, Nat.reduceBEq, Nat.reduceEqDiff, Nat.reduceAdd, Nat.reduceSub, Nat.reduceMul, Nat.reduceLT, Nat.reduceLeDiff, Nat.reduceBNe, Int.reduceNeg, Int.reduceAdd, Int.reduceSub, Int.reduceMul, Int.reduceLT, Int.reduceLE, Int.reduceGT, Int.reduceGE, Int.reduceEq, Int.reduceNe, Int.reduceToNat, Int.reduceTMod, Int.reduceTDiv, f3, hom2, hta2, Nat.zero_add, Nat.le_refl, List.append_assoc, List.cons_append, List.nil_append, List.length_append, stGet_app, stGet_app0, stSet_app, stSet_app0]
        refine (comp94 (normS sort acc) hnc hnl _).at ?_
        rintro v σ' ⟨g2, m2, τ3, hm2, rfl, rfl⟩
        have hom3 : ((compS (normS sort acc)).map rgD).length = m2 := by simp [hm2]
        have hta3 := take_all ((compS (normS sort acc)).map rgD) m2 hom3
        simp (disch := omega) only [go_sem, reduceIte, reduceDIte, reduceCtorEq, Nat.reduceBEq, Nat.reduceEqDiff, Nat.reduceAdd, Nat.reduceSub, Nat.reduceMul, Nat.reduceLT, Nat.reduceLeDiff, Nat.reduceBNe, Int.reduceNeg, Int.reduceAdd, Int.reduceSub, Int.reduceMul, Int.reduceLT, Int.reduceLE, Int.reduceGT, Int.reduceGE, Int.reduceEq, Int.reduceNe, Int.reduceToNat, Int.reduceTMod, Int.reduceTDiv, hom3, hta3, Nat.zero_add, Nat.le_refl, List.append_assoc, List.cons_append, List.nil_append, List.length_append, stGet_app, stGet_app0, stSet_app, stSet_app0]
        refine ⟨rfl, u2, ?q2, hu2, ?_⟩
        rotate_left 1
        · rw [hB']; simp only [List.append_assoc]; rfl
    · rw [if_neg hstop] at hc
      by_cases hacc : acc = []
      case' pos =>
        have hnz : (n : Int) = 0 := by rw [hn, hacc]; rfl
        simp (disch := omega) only [go_sem, reduceIte, reduceDIte, reduceCtorEq, Nat.reduceBEq, Nat.reduceEqDiff, Nat.reduceAdd, Nat.reduceSub, Nat.reduceMul, Nat.reduceLT, Nat.reduceLeDiff, Nat.reduceBNe, Int.reduceNeg, Int.reduceAdd, Int.reduceSub, Int.reduceMul, Int.reduceLT, Int.reduceLE, Int.reduceGT, Int.reduceGE, Int.reduceEq, Int.reduceNe, Int.reduceToNat, Int.reduceTMod, Int.reduceTDiv, f4, f0, hnz, boxP, List.append_assoc, List.cons_append, List.nil_append, List.length_append, stGet_app, stGet_app0, stSet_app, stSet_app0]
        generalize hrr : rest = rest2
      case' neg =>
        have hnz : ¬ (n : Int) = 0 := by
          intro h; exact hacc (List.eq_nil_of_length_eq_zero (by omega))
        have hne : ¬ r'.headD (-1) = 93 := fun h => hstop ⟨hacc, h⟩
        simp (disch := omega) only [go_sem, reduceIte, reduceDIte, reduceCtorEq, Nat.reduceBEq, Nat.reduceEqDiff, Nat.reduceAdd, Nat.reduceSub, Nat.reduceMul, Nat.reduceLT, Nat.reduceLeDiff, Nat.reduceBNe, Int.reduceNeg, Int.reduceAdd, Int.reduceSub, Int.reduceMul, Int.reduceLT, Int.reduceLE, Int.reduceGT, Int.reduceGE, Int.reduceEq, Int.reduceNe, Int.reduceToNat, Int.reduceTMod, Int.reduceTDiv, f4, f0, hnz, boxP, List.append_assoc, List.cons_append, List.nil_append, List.length_append, stGet_app, stGet_app0, stSet_app, stSet_app0]
        refine (skip45 l r' hl' 93 (by omega)).at A (B' ++ .arr g ⟨2, 154⟩ (acc.map rgD) :: rest) u' e' ?_ (fun h => by cases h)
        intro v r2 u2 τ2 ho e2
        simp only [Option.some.injEq, Prod.mk.injEq, if_neg hne] at ho
        obtain ⟨rfl, rfl⟩ := ho
        obtain rfl : u' = u2 := List.append_cancel_right (e'.symm.trans e2)
        simp (disch := omega) only [go_sem, reduceIte, reduceDIte, reduceCtorEq, Nat.reduceBEq, Nat.reduceEqDiff, Nat.reduceAdd, Nat.reduceSub, Nat.reduceMul, Nat.reduceLT, Nat.reduceLeDiff, Nat.reduceBNe, Int.reduceNeg, Int.reduceAdd, Int.reduceSub, Int.reduceMul, Int.reduceLT, Int.reduceLE, Int.reduceGT, Int.reduceGE, Int.reduceEq, Int.reduceNe, Int.reduceToNat, Int.reduceTMod, Int.reduceTDiv, hne, decide_false, f0, List.append_assoc, List.cons_append, List.nil_append, List.length_append, stGet_app, stGet_app0, stSet_app, stSet_app0]
        generalize hrr : rest ++ τ2 = rest2
      all_goals
        clear hrr
        refine (letter91 l r' hl' h0).at A (B' ++ .arr g ⟨2, 154⟩ (acc.map rgD) :: rest2) u' e' ?_ (fun hno σ' => ?_)
        · intro v r3 u3 τ3 ho e3
          cases hL : letP r' with
          | none => rw [hL] at ho; cases ho
          | some x =>
            obtain ⟨lo, r3'⟩ := x
            rw [hL] at ho
            simp only [Option.map_some, Option.some.injEq, Prod.mk.injEq] at ho
            obtain ⟨rfl, rfl⟩ := ho
            have hlt := let_lt hL
            simp (disch := omega) only [go_sem, reduceIte, reduceDIte, reduceCtorEq, Nat.reduceBEq, Nat.reduceEqDiff, Nat.reduceAdd, Nat.reduceSub, Nat.reduceMul, Nat.reduceLT, Nat.reduceLeDiff, Nat.reduceBNe, Int.reduceNeg, Int.reduceAdd, Int.reduceSub, Int.reduceMul, Int.reduceLT, Int.reduceLE, Int.reduceGT, Int.reduceGE, Int.reduceEq, Int.reduceNe, Int.reduceToNat, Int.reduceTMod, Int.reduceTDiv, f0, List.append_assoc, List.cons_append, List.nil_append, List.length_append, stGet_app, stGet_app0, stSet_app, stSet_app0]
            refine (skip45 l r3' hl' 45 (by omega)).at A (B' ++ .arr g ⟨2, 154⟩ (acc.map rgD) :: (rest2 ++ τ3)) u3 e3 ?_ (fun h => by cases h)
            intro v r4 u4 τ4 ho e4
            simp only [Option.some.injEq, Prod.mk.injEq] at ho
            obtain ⟨rfl, hr4⟩ := ho
            by_cases h45 : r3'.headD (-1) = 45
            case pos =>
              rw [if_pos h45] at hr4
              simp (disch := omega) only [go_sem, reduceIte, reduceDIte, reduceCtorEq, Nat.reduceBEq, Nat.reduceEqDiff, Nat.reduceAdd, Nat.reduceSub, Nat.reduceMul, Nat.reduceLT, Nat.reduceLeDiff, Nat.reduceBNe, Int.reduceNeg, Int.reduceAdd, Int.reduceSub, Int.reduceMul, Int.reduceLT, Int.reduceLE, Int.reduceGT, Int.reduceGE, Int.reduceEq, Int.reduceNe, Int.reduceToNat, Int.reduceTMod, Int.reduceTDiv, h45, decide_true, f0, List.append_assoc, List.cons_append, List.nil_append, List.length_append, stGet_app, stGet_app0, stSet_app, stSet_app0]
              refine (letter91 l r4 hl' h0).at A (B' ++ .arr g ⟨2, 154⟩ (acc.map rgD) :: (rest2 ++ (τ3 ++ τ4))) u4 e4 ?_ (fun hno σ' => by
                have hi : itemP r' = none := by
                  rw [itemP, hL]; simp only [h45, if_true, hr4]
                  cases hL2 : letP r4 with
                  | none => rfl
                  | some x => rw [hL2] at hno; cases hno
                rw [hi] at hc
                rw [← hc, Option.map_none]
                simp (disch := omega) only [go_sem, reduceIte, reduceDIte, reduceCtorEq, Nat.reduceBEq, Nat.reduceEqDiff, Nat.reduceAdd, Nat.reduceSub, Nat.reduceMul, Nat.reduceLT, Nat.reduceLeDiff, Nat.reduceBNe, Int.reduceNeg, Int.reduceAdd, Int.reduceSub, Int.reduceMul, Int.reduceLT, Int.reduceLE, Int.reduceGT, Int.reduceGE, Int.reduceEq, Int.reduceNe, Int.reduceToNat, Int.reduceTMod, Int.reduceTDiv]; exact ⟨_, rfl⟩)
              intro v r6 u6 τ6 ho e6
              obtain ⟨y, hL2⟩ : ∃ y, letP r4 = some y := by
                cases hL2 : letP r4 with
                | none => rw [hL2] at ho; cases ho
                | some y => exact ⟨y, rfl⟩
              obtain ⟨hi, r6'⟩ := y
              rw [hL2] at ho
              simp only [Option.map_some, Option.some.injEq, Prod.mk.injEq] at ho
              obtain ⟨rfl, rfl⟩ := ho
              have hitem : itemP r' = some ((lo, hi), r6') := by rw [itemP, hL]; simp only [h45, if_true, hr4, hL2, Option.map_some]
              have hlt6 : r6'.length < r'.length := by
                have h1 := let_lt hL2
                have h2 : r4.length ≤ r3'.length := by rw [← hr4]; simp
                omega
              simp (disch := omega) only [go_sem, reduceIte, reduceDIte, reduceCtorEq, Nat.reduceBEq, Nat.reduceEqDiff, Nat.reduceAdd, Nat.reduceSub, Nat.reduceMul, Nat.reduceLT, Nat.reduceLeDiff, Nat.reduceBNe, Int.reduceNeg, Int.reduceAdd, Int.reduceSub, Int.reduceMul, Int.reduceLT, Int.reduceLE, Int.reduceGT, Int.reduceGE, Int.reduceEq, Int.reduceNe, Int.reduceToNat, Int.reduceTMod, Int.reduceTDiv, List.append_assoc, List.cons_append, List.nil_append, List.length_append, stGet_app, stGet_app0, stSet_app, stSet_app0]
              generalize hrr : rest2 ++ (τ3 ++ (τ4 ++ τ6)) = rest3
              rw [hitem] at hc
              simp only at hc
              by_cases hq : hi < lo
              · rw [if_pos hq] at hc
                rw [← hc, Option.map_none]
                simp (disch := omega) only [go_sem, reduceIte, reduceDIte, reduceCtorEq, Nat.reduceBEq, Nat.reduceEqDiff, Nat.reduceAdd, Nat.reduceSub, Nat.reduceMul, Nat.reduceLT, Nat.reduceLeDiff, Nat.reduceBNe, Int.reduceNeg, Int.reduceAdd, Int.reduceSub, Int.reduceMul, Int.reduceLT, Int.reduceLE, Int.reduceGT, Int.reduceGE, Int.reduceEq, Int.reduceNe, Int.reduceToNat, Int.reduceTMod, Int.reduceTDiv, hq, badV]; exact ⟨_, rfl⟩
              · rw [if_neg hq] at hc
                have hcl := clip_len lo hi
                have hb1' : (n + (clipS lo hi).length) * 8 ≤ 140737488355328 := by omega
                simp (disch := omega) only [go_sem, reduceIte, reduceDIte, reduceCtorEq, Nat.reduceBEq, Nat.reduceEqDiff, Nat.reduceAdd, Nat.reduceSub, Nat.reduceMul, Nat.reduceLT, Nat.reduceLeDiff, Nat.reduceBNe, Int.reduceNeg, Int.reduceAdd, Int.reduceSub, Int.reduceMul, Int.reduceLT, Int.reduceLE, Int.reduceGT, Int.reduceGE, Int.reduceEq, Int.reduceNe, Int.reduceToNat, Int.reduceTMod, Int.reduceTDiv, hq]
                refine (clip92 lo hi).at ?_
                simp (disch := omega) only [go_sem, reduceIte, reduceDIte, reduceCtorEq, Nat.reduceBEq, Nat.reduceEqDiff, Nat.reduceAdd, Nat.reduceSub, Nat.reduceMul, Nat.reduceLT, Nat.reduceLeDiff, Nat.reduceBNe, Int.reduceNeg, Int.reduceAdd, Int.reduceSub, Int.reduceMul, Int.reduceLT, Int.reduceLE, Int.reduceGT, Int.reduceGE, Int.reduceEq, Int.reduceNe, Int.reduceToNat, Int.reduceTMod, Int.reduceTDiv, f4, setD, hom, hta, List.length_map, hb1', Nat.zero_add, Nat.le_refl, boxP, List.append_assoc, List.cons_append, List.nil_append, List.length_append, stGet_app, stGet_app0, stSet_app, stSet_app0]
                refine ih r6' _ _ hlt6 ⟨?_, ?_, acc ++ clipS lo hi, f, g + 1, n + (clipS lo hi).length, u6, rest3, by rw [List.length_append, hn], by rw [List.length_append]; omega, ?_, e6, by omega, hc, ?_, ?_⟩
                rotate_right 1
                · rw [List.map_append]; rfl
                · simp (disch := omega) only [go_sem, reduceIte, reduceDIte, reduceCtorEq, Nat.reduceBEq, Nat.reduceEqDiff, Nat.reduceAdd, Nat.reduceSub, Nat.reduceMul, Nat.reduceLT, Nat.reduceLeDiff, Nat.reduceBNe, Int.reduceNeg, Int.reduceAdd, Int.reduceSub, Int.reduceMul, Int.reduceLT, Int.reduceLE, Int.reduceGT, Int.reduceGE, Int.reduceEq, Int.reduceNe, Int.reduceToNat, Int.reduceTMod, Int.reduceTDiv, f0]
                · simp (disch := omega) only [go_sem, reduceIte, reduceDIte, reduceCtorEq, Nat.reduceBEq, Nat.reduceEqDiff, Nat.reduceAdd, Nat.reduceSub, Nat.reduceMul, Nat.reduceLT, Nat.reduceLeDiff, Nat.reduceBNe, Int.reduceNeg, Int.reduceAdd, Int.reduceSub, Int.reduceMul, Int.reduceLT, Int.reduceLE, Int.reduceGT, Int.reduceGE, Int.reduceEq, Int.reduceNe, Int.reduceToNat, Int.reduceTMod, Int.reduceTDiv, f3]
                · intro q hq'
                  rcases List.mem_append.1 hq' with hq' | hq'
                  · exact hac q hq'
                  · exact clip_char lo hi q hq'
                · simp (disch := omega) only [go_sem, reduceIte, reduceDIte, reduceCtorEq, Nat.reduceBEq, Nat.reduceEqDiff, Nat.reduceAdd, Nat.reduceSub, Nat.reduceMul, Nat.reduceLT, Nat.reduceLeDiff, Nat.reduceBNe, Int.reduceNeg, Int.reduceAdd, Int.reduceSub, Int.reduceMul, Int.reduceLT, Int.reduceLE, Int.reduceGT, Int.reduceGE, Int.reduceEq, Int.reduceNe, Int.reduceToNat, Int.reduceTMod, Int.reduceTDiv]
            case neg =>
              rw [if_neg h45] at hr4
              subst hr4
              have hitem : itemP r' = some ((lo, lo), r3') := by rw [itemP, hL]; simp only [h45, if_false]
              have hlt6 : r3'.length < r'.length := hlt
              simp (disch := omega) only [go_sem, reduceIte, reduceDIte, reduceCtorEq, Nat.reduceBEq, Nat.reduceEqDiff, Nat.reduceAdd, Nat.reduceSub, Nat.reduceMul, Nat.reduceLT, Nat.reduceLeDiff, Nat.reduceBNe, Int.reduceNeg, Int.reduceAdd, Int.reduceSub, Int.reduceMul, Int.reduceLT, Int.reduceLE, Int.reduceGT, Int.reduceGE, Int.reduceEq, Int.reduceNe, Int.reduceToNat, Int.reduceTMod, Int.reduceTDiv, h45, decide_false, List.append_assoc, List.cons_append, List.nil_append, List.length_append, stGet_app, stGet_app0, stSet_app, stSet_app0]
              generalize hrr : rest2 ++ (τ3 ++ τ4) = rest3
              rw [hitem] at hc
              simp only at hc
              by_cases hq : lo < lo
              · rw [if_pos hq] at hc
                rw [← hc, Option.map_none]
                simp (disch := omega) only [go_sem, reduceIte, reduceDIte, reduceCtorEq, Nat.reduceBEq, Nat.reduceEqDiff, Nat.reduceAdd, Nat.reduceSub, Nat.reduceMul, Nat.reduceLT, Nat.reduceLeDiff, Nat.reduceBNe, Int.reduceNeg, Int.reduceAdd, Int.reduceSub, Int.reduceMul, Int.reduceLT, Int.reduceLE, Int.reduceGT, Int.reduceGE, Int.reduceEq, Int.reduceNe, Int.reduceToNat, Int.reduceTMod, Int.reduceTDiv, hq, badV]; exact ⟨_, rfl⟩
              · rw [if_neg hq] at hc
                have hcl := clip_len lo lo
                have hb1' : (n + (clipS lo lo).length) * 8 ≤ 140737488355328 := by omega
                simp (disch := omega) only [go_sem, reduceIte, reduceDIte, reduceCtorEq, Nat.reduceBEq, Nat.reduceEqDiff, Nat.reduceAdd, Nat.reduceSub, Nat.reduceMul, Nat.reduceLT, Nat.reduceLeDiff, Nat.reduceBNe, Int.reduceNeg, Int.reduceAdd, Int.reduceSub, Int.reduceMul, Int.reduceLT, Int.reduceLE, Int.reduceGT, Int.reduceGE, Int.reduceEq, Int.reduceNe, Int.reduceToNat, Int.reduceTMod, Int.reduceTDiv, hq]
                refine (clip92 lo lo).at ?_
                simp (disch := omega) only [go_sem, reduceIte, reduceDIte, reduceCtorEq, Nat.reduceBEq, Nat.reduceEqDiff, Nat.reduceAdd, Nat.reduceSub, Nat.reduceMul, Nat.reduceLT, Nat.reduceLeDiff, Nat.reduceBNe, Int.reduceNeg, Int.reduceAdd, Int.reduceSub, Int.reduceMul, Int.reduceLT, Int.reduceLE, Int.reduceGT, Int.reduceGE, Int.reduceEq, Int.reduceNe, Int.reduceToNat, Int.reduceTMod, Int.reduceTDiv, f4, setD, hom, hta, List.length_map, hb1', Nat.zero_add, Nat.le_refl, boxP, List.append_assoc, List.cons_append, List.nil_append, List.length_append, stGet_app, stGet_app0, stSet_app, stSet_app0]
                refine ih r3' _ _ hlt6 ⟨?_, ?_, acc ++ clipS lo lo, f, g + 1, n + (clipS lo lo).length, u4, rest3, by rw [List.length_append, hn], by rw [List.length_append]; omega, ?_, e4, by omega, hc, ?_, ?_⟩
                rotate_right 1
                · rw [List.map_append]; rfl
                · simp (disch := omega) only [go_sem, reduceIte, reduceDIte, reduceCtorEq, Nat.reduceBEq, Nat.reduceEqDiff, Nat.reduceAdd, Nat.reduceSub, Nat.reduceMul, Nat.reduceLT, Nat.reduceLeDiff, Nat.reduceBNe, Int.reduceNeg, Int.reduceAdd, Int.reduceSub, Int.reduceMul, Int.reduceLT, Int.reduceLE, Int.reduceGT, Int.reduceGE, Int.reduceEq, Int.reduceNe, Int.reduceToNat, Int.reduceTMod, Int.reduceTDiv, f0]
                · simp (disch := omega) only [go_sem, reduceIte, reduceDIte, reduceCtorEq, Nat.reduceBEq, Nat.reduceEqDiff, Nat.reduceAdd, Nat.reduceSub, Nat.reduceMul, Nat.reduceLT, Nat.reduceLeDiff, Nat.reduceBNe, Int.reduceNeg, Int.reduceAdd, Int.reduceSub, Int.reduceMul, Int.reduceLT, Int.reduceLE, Int.reduceGT, Int.reduceGE, Int.reduceEq, Int.reduceNe, Int.reduceToNat, Int.reduceTMod, Int.reduceTDiv, f3]
                · intro q hq'
                  rcases List.mem_append.1 hq' with hq' | hq'
                  · exact hac q hq'
                  · exact clip_char lo lo q hq'
                · simp (disch := omega) only [go_sem, reduceIte, reduceDIte, reduceCtorEq, Nat.reduceBEq, Nat.reduceEqDiff, Nat.reduceAdd, Nat.reduceSub, Nat.reduceMul, Nat.reduceLT, Nat.reduceLeDiff, Nat.reduceBNe, Int.reduceNeg, Int.reduceAdd, Int.reduceSub, Int.reduceMul, Int.reduceLT, Int.reduceLE, Int.reduceGT, Int.reduceGE, Int.reduceEq, Int.reduceNe, Int.reduceToNat, Int.reduceTMod, Int.reduceTDiv]
        · cases hL : letP r' with
          | none =>
            rw [itemP, hL] at hc
            rw [← hc, Option.map_none]
            simp (disch := omega) only [go_sem, reduceIte, reduceDIte, reduceCtorEq, Nat.reduceBEq, Nat.reduceEqDiff, Nat.reduceAdd, Nat.reduceSub, Nat.reduceMul, Nat.reduceLT, Nat.reduceLeDiff, Nat.reduceBNe, Int.reduceNeg, Int.reduceAdd, Int.reduceSub, Int.reduceMul, Int.reduceLT, Int.reduceLE, Int.reduceGT, Int.reduceGE, Int.reduceEq, Int.reduceNe, Int.reduceToNat, Int.reduceTMod, Int.reduceTDiv]; exact ⟨_, rfl⟩
          | some x => rw [hL] at hno; cases hno
  · refine ⟨?_, ?_, [], r.length + 1, 0, 0, u1, [], rfl, by simp, by simp, e1, by omega, htot.symm, ?_, ?_⟩
    · simp (disch := omega) only [go_sem, reduceIte, reduceDIte, reduceCtorEq, Nat.reduceBEq, Nat.reduceEqDiff, Nat.reduceAdd, Nat.reduceSub, Nat.reduceMul, Nat.reduceLT, Nat.reduceLeDiff, Nat.reduceBNe, Int.reduceNeg, Int.reduceAdd, Int.reduceSub, Int.reduceMul, Int.reduceLT, Int.reduceLE, Int.reduceGT, Int.reduceGE, Int.reduceEq, Int.reduceNe, Int.reduceToNat, Int.reduceTMod, Int.reduceTDiv]
    · simp (disch := omega) only [go_sem, reduceIte, reduceDIte, reduceCtorEq, Nat.reduceBEq, Nat.reduceEqDiff, Nat.reduceAdd, Nat.reduceSub, Nat.reduceMul, Nat.reduceLT, Nat.reduceLeDiff, Nat.reduceBNe, Int.reduceNeg, Int.reduceAdd, Int.reduceSub, Int.reduceMul, Int.reduceLT, Int.reduceLE, Int.reduceGT, Int.reduceGE, Int.reduceEq, Int.reduceNe, Int.reduceToNat, Int.reduceTMod, Int.reduceTDiv]
    · simp (disch := omega) only [go_sem, reduceIte, reduceDIte, reduceCtorEq, Nat.reduceBEq, Nat.reduceEqDiff, Nat.reduceAdd, Nat.reduceSub, Nat.reduceMul, Nat.reduceLT, Nat.reduceLeDiff, Nat.reduceBNe, Int.reduceNeg, Int.reduceAdd, Int.reduceSub, Int.reduceMul, Int.reduceLT, Int.reduceLE, Int.reduceGT, Int.reduceGE, Int.reduceEq, Int.reduceNe, Int.reduceToNat, Int.reduceTMod, Int.reduceTDiv]
    · simp
end Go.Proofs.YtjgbdlaecpkmhaaGreatDoor
set_option linter.unusedVariables false
set_option maxRecDepth 100000
namespace Go.Proofs.YtjgbdlaecpkmhaaGreatDoor
open Go.Shelf
def Tryz.sortR_ren : Go.Shelf.Ren := ⟨fun | 6 => 122 | 15 => 126 | 14 => 125 | 28 => 136 | 29 => 99 | 20 => 128 | 21 => 129 | 22 => 130 | 23 => 131 | 24 => 132 | 25 => 133 | 26 => 134 | 27 => 135 | 46 => 137 | 47 => 138 | 48 => 139 | 49 => 140 | 50 => 141 | 57 => 142 | n => n, fun | 22 => 75 | 24 => 154 | 25 => 161 | 3 => 3 | 39 => 96 | 0 => 0 | 53 => 113 | 55 => 117 | 4 => 4 | 46 => 165 | 45 => 164 | 50 => 73 | 5 => 5 | 9 => 9 | 66 => 170 | 70 => 174 | 76 => 176 | 77 => 177 | n => n, fun | n => n⟩
theorem Tryz.sortR : Go.Proofs.SlLaysF0.n6 Tryz.prog Tryz.sortR_ren where
  mixed := by kernel_rfl
  f6 := ⟨Tryz.f122.name, by kernel_rfl, Tryz.func122.trans (congrArg some (by kernel_rfl))⟩
  f14 := ⟨Tryz.f125.name, by kernel_rfl, Tryz.func125.trans (congrArg some (by kernel_rfl))⟩
  f15 := Tryz.func126.trans (congrArg some (by kernel_rfl))
  f20 := ⟨Tryz.f128.name, by kernel_rfl, Tryz.func128.trans (congrArg some (by kernel_rfl))⟩
  f21 := ⟨Tryz.f129.name, by kernel_rfl, Tryz.func129.trans (congrArg some (by kernel_rfl))⟩
  f22 := ⟨Tryz.f130.name, by kernel_rfl, Tryz.func130.trans (congrArg some (by kernel_rfl))⟩
  f23 := ⟨Tryz.f131.name, by kernel_rfl, Tryz.func131.trans (congrArg some (by kernel_rfl))⟩
  f24 := ⟨Tryz.f132.name, by kernel_rfl, Tryz.func132.trans (congrArg some (by kernel_rfl))⟩
  f25 := ⟨Tryz.f133.name, by kernel_rfl, Tryz.func133.trans (congrArg some (by kernel_rfl))⟩
  f26 := ⟨Tryz.f134.name, by kernel_rfl, Tryz.func134.trans (congrArg some (by kernel_rfl))⟩
  f27 := ⟨Tryz.f135.name, by kernel_rfl, Tryz.func135.trans (congrArg some (by kernel_rfl))⟩
  f28 := Tryz.func136.trans (congrArg some (by kernel_rfl))
  f29 := Tryz.func99.trans (congrArg some (by kernel_rfl))
  f46 := ⟨Tryz.f137.name, by kernel_rfl, Tryz.func137.trans (congrArg some (by kernel_rfl))⟩
  f47 := Tryz.func138.trans (congrArg some (by kernel_rfl))
  f48 := Tryz.func139.trans (congrArg some (by kernel_rfl))
  f49 := ⟨Tryz.f140.name, by kernel_rfl, Tryz.func140.trans (congrArg some (by kernel_rfl))⟩
  f50 := ⟨Tryz.f141.name, by kernel_rfl, Tryz.func141.trans (congrArg some (by kernel_rfl))⟩
  f57 := ⟨Tryz.f142.name, by kernel_rfl, Tryz.func142.trans (congrArg some (by kernel_rfl))⟩
  t0 := Tryz.underlying0
  a0 := Tryz.isAgg0
  z0 := Tryz.sizeOf0
  v0 := Tryz.zeroValue0
  t3 := Tryz.underlying3
  a3 := Tryz.isAgg3
  z3 := Tryz.sizeOf3
  v3 := Tryz.zeroValue3
  t4 := Tryz.underlying4
  a4 := Tryz.isAgg4
  z4 := Tryz.sizeOf4
  v4 := Tryz.zeroValue4
  t5 := Tryz.underlying5
  a5 := Tryz.isAgg5
  z5 := Tryz.sizeOf5
  v5 := Tryz.zeroValue5
  t9 := Tryz.underlying9
  a9 := Tryz.isAgg9
  z9 := Tryz.sizeOf9
  v9 := Tryz.zeroValue9
  t22 := Tryz.underlying75
  a22 := Tryz.isAgg75
  z22 := Tryz.sizeOf75
  v22 := Tryz.zeroValue75
  t25 := Tryz.underlying161
  a25 := Tryz.isAgg161
  z25 := Tryz.sizeOf161
  v25 := Tryz.zeroValue161
  t39 := Tryz.underlying96
  a39 := Tryz.isAgg96
  z39 := Tryz.sizeOf96
  v39 := Tryz.zeroValue96
  t45 := Tryz.underlying164
  a45 := Tryz.isAgg164
  z45 := Tryz.sizeOf164
  v45 := Tryz.zeroValue164
  t46 := Tryz.underlying165
  a46 := Tryz.isAgg165
  z46 := Tryz.sizeOf165
  v46 := Tryz.zeroValue165
  t50 := Tryz.underlying73
  a50 := Tryz.isAgg73
  z50 := Tryz.sizeOf73
  v50 := Tryz.zeroValue73
  t53 := Tryz.underlying113
  a53 := Tryz.isAgg113
  z53 := Tryz.sizeOf113
  v53 := Tryz.zeroValue113
  t55 := Tryz.underlying117
  a55 := Tryz.isAgg117
  z55 := Tryz.sizeOf117
  v55 := Tryz.zeroValue117
  t66 := Tryz.underlying170
  a66 := Tryz.isAgg170
  z66 := Tryz.sizeOf170
  v66 := Tryz.zeroValue170
  t70 := Tryz.underlying174
  a70 := Tryz.isAgg174
  z70 := Tryz.sizeOf174
  v70 := Tryz.zeroValue174
  t76 := Tryz.underlying176
  a76 := Tryz.isAgg176
  z76 := Tryz.sizeOf176
  v76 := Tryz.zeroValue176
  t77 := Tryz.underlying177
  a77 := Tryz.isAgg177
  z77 := Tryz.sizeOf177
  v77 := Tryz.zeroValue177

open Go.RowKit Go.Lib Go.Sort
def cfR (x y : Int × Int) : Int := if x.1 < y.1 then -1 else if y.1 < x.1 then 1 else 0
def encR (x : Int × Int) : List Go.Value := [.int .i32 x.1, .int .i32 x.2]
set_option maxHeartbeats 1000000 in
theorem closure105 (x y : Int × Int) (W : Go.World) : Go.Calls Tryz.prog 123 #[.agg #[.int .i32 x.1, .int .i32 x.2], .agg #[.int .i32 y.1, .int .i32 y.2]] W fun e w' => e = .returned (.int .i64 (cfR x y)) ∧ ∃ q os', w' = grow (W.drewN q) os' := by
  go_enter Tryz.func123, Tryz.ntmps123
  go_wp2
  all_goals
    go_ret
    refine ⟨?_, 0, _, by rw [alloc_eq_grow, alloc_eq_grow, grow_grow]; rfl⟩
    unfold cfR
    split <;> (try split) <;> first | rfl | (exfalso; omega)
theorem cmpLays105 (blk off size : Nat) (w : Go.World) : CmpLays Tryz.prog 123 #[] encR 2 cfR blk off size w := fun _ _ _ _ x y => closure105 x y _
theorem ltR (x y : Int × Int) : ltOf cfR x y = decide (x.1 < y.1) := by
  unfold ltOf cfR
  by_cases h1 : x.1 < y.1
  · simp [h1]
  · by_cases h2 : y.1 < x.1 <;> simp [h1, h2]
theorem swoR : SWO (ltOf cfR) where
  irrefl x := by rw [ltR]; simp
  trans x y z h1 h2 := by rw [ltR] at *; simp at *; omega
  ntrans x y z h1 h2 := by rw [ltR] at *; simp at *; omega
/-- The ranges in the order in which the library's sort leaves them. -/
def sortR (s : List (Int × Int)) : List (Int × Int) := (pdq (ltOf cfR) s.toArray 0 s.length (Go.Lib.bitLen s.length) true true).toList
theorem sort_facts (s : List (Int × Int)) : PermIn 0 s.length s.toArray (pdq (ltOf cfR) s.toArray 0 s.length (Go.Lib.bitLen s.length) true true) ∧ SortedIn (ltOf cfR) 0 s.length (pdq (ltOf cfR) s.toArray 0 s.length (Go.Lib.bitLen s.length) true true) :=
  pdq_sorts (ltOf cfR) swoR s.toArray 0 s.length (Go.Lib.bitLen s.length) true true (Nat.zero_le _) (by simp) (Or.inl rfl)
theorem sort_perm (s : List (Int × Int)) : (sortR s).Perm s := by
  obtain ⟨⟨h1, _, h2⟩, _⟩ := sort_facts s
  unfold sortR
  generalize pdq (ltOf cfR) s.toArray 0 s.length (Go.Lib.bitLen s.length) true true = d at h1 h2 ⊢
  have hd : d.size = s.length := by simpa using h1
  have e : d.extract 0 s.length = d := by rw [← hd]; simp
  rw [e] at h2
  have e2 : (s.toArray.extract 0 s.length).toList = s := by simp
  rw [e2] at h2
  exact h2
theorem sort_sorted (s : List (Int × Int)) : List.Pairwise (fun p q : Int × Int => p.1 ≤ q.1) (sortR s) := by
  obtain ⟨⟨h1, _, _⟩, h2⟩ := sort_facts s
  unfold sortR
  generalize pdq (ltOf cfR) s.toArray 0 s.length (Go.Lib.bitLen s.length) true true = d at h1 h2 ⊢
  have hd : d.size = s.length := by simpa using h1
  rw [List.pairwise_iff_getElem]
  intro i j hi hj hij
  have := h2 i j (Nat.zero_le _) hij (by simpa [hd] using hj)
  rw [ltR, decide_eq_false_iff_not] at this
  have ei : d[i]! = d[i]'(by simpa using hi) := getElem!_pos d i (by simpa using hi)
  have ej : d[j]! = d[j]'(by simpa using hj) := getElem!_pos d j (by simpa using hj)
  rw [ei, ej] at this
  simp only [Array.getElem_toList]
  omega
theorem sort_len (s : List (Int × Int)) : (sortR s).length = s.length := (sort_perm s).length_eq
theorem sort_mem (s : List (Int × Int)) (r : Int × Int) : r ∈ sortR s ↔ r ∈ s := (sort_perm s).mem_iff
/-- What ascends stays. -/
theorem sort_same (s : List (Int × Int)) (h : List.Pairwise (fun p q : Int × Int => p.1 < q.1) s) : sortR s = s := by
  have hp := sort_perm s
  have hs := sort_sorted s
  have key : ∀ (l m : List (Int × Int)), l.Perm m → List.Pairwise (fun p q : Int × Int => p.1 ≤ q.1) l → List.Pairwise (fun p q : Int × Int => p.1 < q.1) m → l = m := by
    intro l
    induction l with
    | nil => intro m hp _ _; exact (List.nil_perm.1 hp).symm
    | cons x l ih =>
      intro m hp hl hm
      cases m with
      | nil => exact absurd hp.length_eq (by simp)
      | cons y m =>
        have exy : x = y := by
          rcases List.mem_cons.1 (hp.mem_iff.1 (List.mem_cons_self)) with e | hx
          · exact e
          · have h1 := (List.pairwise_cons.1 hm).1 x hx
            rcases List.mem_cons.1 (hp.mem_iff.2 (List.mem_cons_self)) with e | hy
            · exact e.symm
            · have h2 := (List.pairwise_cons.1 hl).1 y hy
              omega
        subst exy
        rw [ih m ((List.perm_cons x).1 hp) (List.pairwise_cons.1 hl).2 (List.pairwise_cons.1 hm).2]
  exact key _ _ hp hs h
end Go.Proofs.YtjgbdlaecpkmhaaGreatDoor
/- A slice of the call's own, written anew in place by a function of the library. -/

set_option linter.unusedVariables false
set_option linter.unusedSimpArgs false
namespace Nv
open Go Go.RowKit

section
variable {P : Program} {ρ ρ' : RHO} {σ σ' : ST} {I I' : Nat → Prop} {w w' : World}

theorem own_anew (hr : RS P ρ I w σ) {b g B : Nat} {e : ET} {xs ys : List DV} (hsb : σ[b]? = some (.arr g e xs)) (hB : (ρ b).blk = some B) (hl : ys.length = xs.length) (hyu : ∀ y, y ∈ ys → Uni e y) {us' : Array Value}
    (hE : Ext w w') (hold : ∀ c, c < w.heap.size → c ≠ B → w'.heap[c]? = w.heap[c]?) (hB' : w'.heap[B]? = some (.cells us' e.t (0, 0))) (hsz : (ρ b).base + (ρ b).cap * e ≤ us'.size)
    (hc : ∀ j c, (flat ys)[j]? = some c → VD I w c (us'.getD ((ρ b).base + j) undef)) :
    ∃ ρ', Step ρ I w σ ρ' I w' (stSet σ b (.arr g e ys)) ∧ RS P ρ' I w' (stSet σ b (.arr g e ys)) := by
  obtain ⟨us, q1, q2, q3, q4, q5⟩ := hr.arr hsb hB
  have hcmp : Compat (.arr g e xs) (ρ b) (.arr g e ys) (ρ b) := .inl ⟨rfl, rfl, rfl, hl⟩
  have hp : ∀ B', (ρ b).blk = some B' → B' = B ∨ w.heap.size ≤ B' := fun B' h => by rw [hB] at h; cases h; exact .inl rfl
  have hstep := step_upd (w' := w') hr hsb hB trivial (ρ b) hcmp hE hold hp
  refine ⟨_, hstep, rs_upd hr hsb hB trivial (ρ b) hcmp hE hold hp ?_⟩
  exact .arr hB hB' hsz (by rw [hl]; exact q3) hyu (fun j c hj => hstep.vd hr (hc j c hj))
end
end Nv
set_option linter.unusedVariables false
set_option linter.unusedSimpArgs false
set_option maxRecDepth 100000
namespace Go.Proofs.YtjgbdlaecpkmhaaGreatDoor
open Go Nv Pat Go.Sort

theorem flat_rg (s : List (Int × Int)) : flat (s.map rgD) = s.flatMap fun r => [.int .i32 r.1, .int .i32 r.2] := by
  simp only [flat, List.flatMap_map, rgD, DV.cells]
theorem rg_cell : ∀ (s : List (Int × Int)) (j : Nat), j < s.length * 2 → (flat (s.map rgD))[j]? = some (if j % 2 = 0 then .int .i32 (s.getD (j / 2) default).1 else .int .i32 (s.getD (j / 2) default).2)
  | [], j, h => by simp at h
  | r :: s, j, h => by
    rw [flat_rg, List.flatMap_cons]
    match j, h with
    | 0, _ => rfl
    | 1, _ => rfl
    | j + 2, h =>
      have := rg_cell s j (by simp at h; omega)
      rw [flat_rg] at this
      rw [show [DV.int IntKind.i32 r.1, DV.int IntKind.i32 r.2] ++ (s.flatMap fun r => [.int .i32 r.1, .int .i32 r.2]) = DV.int IntKind.i32 r.1 :: DV.int IntKind.i32 r.2 :: (s.flatMap fun r => [.int .i32 r.1, .int .i32 r.2]) from rfl,
        List.getElem?_cons_succ, List.getElem?_cons_succ, this]
      simp only [show (j + 2) % 2 = j % 2 by omega, show (j + 2) / 2 = j / 2 + 1 by omega, List.getD_cons_succ]
def valR (s : List (Int × Int)) (j : Nat) : Value := if j % 2 = 0 then .int .i32 (s.getD (j / 2) default).1 else .int .i32 (s.getD (j / 2) default).2
theorem flatK_rg (d : Array (Int × Int)) (j : Nat) (h : j < d.size * 2) : (flatK encR 2 d)[j]! = valR d.toList j := by
  rw [get_flatK _ _ _ _ h, valR]
  have hd : d[j / 2]! = d.toList.getD (j / 2) default := by
    have hlt : j / 2 < d.size := by omega
    rw [getElem!_pos d _ hlt, List.getD_eq_getElem?_getD, Array.getElem?_toList, Array.getElem?_eq_getElem hlt]; rfl
  rw [hd]
  rcases (by omega : j % 2 = 0 ∨ j % 2 = 1) with h2 | h2 <;> simp [h2, encR]

theorem sort104 : SortC sortR := by
  intro s b g σ hb hst h0 hlen K hK ρ I w vs hr hv
  have hsb : σ[b]? = some (.arr g ⟨2, 154⟩ (s.map rgD)) := stGet_some hst (by simp)
  have hsz : vs.size = 2 := by have := hv.1; simpa using this.symm
  obtain ⟨v0, v1, rfl⟩ : ∃ v0 v1, vs = #[v0, v1] := by
    obtain ⟨l⟩ := vs
    match l, hsz with
    | [a, b], _ => exact ⟨a, b, rfl⟩
  have hv0 := hv.2 0 _ rfl
  have hv1 := (hv.2 1 _ rfl).d_inv
  simp only [Array.getD_eq_getD_getElem?, List.size_toArray, List.length_cons, List.length_nil, List.getElem?_toArray, List.getElem?_cons_zero, List.getElem?_cons_succ, Option.getD_some] at hv0 hv1
  obtain rfl : v1 = .func (.func 123) #[] #[] := by cases hv1; rfl
  generalize hn : s.length = n0 at hv0
  cases hv0 with
  | ownNil k1 k2 => omega
  | ownOld k1 k2 => rw [hsb] at k1; cases k1; exact absurd (k2 _ _ _ rfl) (by omega)
  | own k1 k2 k3 k4 =>
    rw [hsb] at k1; cases k1
    subst hn
    rename_i B cap
    obtain ⟨us, q1, q2, q3, q4, q5⟩ := hr.arr hsb k2
    dsimp only at q2
    simp only [Nat.zero_mul, Nat.add_zero]
    have hBlt : B < w.heap.size := by
      rcases Nat.lt_or_ge B w.heap.size with h' | h'
      · exact h'
      · rw [Array.getElem?_eq_none h'] at q1; cases q1
    have hul : (ρ b).base + s.length * 2 ≤ us.size := by
      have : s.length * 2 ≤ (ρ b).cap * 2 := Nat.mul_le_mul_right _ (by simpa using q3)
      omega
    have hH : HoldsK encR 2 w B (ρ b).base s.toArray := by
      intro j hj
      have hj' : j < s.length * 2 := by simpa using hj
      have hc := q5 j _ (rg_cell s j hj')
      have hlt : (ρ b).base + j < us.size := by omega
      refine ⟨?_, by simp [World.frozen?, q1]⟩
      rw [flatK_rg _ _ (by simpa using hj')]
      have hg : us.getD ((ρ b).base + j) undef = valR s j := by
        unfold valR
        by_cases h2 : j % 2 = 0
        · rw [if_pos h2] at hc ⊢; exact hc.int_inv
        · rw [if_neg h2] at hc ⊢; exact hc.int_inv
      simp only [World.cell?, q1, Option.bind_some]
      rw [Array.getD_eq_getD_getElem?, Array.getElem?_eq_getElem hlt, Option.getD_some] at hg
      simp [Array.getElem?_eq_getElem hlt, hg]
    have eg : ∀ args w, (callFunc 123 args).run Tryz.prog w = .ok (.enter 123 args) w := enters_of Tryz.func123 (by kernel_rfl) rfl
    have hcon := AnyQ.slices_SortFunc_eq Tryz.sortR 2 Tryz.isAgg154 Tryz.sizeOf154 encR (fun _ => rfl) (fun x v hv => by simp [encR] at hv; rcases hv with rfl | rfl <;> rfl) cfR swoR 123 #[] B (ρ b).base cap s.toArray w eg
      (cmpLays105 B (ρ b).base s.toArray.size w) hH hBlt (by simp; omega)
    simp only [List.size_toArray] at hcon
    refine hcon.mono ?_
    rintro e w' ⟨rfl, n, os, rfl⟩
    obtain ⟨d, hd⟩ : ∃ d, d = pdq (ltOf cfR) s.toArray 0 s.length (Lib.bitLen s.length) true true := ⟨_, rfl⟩
    have hds : d.toList = sortR s := by rw [hd, sortR]
    have hdz : d.size = s.length := by rw [← Array.length_toList, hds, sort_len]
    rw [← hd]
    obtain ⟨us', hus'⟩ : ∃ us', us' = putCells id (ρ b).base (flatK encR 2 d) us := ⟨_, rfl⟩
    have husz : us'.size = us.size := by rw [hus']; simp [putCells]
    have hheapB : (sortWorldK encR 2 w B (ρ b).base n d os).heap[B]? = some (.cells us' 154 (0, 0)) := by
      have hBl : B < (putRow id (Sort.ahead w n) B (ρ b).base (flatK encR 2 d)).heap.size := by simpa [Sort.ahead] using hBlt
      simp only [sortWorldK, putRowK, grow]
      rw [Array.getElem?_append, if_pos hBl]
      simp [putRow, mapBlock, Sort.ahead, Array.getElem?_modify, q1, onCells, hus']
    have hold : ∀ c, c < w.heap.size → c ≠ B → (sortWorldK encR 2 w B (ρ b).base n d os).heap[c]? = w.heap[c]? := by
      intro c hc hcB
      have hcl : c < (putRow id (Sort.ahead w n) B (ρ b).base (flatK encR 2 d)).heap.size := by simpa [Sort.ahead] using hc
      simp only [sortWorldK, putRowK, grow]
      rw [Array.getElem?_append, if_pos hcl]
      simp [putRow, mapBlock, Sort.ahead, Array.getElem?_modify, show ¬ B = c from fun h => hcB h.symm]
    have hE : Ext w (sortWorldK encR 2 w B (ρ b).base n d os) := Ext.of (by simp [sortWorldK, putRowK, Sort.ahead]) ⟨rfl, rfl, rfl⟩
    obtain ⟨ρ', h1, h2⟩ := own_anew (ys := (sortR s).map rgD) hr hsb k2 (by simp [sort_len]) (fun y hy => by
      obtain ⟨r, _, rfl⟩ := List.mem_map.1 hy
      refine ⟨rfl, fun c hc => ?_⟩
      simp only [rgD, DV.cells, List.mem_cons, List.not_mem_nil, or_false] at hc
      rcases hc with rfl | rfl <;> rfl) hE hold hheapB (by rw [husz]; exact q2) (fun j c hj => by
      have hjl : j < (sortR s).length * 2 := by
        rcases Nat.lt_or_ge j ((sortR s).length * 2) with h | h
        · exact h
        · have hfl : (flat ((sortR s).map rgD)).length = (sortR s).length * 2 := by
            rw [flat_rg]; generalize sortR s = t
            induction t with
            | nil => rfl
            | cons x t ih => simp only [List.flatMap_cons, List.length_append, List.length_cons, ih, List.length_nil]; omega
          rw [List.getElem?_eq_none (by omega)] at hj; cases hj
      rw [rg_cell _ _ hjl] at hj
      simp only [Option.some.injEq] at hj
      have hlt : (ρ b).base + j < us.size := by rw [sort_len] at hjl; omega
      have hval : us'.getD ((ρ b).base + j) undef = valR (sortR s) j := by
        rw [hus', putCells, Array.getD_eq_getD_getElem?, Array.getElem?_mapIdx, Array.getElem?_eq_getElem hlt]
        simp only [Option.map_some, Option.getD_some, size_flatK, hdz]
        rw [sort_len] at hjl
        rw [if_pos ⟨by omega, by omega⟩, show (ρ b).base + j - (ρ b).base = j by omega]
        show (flatK encR 2 d)[j]! = _
        rw [flatK_rg d j (by omega), hds]
      rw [hval, ← hj, valR]
      split <;> exact .int _ _)
    exact ⟨ρ', I, _, .ret (.tuple []), h1, h2, .tuple rfl (fun j c hj => by simp at hj), hK⟩
end Go.Proofs.YtjgbdlaecpkmhaaGreatDoor
