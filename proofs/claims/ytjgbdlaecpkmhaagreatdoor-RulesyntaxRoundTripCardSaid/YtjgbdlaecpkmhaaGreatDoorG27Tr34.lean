/- Part of a proof about the functions of this seat. -/
import Derived.Test.YtjgbdlaecpkmhaaGreatDoorG12NvY
import Derived.Test.YtjgbdlaecpkmhaaGreatDoorG26Nm34
import Derived.Test.YtjgbdlaecpkmhaaGreatDoorG13Rsf
import Derived.Test.YtjgbdlaecpkmhaaGreatDoorG23Rc34
import Derived.Test.YtjgbdlaecpkmhaaGreatDoorG22Vu34
set_option linter.unusedVariables false
set_option linter.unusedSimpArgs false
set_option maxRecDepth 100000
namespace Go.Proofs.YtjgbdlaecpkmhaaGreatDoor
open Go Nv Rul

/- How long a text of proper rules is. -/
theorem itoa_len {n : Int} (h0 : 0 ≤ n) (h1 : n ≤ 99999) : (Lib.itoa n).length ≤ 5 := by
  have e : Lib.itoa n = Lib.decDigits n.toNat := by
    unfold Lib.itoa
    rw [if_neg (by omega)]
  rw [e]
  exact digs_len n.toNat 4 (by omega)
theorem wordC_len (n : Int) : (wordC n).length ≤ 6 := by
  unfold wordC
  split
  · decide
  · split
    · decide
    · split <;> decide
theorem line_len {r : Rule} (h : Ok peM r) (hn : r.name.length ≤ 100) (hp : r.pat.length ≤ 100) : (lineT r).length ≤ 300 := by
  have h1 := wordC_len r.cls
  have h2 : (waitT r).length ≤ 20 := by
    unfold waitT
    split
    · simp
    · have := itoa_len h.wait.1 (by have := h.wait.2; omega)
      simp only [List.length_cons, List.length_append, kWait, List.length_nil]; omega
  have h3 : (rowsT r).length ≤ 30 := by
    have h4 := h.lo
    have h5 := h.lt
    have h6 := h.hi
    unfold rowsT
    split
    · simp
    · have a := itoa_len (n := r.lo + 1) (by omega) (by omega)
      have b := itoa_len (n := r.hi) (by omega) (by omega)
      simp only [List.length_cons, List.length_append, kRows, List.length_nil]; omega
  unfold lineT frontT
  simp only [List.length_cons, List.length_append, List.length_nil]
  omega
theorem fmt_len {l : List Rule} (hz : chkR peM l = 0) (hg : greatR l = false) : (fmt l).length ≤ 90000 := by
  have hs := chk_small hz
  have ho : ∀ r, r ∈ l → Ok peM r := by
    unfold chkR at hz
    split at hz
    · omega
    · exact ok_of l [] hz
  have hg2 : ∀ r, r ∈ l → r.name.length ≤ 100 ∧ r.pat.length ≤ 100 := by
    intro r hr
    unfold greatR at hg
    simp only [Bool.or_eq_false_iff, List.any_eq_false] at hg
    have := hg.2 r hr
    simp only [Bool.or_eq_true, decide_eq_true_eq, not_or] at this
    omega
  have : ∀ m : List Rule, (∀ r, r ∈ m → r ∈ l) → (fmt m).length ≤ 301 * m.length := by
    intro m hm
    induction m with
    | nil => simp [fmt]
    | cons r m ih =>
      have h1 := line_len (ho r (hm r (by simp))) (hg2 r (hm r (by simp))).1 (hg2 r (hm r (by simp))).2
      have h2 := ih (fun x hx => hm x (by simp [hx]))
      show ((lineT r ++ [10]) ++ fmt m).length ≤ _
      simp only [List.length_append, List.length_cons, List.length_nil]
      omega
  have := this l (fun r hr => hr)
  omega
/- Round trip, at a contract of Format. -/
def FormatC : Prop := ∀ l : List Rule, Sized l → greatR l = false → PCall Tryz.prog 16 [.d (rulesD l)] (.tuple [.d (.str (if chkR peM l = 0 then fmt l else [])), .d (.int .i64 (chkR peM l))])
theorem round_law (hf : FormatC) (l : List Rule) (hs : Sized l) : PCall Tryz.prog 6 [.d (rulesD l)] (.d (.bool true)) := by
  refine fn6.pure noHint (Nat.le_refl _) (by simp only [go_sem, rulesD]) (by simp only [go_sem]) ?_
  simp (disch := omega) only [go_sem, reduceIte, reduceDIte, reduceCtorEq, Nat.reduceBEq, Nat.reduceEqDiff, Nat.reduceAdd, Nat.reduceSub, Nat.reduceMul, Nat.reduceLT, Nat.reduceLeDiff, Nat.reduceBNe, Int.reduceNeg, Int.reduceAdd, Int.reduceSub, Int.reduceMul, Int.reduceLT, Int.reduceLE, Int.reduceGT, Int.reduceGE, Int.reduceEq, Int.reduceNe, Int.reduceToNat, Int.reduceTMod, Int.reduceTDiv]
  refine (great15 (.inl rfl) hs).at ?_
  cases hg : greatR l
  · simp (disch := omega) only [go_sem, reduceIte, reduceDIte, reduceCtorEq, Nat.reduceBEq, Nat.reduceEqDiff, Nat.reduceAdd, Nat.reduceSub, Nat.reduceMul, Nat.reduceLT, Nat.reduceLeDiff, Nat.reduceBNe, Int.reduceNeg, Int.reduceAdd, Int.reduceSub, Int.reduceMul, Int.reduceLT, Int.reduceLE, Int.reduceGT, Int.reduceGE, Int.reduceEq, Int.reduceNe, Int.reduceToNat, Int.reduceTMod, Int.reduceTDiv]
    refine (hf l hs hg).at ?_
    by_cases hz : chkR peM l = 0
    · rw [if_pos hz]
      obtain ⟨h1, h2⟩ := fmt_ok (pe := peM) hz
      have hsm := chk_small hz
      have hbl := fmt_len hz hg
      simp (disch := omega) only [go_sem, reduceIte, reduceDIte, reduceCtorEq, Nat.reduceBEq, Nat.reduceEqDiff, Nat.reduceAdd, Nat.reduceSub, Nat.reduceMul, Nat.reduceLT, Nat.reduceLeDiff, Nat.reduceBNe, Int.reduceNeg, Int.reduceAdd, Int.reduceSub, Int.reduceMul, Int.reduceLT, Int.reduceLE, Int.reduceGT, Int.reduceGE, Int.reduceEq, Int.reduceNe, Int.reduceToNat, Int.reduceTMod, Int.reduceTDiv, hz]
      refine (parse10 (fmt l) hbl).at ?_
      rw [h1]
      simp (disch := omega) only [go_sem, reduceIte, reduceDIte, reduceCtorEq, Nat.reduceBEq, Nat.reduceEqDiff, Nat.reduceAdd, Nat.reduceSub, Nat.reduceMul, Nat.reduceLT, Nat.reduceLeDiff, Nat.reduceBNe, Int.reduceNeg, Int.reduceAdd, Int.reduceSub, Int.reduceMul, Int.reduceLT, Int.reduceLE, Int.reduceGT, Int.reduceGE, Int.reduceEq, Int.reduceNe, Int.reduceToNat, Int.reduceTMod, Int.reduceTDiv, parseA]
      refine (checkA (.inl rfl) hs).at ?_
      simp (disch := omega) only [go_sem, reduceIte, reduceDIte, reduceCtorEq, Nat.reduceBEq, Nat.reduceEqDiff, Nat.reduceAdd, Nat.reduceSub, Nat.reduceMul, Nat.reduceLT, Nat.reduceLeDiff, Nat.reduceBNe, Int.reduceNeg, Int.reduceAdd, Int.reduceSub, Int.reduceMul, Int.reduceLT, Int.reduceLE, Int.reduceGT, Int.reduceGE, Int.reduceEq, Int.reduceNe, Int.reduceToNat, Int.reduceTMod, Int.reduceTDiv, hz]
      have h := same13 (.inl rfl : IsRules (.d (rulesD l)) l) (listA_is l) (by omega)
      rw [decide_eq_true rfl] at h
      refine h.at ?_
      simp (disch := omega) only [go_sem, reduceIte, reduceDIte, reduceCtorEq, Nat.reduceBEq, Nat.reduceEqDiff, Nat.reduceAdd, Nat.reduceSub, Nat.reduceMul, Nat.reduceLT, Nat.reduceLeDiff, Nat.reduceBNe, Int.reduceNeg, Int.reduceAdd, Int.reduceSub, Int.reduceMul, Int.reduceLT, Int.reduceLE, Int.reduceGT, Int.reduceGE, Int.reduceEq, Int.reduceNe, Int.reduceToNat, Int.reduceTMod, Int.reduceTDiv]
      refine (count11 (fmt l)).at ?_
      simp (disch := omega) only [go_sem, reduceIte, reduceDIte, reduceCtorEq, Nat.reduceBEq, Nat.reduceEqDiff, Nat.reduceAdd, Nat.reduceSub, Nat.reduceMul, Nat.reduceLT, Nat.reduceLeDiff, Nat.reduceBNe, Int.reduceNeg, Int.reduceAdd, Int.reduceSub, Int.reduceMul, Int.reduceLT, Int.reduceLE, Int.reduceGT, Int.reduceGE, Int.reduceEq, Int.reduceNe, Int.reduceToNat, Int.reduceTMod, Int.reduceTDiv, h2, rulesD, List.length_map]
      refine awake9.at ?_
      simp (disch := omega) only [go_sem, reduceIte, reduceDIte, reduceCtorEq, Nat.reduceBEq, Nat.reduceEqDiff, Nat.reduceAdd, Nat.reduceSub, Nat.reduceMul, Nat.reduceLT, Nat.reduceLeDiff, Nat.reduceBNe, Int.reduceNeg, Int.reduceAdd, Int.reduceSub, Int.reduceMul, Int.reduceLT, Int.reduceLE, Int.reduceGT, Int.reduceGE, Int.reduceEq, Int.reduceNe, Int.reduceToNat, Int.reduceTMod, Int.reduceTDiv]
    · rw [if_neg hz]
      simp (disch := omega) only [go_sem, reduceIte, reduceDIte, reduceCtorEq, Nat.reduceBEq, Nat.reduceEqDiff, Nat.reduceAdd, Nat.reduceSub, Nat.reduceMul, Nat.reduceLT, Nat.reduceLeDiff, Nat.reduceBNe, Int.reduceNeg, Int.reduceAdd, Int.reduceSub, Int.reduceMul, Int.reduceLT, Int.reduceLE, Int.reduceGT, Int.reduceGE, Int.reduceEq, Int.reduceNe, Int.reduceToNat, Int.reduceTMod, Int.reduceTDiv, hz]
      refine (checkA (.inl rfl) hs).at ?_
      simp (disch := omega) only [go_sem, reduceIte, reduceDIte, reduceCtorEq, Nat.reduceBEq, Nat.reduceEqDiff, Nat.reduceAdd, Nat.reduceSub, Nat.reduceMul, Nat.reduceLT, Nat.reduceLeDiff, Nat.reduceBNe, Int.reduceNeg, Int.reduceAdd, Int.reduceSub, Int.reduceMul, Int.reduceLT, Int.reduceLE, Int.reduceGT, Int.reduceGE, Int.reduceEq, Int.reduceNe, Int.reduceToNat, Int.reduceTMod, Int.reduceTDiv, hz]
      refine awake9.at ?_
      simp (disch := omega) only [go_sem, reduceIte, reduceDIte, reduceCtorEq, Nat.reduceBEq, Nat.reduceEqDiff, Nat.reduceAdd, Nat.reduceSub, Nat.reduceMul, Nat.reduceLT, Nat.reduceLeDiff, Nat.reduceBNe, Int.reduceNeg, Int.reduceAdd, Int.reduceSub, Int.reduceMul, Int.reduceLT, Int.reduceLE, Int.reduceGT, Int.reduceGE, Int.reduceEq, Int.reduceNe, Int.reduceToNat, Int.reduceTMod, Int.reduceTDiv]
  · simp (disch := omega) only [go_sem, reduceIte, reduceDIte, reduceCtorEq, Nat.reduceBEq, Nat.reduceEqDiff, Nat.reduceAdd, Nat.reduceSub, Nat.reduceMul, Nat.reduceLT, Nat.reduceLeDiff, Nat.reduceBNe, Int.reduceNeg, Int.reduceAdd, Int.reduceSub, Int.reduceMul, Int.reduceLT, Int.reduceLE, Int.reduceGT, Int.reduceGE, Int.reduceEq, Int.reduceNe, Int.reduceToNat, Int.reduceTMod, Int.reduceTDiv]
    refine awake9.at ?_
    simp (disch := omega) only [go_sem, reduceIte, reduceDIte, reduceCtorEq, Nat.reduceBEq, Nat.reduceEqDiff, Nat.reduceAdd, Nat.reduceSub, Nat.reduceMul, Nat.reduceLT, Nat.reduceLeDiff, Nat.reduceBNe, Int.reduceNeg, Int.reduceAdd, Int.reduceSub, Int.reduceMul, Int.reduceLT, Int.reduceLE, Int.reduceGT, Int.reduceGE, Int.reduceEq, Int.reduceNe, Int.reduceToNat, Int.reduceTMod, Int.reduceTDiv]
end Go.Proofs.YtjgbdlaecpkmhaaGreatDoor
set_option linter.unusedVariables false
set_option linter.unusedSimpArgs false
set_option maxRecDepth 100000
namespace Go.Proofs.YtjgbdlaecpkmhaaGreatDoor
open Go Nv Rul

/- Format. -/
def hints16 : Nat → Hint := fun i => if i = 100019 then .lst 7 else if i = 100043 then .lst 10 else .no
@[go_sem] theorem hints16_at (i : Nat) : hints16 i = if i = 100019 then .lst 7 else if i = 100043 then .lst 10 else .no := nrfl rfl
def piece1 (r : Rule) : List UInt8 := r.name ++ [32] ++ wordC r.cls
def piece2 (r : Rule) : List UInt8 := [32, 119, 97, 105, 116, 32] ++ Lib.itoa r.wait
def piece3 (r : Rule) : List UInt8 := [32, 114, 111, 119, 115, 32] ++ Lib.itoa (r.lo + 1) ++ [45] ++ Lib.itoa r.hi
def piece4 (r : Rule) : List UInt8 := [32, 34] ++ r.pat ++ [34, 10]
theorem line_pieces (r : Rule) : lineT r ++ [10] = piece1 r ++ ((if r.wait = 0 then [] else piece2 r) ++ ((if r.lo = 0 ∧ r.hi = 60 then [] else piece3 r) ++ piece4 r)) := by
  unfold lineT frontT waitT rowsT
  split <;> split <;> simp [piece1, piece2, piece3, piece4, kWait, kRows]
theorem fmt_take {l : List Rule} {j : Nat} (h : j < l.length) : fmt (l.take (j + 1)) = fmt (l.take j) ++ (lineT (l.getD j default) ++ [10]) := by
  unfold fmt
  rw [List.take_succ_eq_append_getElem h, List.flatMap_append]
  simp [List.getD_eq_getElem?_getD, h]
theorem fmt_le (l : List Rule) (j : Nat) : (fmt (l.take j)).length ≤ (fmt l).length := by
  have : fmt l = fmt (l.take j) ++ fmt (l.drop j) := by unfold fmt; rw [← List.flatMap_append, List.take_append_drop]
  rw [this, List.length_append]; omega
def B2 (s : List UInt8) (σ : Nv.ST) : Prop := ∃ g x rest n, n = s.length ∧ σ = .box 54 [.ptr 0 0, .own 2 g 0 n] :: x :: .arr g ⟨1, 5⟩ (byD s) :: rest
/-- The store in a round: the text so far, the rule at its place. -/
structure InR (s : List UInt8) (r : Rule) (k : Nat) (σ : Nv.ST) : Prop where
  st : BSt s σ
  lt : k < σ.length
  n0 : k ≠ 0
  n2 : k ≠ 2
  at' : stGet σ k = .box 33 (ruleC r)
theorem InR.write {s t : List UInt8} {r : Rule} {k : Nat} {σ : Nv.ST} (h : InR s r k σ) (hs : s.length ≤ 1048576) (ht : t.length ≤ 1048576) :
    ∃ σ', InR (s ++ t) r k σ' ∧ stGet σ' k = .box 33 (ruleC r) ∧ SCall Tryz.prog 28 [.ptr 0 0, .d (.str t)] σ (.tuple [.d (.int .i64 t.length), .d .niliface]) σ' := by
  obtain ⟨σ', h1, h2, h3, h4⟩ := write28 h.st hs ht
  have e := (h3 k h.n0 h.n2 h.lt).trans h.at'
  exact ⟨σ', ⟨h1, Nat.lt_of_lt_of_le h.lt h2, h.n0, h.n2, e⟩, e, h4⟩
theorem B2.of {s : List UInt8} {σ : Nv.ST} {t : List UInt8} (h : BSt s σ) (hs : s = t) (hne : t ≠ []) : B2 t σ := by
  subst hs
  rcases h with ⟨h, _⟩ | h
  · exact absurd h hne
  · exact h

theorem great_of {l : List Rule} (hg : greatR l = false) : ∀ r, r ∈ l → r.name.length ≤ 100 ∧ r.pat.length ≤ 100 := by
  intro r hr
  unfold greatR at hg
  simp only [Bool.or_eq_false_iff, List.any_eq_false] at hg
  have := hg.2 r hr
  simp only [Bool.or_eq_true, decide_eq_true_eq, not_or] at this
  omega

theorem format16 : FormatC := by
  intro l hs hg
  refine fn16.pure hints16 (Nat.le_refl _) (by simp only [go_sem, rulesD]) (by simp only [go_sem]) ?_
  simp (disch := omega) only [go_sem, reduceIte, reduceDIte, reduceCtorEq, Nat.reduceBEq, Nat.reduceEqDiff, Nat.reduceAdd, Nat.reduceSub, Nat.reduceMul, Nat.reduceLT, Nat.reduceLeDiff, Nat.reduceBNe, Int.reduceNeg, Int.reduceAdd, Int.reduceSub, Int.reduceMul, Int.reduceLT, Int.reduceLE, Int.reduceGT, Int.reduceGE, Int.reduceEq, Int.reduceNe, Int.reduceToNat, Int.reduceTMod, Int.reduceTDiv]
  refine (checkA (.inl rfl) hs).at ?_
  by_cases hz : chkR peM l = 0
  rotate_left 1
  · rw [if_neg hz]
    simp (disch := omega) only [go_sem, reduceIte, reduceDIte, reduceCtorEq, Nat.reduceBEq, Nat.reduceEqDiff, Nat.reduceAdd, Nat.reduceSub, Nat.reduceMul, Nat.reduceLT, Nat.reduceLeDiff, Nat.reduceBNe, Int.reduceNeg, Int.reduceAdd, Int.reduceSub, Int.reduceMul, Int.reduceLT, Int.reduceLE, Int.reduceGT, Int.reduceGE, Int.reduceEq, Int.reduceNe, Int.reduceToNat, Int.reduceTMod, Int.reduceTDiv, hz]
  rw [if_pos hz, hz]
  have hbl := fmt_len hz hg
  have hsm := chk_small hz
  have hok : ∀ r, r ∈ l → Ok peM r := by
    have h := hz
    unfold chkR at h
    split at h
    · omega
    · exact ok_of l [] h
  simp (disch := omega) only [go_sem, reduceIte, reduceDIte, reduceCtorEq, Nat.reduceBEq, Nat.reduceEqDiff, Nat.reduceAdd, Nat.reduceSub, Nat.reduceMul, Nat.reduceLT, Nat.reduceLeDiff, Nat.reduceBNe, Int.reduceNeg, Int.reduceAdd, Int.reduceSub, Int.reduceMul, Int.reduceLT, Int.reduceLE, Int.reduceGT, Int.reduceGE, Int.reduceEq, Int.reduceNe, Int.reduceToNat, Int.reduceTMod, Int.reduceTDiv, rulesD, List.length_map]
  refine wL_ind (fun (j : Nat) fr σ => j ≤ l.length ∧ fr 5 = .ptr 0 0 ∧ fr 13 = .d (.list 6 (l.map ruleD)) ∧ fr 14 = .d (.int .i64 l.length) ∧ fr 15 = .d (.int .i64 j) ∧
    ((j = 0 ∧ σ = [.box 54 [.d .nilptr, .d .nilslice]]) ∨ (0 < j ∧ B2 (fmt (l.take j)) σ))) (fun j => l.length - j) ?_ 0 ?_
  · rintro j fr σ ⟨hj, f5, f13, f14, f15, hσ⟩ ih
    by_cases hlt : j < l.length
    · obtain ⟨r, hr⟩ : ∃ r, r = l.getD j default := ⟨_, rfl⟩
      have hm : r ∈ l := by rw [hr]; exact rule_mem hlt
      have hget : (l.map ruleD).getD j default = ruleD r := by rw [hr]; exact rule_get l j hlt
      have ho := hok r hm
      have ft : fmt (l.take (j + 1)) = fmt (l.take j) ++ (lineT r ++ [10]) := by rw [hr]; exact fmt_take hlt
      have hle := fmt_le l (j + 1)
      rw [ft, line_pieces] at hle
      simp only [List.length_append] at hle
      have h0 : InR (fmt (l.take j)) r σ.length (σ ++ [.box 33 (ruleC r)]) := by
        rcases hσ with ⟨rfl, rfl⟩ | ⟨hj0, g, x, rest, n, hn, rfl⟩
        · exact ⟨.inl ⟨rfl, _, rfl⟩, by simp, by simp, by simp, rfl⟩
        · exact ⟨.inr ⟨g, x, rest ++ [.box 33 (ruleC r)], n, hn, rfl⟩, by simp, by simp, by simp, stGet_last _ _⟩
      obtain ⟨s0, hs0⟩ : ∃ s0, s0 = fmt (l.take j) := ⟨_, rfl⟩
      rw [← hs0] at h0 hle
      have hp1 : (piece1 r).length = r.name.length + 1 + (wordC r.cls).length := by simp [piece1]; omega
      have hp4 : (piece4 r).length = r.pat.length + 4 := by simp [piece4]
      obtain ⟨σ1, h1, g1, c1⟩ := h0.write (t := piece1 r) (by omega) (by omega)
      simp (disch := omega) only [go_sem, reduceIte, reduceDIte, reduceCtorEq, Nat.reduceBEq, Nat.reduceEqDiff, Nat.reduceAdd, Nat.reduceSub, Nat.reduceMul, Nat.reduceLT, Nat.reduceLeDiff, Nat.reduceBNe, Int.reduceNeg, Int.reduceAdd, Int.reduceSub, Int.reduceMul, Int.reduceLT, Int.reduceLE, Int.reduceGT, Int.reduceGE, Int.reduceEq, Int.reduceNe, Int.reduceToNat, Int.reduceTMod, Int.reduceTDiv, f5, f13, f14, f15, hlt, hget, ruleD_cells]
      refine w1_of σ1 ?_
      simp only [ruleC] at g1
      have hn := great_of hg r hm
      have hw := wordC_len r.cls
      have b1 : r.name.length ≤ 9223372036854775806 := by omega
      have b2 : r.name.length + 1 + (wordC r.cls).length ≤ 9223372036854775807 := by omega
      simp (disch := omega) only [go_sem, reduceIte, reduceDIte, reduceCtorEq, Nat.reduceBEq, Nat.reduceEqDiff, Nat.reduceAdd, Nat.reduceSub, Nat.reduceMul, Nat.reduceLT, Nat.reduceLeDiff, Nat.reduceBNe, Int.reduceNeg, Int.reduceAdd, Int.reduceSub, Int.reduceMul, Int.reduceLT, Int.reduceLE, Int.reduceGT, Int.reduceGE, Int.reduceEq, Int.reduceNe, Int.reduceToNat, Int.reduceTMod, Int.reduceTDiv, g1, b1]
      refine (word29 r.cls).dat ?_
      simp (disch := omega) only [go_sem, reduceIte, reduceDIte, reduceCtorEq, Nat.reduceBEq, Nat.reduceEqDiff, Nat.reduceAdd, Nat.reduceSub, Nat.reduceMul, Nat.reduceLT, Nat.reduceLeDiff, Nat.reduceBNe, Int.reduceNeg, Int.reduceAdd, Int.reduceSub, Int.reduceMul, Int.reduceLT, Int.reduceLE, Int.reduceGT, Int.reduceGE, Int.reduceEq, Int.reduceNe, Int.reduceToNat, Int.reduceTMod, Int.reduceTDiv, g1]
      refine (word29 r.cls).dat ?_
      have hok2 := ho
      have o1 := ho.wait
      have o2 := ho.lo
      have o3 := ho.lt
      have o4 := ho.hi
      have l1 := itoa_len (n := r.lo + 1) (by omega) (by omega)
      have l2 := itoa_len (n := r.hi) (by omega) (by omega)
      have l3 := itoa_len (n := r.wait) (by omega) (by omega)
      have hp3 : (piece3 r).length = 7 + (Lib.itoa (r.lo + 1)).length + (Lib.itoa r.hi).length := by simp [piece3]; omega
      have hp2 : (piece2 r).length = 6 + (Lib.itoa r.wait).length := by simp [piece2]; omega
      have b4 : 2 + r.pat.length ≤ 9223372036854775807 := by omega
      have b5 : r.pat.length ≤ 9223372036854775803 := by omega
      have i1 : IntKind.i64.wrap (r.lo + 1) = r.lo + 1 := wrap_id (by omega) (by omega)
      have i2 : 6 + (Lib.itoa (r.lo + 1)).length ≤ 9223372036854775807 := by omega
      have i3 : (Lib.itoa (r.lo + 1)).length ≤ 9223372036854775800 := by omega
      have i4 : (Lib.itoa (r.lo + 1)).length + 1 + 1 + 1 + 1 + 1 + 1 + 1 + (Lib.itoa r.hi).length ≤ 9223372036854775807 := by omega
      have i5 : 6 + (Lib.itoa r.wait).length ≤ 9223372036854775807 := by omega
      simp (disch := omega) only [go_sem, reduceIte, reduceDIte, reduceCtorEq, Nat.reduceBEq, Nat.reduceEqDiff, Nat.reduceAdd, Nat.reduceSub, Nat.reduceMul, Nat.reduceLT, Nat.reduceLeDiff, Nat.reduceBNe, Int.reduceNeg, Int.reduceAdd, Int.reduceSub, Int.reduceMul, Int.reduceLT, Int.reduceLE, Int.reduceGT, Int.reduceGE, Int.reduceEq, Int.reduceNe, Int.reduceToNat, Int.reduceTMod, Int.reduceTDiv, g1, b2, f5, List.length_append, List.length_cons, List.length_nil]
      refine SCall.one c1 ?_
      by_cases hwt : r.wait = 0
      · skip
        simp (disch := omega) only [go_sem, reduceIte, reduceDIte, reduceCtorEq, Nat.reduceBEq, Nat.reduceEqDiff, Nat.reduceAdd, Nat.reduceSub, Nat.reduceMul, Nat.reduceLT, Nat.reduceLeDiff, Nat.reduceBNe, Int.reduceNeg, Int.reduceAdd, Int.reduceSub, Int.reduceMul, Int.reduceLT, Int.reduceLE, Int.reduceGT, Int.reduceGE, Int.reduceEq, Int.reduceNe, Int.reduceToNat, Int.reduceTMod, Int.reduceTDiv, g1, hwt]
        by_cases hlo : r.lo = 0
        · by_cases hhi : r.hi = 60
          · skip
            obtain ⟨σ9, h9, g9, c9⟩ := h1.write (t := piece4 r) (by simp only [List.length_append]; omega) (by omega)
            simp (disch := omega) only [go_sem, reduceIte, reduceDIte, reduceCtorEq, Nat.reduceBEq, Nat.reduceEqDiff, Nat.reduceAdd, Nat.reduceSub, Nat.reduceMul, Nat.reduceLT, Nat.reduceLeDiff, Nat.reduceBNe, Int.reduceNeg, Int.reduceAdd, Int.reduceSub, Int.reduceMul, Int.reduceLT, Int.reduceLE, Int.reduceGT, Int.reduceGE, Int.reduceEq, Int.reduceNe, Int.reduceToNat, Int.reduceTMod, Int.reduceTDiv, f5, g1, b4, b5, List.length_append, List.length_cons, List.length_nil, hlo, hhi]
            refine c9.at ?_
            simp (disch := omega) only [go_sem, reduceIte, reduceDIte, reduceCtorEq, Nat.reduceBEq, Nat.reduceEqDiff, Nat.reduceAdd, Nat.reduceSub, Nat.reduceMul, Nat.reduceLT, Nat.reduceLeDiff, Nat.reduceBNe, Int.reduceNeg, Int.reduceAdd, Int.reduceSub, Int.reduceMul, Int.reduceLT, Int.reduceLE, Int.reduceGT, Int.reduceGE, Int.reduceEq, Int.reduceNe, Int.reduceToNat, Int.reduceTMod, Int.reduceTDiv, f5, f13, f14, f15]
            refine ih (j + 1) _ _ (by omega) ⟨by omega, ?_, ?_, ?_, ?_, .inr ⟨by omega, B2.of h9.st ?_ ?_⟩⟩
            · simp (disch := omega) only [go_sem, reduceIte, reduceDIte, reduceCtorEq, Nat.reduceBEq, Nat.reduceEqDiff, Nat.reduceAdd, Nat.reduceSub, Nat.reduceMul, Nat.reduceLT, Nat.reduceLeDiff, Nat.reduceBNe, Int.reduceNeg, Int.reduceAdd, Int.reduceSub, Int.reduceMul, Int.reduceLT, Int.reduceLE, Int.reduceGT, Int.reduceGE, Int.reduceEq, Int.reduceNe, Int.reduceToNat, Int.reduceTMod, Int.reduceTDiv, f5]
            · simp (disch := omega) only [go_sem, reduceIte, reduceDIte, reduceCtorEq, Nat.reduceBEq, Nat.reduceEqDiff, Nat.reduceAdd, Nat.reduceSub, Nat.reduceMul, Nat.reduceLT, Nat.reduceLeDiff, Nat.reduceBNe, Int.reduceNeg, Int.reduceAdd, Int.reduceSub, Int.reduceMul, Int.reduceLT, Int.reduceLE, Int.reduceGT, Int.reduceGE, Int.reduceEq, Int.reduceNe, Int.reduceToNat, Int.reduceTMod, Int.reduceTDiv, f13]
            · simp (disch := omega) only [go_sem, reduceIte, reduceDIte, reduceCtorEq, Nat.reduceBEq, Nat.reduceEqDiff, Nat.reduceAdd, Nat.reduceSub, Nat.reduceMul, Nat.reduceLT, Nat.reduceLeDiff, Nat.reduceBNe, Int.reduceNeg, Int.reduceAdd, Int.reduceSub, Int.reduceMul, Int.reduceLT, Int.reduceLE, Int.reduceGT, Int.reduceGE, Int.reduceEq, Int.reduceNe, Int.reduceToNat, Int.reduceTMod, Int.reduceTDiv, f14]
            · simp (disch := omega) only [go_sem, reduceIte, reduceDIte, reduceCtorEq, Nat.reduceBEq, Nat.reduceEqDiff, Nat.reduceAdd, Nat.reduceSub, Nat.reduceMul, Nat.reduceLT, Nat.reduceLeDiff, Nat.reduceBNe, Int.reduceNeg, Int.reduceAdd, Int.reduceSub, Int.reduceMul, Int.reduceLT, Int.reduceLE, Int.reduceGT, Int.reduceGE, Int.reduceEq, Int.reduceNe, Int.reduceToNat, Int.reduceTMod, Int.reduceTDiv]
            · rw [ft, line_pieces, ← hs0]; simp only [hwt, hlo, hhi, List.append_assoc, List.nil_append, if_true, if_false, and_self, true_and, and_true, false_and, and_false, not_false_eq_true]
            · rw [ft]; simp [lineT]
          · skip
            obtain ⟨σ3, h3, g3, c3⟩ := h1.write (t := piece3 r) (by simp only [List.length_append]; omega) (by omega)
            simp only [ruleC] at g3
            simp (disch := omega) only [go_sem, reduceIte, reduceDIte, reduceCtorEq, Nat.reduceBEq, Nat.reduceEqDiff, Nat.reduceAdd, Nat.reduceSub, Nat.reduceMul, Nat.reduceLT, Nat.reduceLeDiff, Nat.reduceBNe, Int.reduceNeg, Int.reduceAdd, Int.reduceSub, Int.reduceMul, Int.reduceLT, Int.reduceLE, Int.reduceGT, Int.reduceGE, Int.reduceEq, Int.reduceNe, Int.reduceToNat, Int.reduceTMod, Int.reduceTDiv, f5, g1, hlo, hhi]
            refine w1_of σ3 ?_
            simp (disch := omega) only [go_sem, reduceIte, reduceDIte, reduceCtorEq, Nat.reduceBEq, Nat.reduceEqDiff, Nat.reduceAdd, Nat.reduceSub, Nat.reduceMul, Nat.reduceLT, Nat.reduceLeDiff, Nat.reduceBNe, Int.reduceNeg, Int.reduceAdd, Int.reduceSub, Int.reduceMul, Int.reduceLT, Int.reduceLE, Int.reduceGT, Int.reduceGE, Int.reduceEq, Int.reduceNe, Int.reduceToNat, Int.reduceTMod, Int.reduceTDiv, g1, g3, i1]
            refine (itoa (r.lo + 1) (by omega) (by omega)).dat ?_
            simp (disch := omega) only [go_sem, reduceIte, reduceDIte, reduceCtorEq, Nat.reduceBEq, Nat.reduceEqDiff, Nat.reduceAdd, Nat.reduceSub, Nat.reduceMul, Nat.reduceLT, Nat.reduceLeDiff, Nat.reduceBNe, Int.reduceNeg, Int.reduceAdd, Int.reduceSub, Int.reduceMul, Int.reduceLT, Int.reduceLE, Int.reduceGT, Int.reduceGE, Int.reduceEq, Int.reduceNe, Int.reduceToNat, Int.reduceTMod, Int.reduceTDiv, g1, g3, i1]
            refine (itoa (r.lo + 1) (by omega) (by omega)).dat ?_
            simp (disch := omega) only [go_sem, reduceIte, reduceDIte, reduceCtorEq, Nat.reduceBEq, Nat.reduceEqDiff, Nat.reduceAdd, Nat.reduceSub, Nat.reduceMul, Nat.reduceLT, Nat.reduceLeDiff, Nat.reduceBNe, Int.reduceNeg, Int.reduceAdd, Int.reduceSub, Int.reduceMul, Int.reduceLT, Int.reduceLE, Int.reduceGT, Int.reduceGE, Int.reduceEq, Int.reduceNe, Int.reduceToNat, Int.reduceTMod, Int.reduceTDiv, g1, g3, i2, i3, List.length_append, List.length_cons, List.length_nil]
            refine (itoa r.hi (by omega) (by omega)).dat ?_
            simp (disch := omega) only [go_sem, reduceIte, reduceDIte, reduceCtorEq, Nat.reduceBEq, Nat.reduceEqDiff, Nat.reduceAdd, Nat.reduceSub, Nat.reduceMul, Nat.reduceLT, Nat.reduceLeDiff, Nat.reduceBNe, Int.reduceNeg, Int.reduceAdd, Int.reduceSub, Int.reduceMul, Int.reduceLT, Int.reduceLE, Int.reduceGT, Int.reduceGE, Int.reduceEq, Int.reduceNe, Int.reduceToNat, Int.reduceTMod, Int.reduceTDiv, g1, g3]
            refine (itoa r.hi (by omega) (by omega)).dat ?_
            simp (disch := omega) only [go_sem, reduceIte, reduceDIte, reduceCtorEq, Nat.reduceBEq, Nat.reduceEqDiff, Nat.reduceAdd, Nat.reduceSub, Nat.reduceMul, Nat.reduceLT, Nat.reduceLeDiff, Nat.reduceBNe, Int.reduceNeg, Int.reduceAdd, Int.reduceSub, Int.reduceMul, Int.reduceLT, Int.reduceLE, Int.reduceGT, Int.reduceGE, Int.reduceEq, Int.reduceNe, Int.reduceToNat, Int.reduceTMod, Int.reduceTDiv, g1, g3, f5, i4, List.length_append, List.length_cons, List.length_nil]
            refine SCall.one c3 ?_
            obtain ⟨σ9, h9, g9, c9⟩ := h3.write (t := piece4 r) (by simp only [List.length_append]; omega) (by omega)
            simp (disch := omega) only [go_sem, reduceIte, reduceDIte, reduceCtorEq, Nat.reduceBEq, Nat.reduceEqDiff, Nat.reduceAdd, Nat.reduceSub, Nat.reduceMul, Nat.reduceLT, Nat.reduceLeDiff, Nat.reduceBNe, Int.reduceNeg, Int.reduceAdd, Int.reduceSub, Int.reduceMul, Int.reduceLT, Int.reduceLE, Int.reduceGT, Int.reduceGE, Int.reduceEq, Int.reduceNe, Int.reduceToNat, Int.reduceTMod, Int.reduceTDiv, f5, g3, b4, b5, List.length_append, List.length_cons, List.length_nil]
            refine c9.at ?_
            simp (disch := omega) only [go_sem, reduceIte, reduceDIte, reduceCtorEq, Nat.reduceBEq, Nat.reduceEqDiff, Nat.reduceAdd, Nat.reduceSub, Nat.reduceMul, Nat.reduceLT, Nat.reduceLeDiff, Nat.reduceBNe, Int.reduceNeg, Int.reduceAdd, Int.reduceSub, Int.reduceMul, Int.reduceLT, Int.reduceLE, Int.reduceGT, Int.reduceGE, Int.reduceEq, Int.reduceNe, Int.reduceToNat, Int.reduceTMod, Int.reduceTDiv, f5, f13, f14, f15]
            refine ih (j + 1) _ _ (by omega) ⟨by omega, ?_, ?_, ?_, ?_, .inr ⟨by omega, B2.of h9.st ?_ ?_⟩⟩
            · simp (disch := omega) only [go_sem, reduceIte, reduceDIte, reduceCtorEq, Nat.reduceBEq, Nat.reduceEqDiff, Nat.reduceAdd, Nat.reduceSub, Nat.reduceMul, Nat.reduceLT, Nat.reduceLeDiff, Nat.reduceBNe, Int.reduceNeg, Int.reduceAdd, Int.reduceSub, Int.reduceMul, Int.reduceLT, Int.reduceLE, Int.reduceGT, Int.reduceGE, Int.reduceEq, Int.reduceNe, Int.reduceToNat, Int.reduceTMod, Int.reduceTDiv, f5]
            · simp (disch := omega) only [go_sem, reduceIte, reduceDIte, reduceCtorEq, Nat.reduceBEq, Nat.reduceEqDiff, Nat.reduceAdd, Nat.reduceSub, Nat.reduceMul, Nat.reduceLT, Nat.reduceLeDiff, Nat.reduceBNe, Int.reduceNeg, Int.reduceAdd, Int.reduceSub, Int.reduceMul, Int.reduceLT, Int.reduceLE, Int.reduceGT, Int.reduceGE, Int.reduceEq, Int.reduceNe, Int.reduceToNat, Int.reduceTMod, Int.reduceTDiv, f13]
            · simp (disch := omega) only [go_sem, reduceIte, reduceDIte, reduceCtorEq, Nat.reduceBEq, Nat.reduceEqDiff, Nat.reduceAdd, Nat.reduceSub, Nat.reduceMul, Nat.reduceLT, Nat.reduceLeDiff, Nat.reduceBNe, Int.reduceNeg, Int.reduceAdd, Int.reduceSub, Int.reduceMul, Int.reduceLT, Int.reduceLE, Int.reduceGT, Int.reduceGE, Int.reduceEq, Int.reduceNe, Int.reduceToNat, Int.reduceTMod, Int.reduceTDiv, f14]
            · simp (disch := omega) only [go_sem, reduceIte, reduceDIte, reduceCtorEq, Nat.reduceBEq, Nat.reduceEqDiff, Nat.reduceAdd, Nat.reduceSub, Nat.reduceMul, Nat.reduceLT, Nat.reduceLeDiff, Nat.reduceBNe, Int.reduceNeg, Int.reduceAdd, Int.reduceSub, Int.reduceMul, Int.reduceLT, Int.reduceLE, Int.reduceGT, Int.reduceGE, Int.reduceEq, Int.reduceNe, Int.reduceToNat, Int.reduceTMod, Int.reduceTDiv]
            · rw [ft, line_pieces, ← hs0]; simp only [hwt, hlo, hhi, List.append_assoc, List.nil_append, if_true, if_false, and_self, true_and, and_true, false_and, and_false, not_false_eq_true]
            · rw [ft]; simp [lineT]
        · skip
          obtain ⟨σ3, h3, g3, c3⟩ := h1.write (t := piece3 r) (by simp only [List.length_append]; omega) (by omega)
          simp only [ruleC] at g3
          simp (disch := omega) only [go_sem, reduceIte, reduceDIte, reduceCtorEq, Nat.reduceBEq, Nat.reduceEqDiff, Nat.reduceAdd, Nat.reduceSub, Nat.reduceMul, Nat.reduceLT, Nat.reduceLeDiff, Nat.reduceBNe, Int.reduceNeg, Int.reduceAdd, Int.reduceSub, Int.reduceMul, Int.reduceLT, Int.reduceLE, Int.reduceGT, Int.reduceGE, Int.reduceEq, Int.reduceNe, Int.reduceToNat, Int.reduceTMod, Int.reduceTDiv, f5, g1, hlo]
          refine w1_of σ3 ?_
          simp (disch := omega) only [go_sem, reduceIte, reduceDIte, reduceCtorEq, Nat.reduceBEq, Nat.reduceEqDiff, Nat.reduceAdd, Nat.reduceSub, Nat.reduceMul, Nat.reduceLT, Nat.reduceLeDiff, Nat.reduceBNe, Int.reduceNeg, Int.reduceAdd, Int.reduceSub, Int.reduceMul, Int.reduceLT, Int.reduceLE, Int.reduceGT, Int.reduceGE, Int.reduceEq, Int.reduceNe, Int.reduceToNat, Int.reduceTMod, Int.reduceTDiv, g1, g3, i1]
          refine (itoa (r.lo + 1) (by omega) (by omega)).dat ?_
          simp (disch := omega) only [go_sem, reduceIte, reduceDIte, reduceCtorEq, Nat.reduceBEq, Nat.reduceEqDiff, Nat.reduceAdd, Nat.reduceSub, Nat.reduceMul, Nat.reduceLT, Nat.reduceLeDiff, Nat.reduceBNe, Int.reduceNeg, Int.reduceAdd, Int.reduceSub, Int.reduceMul, Int.reduceLT, Int.reduceLE, Int.reduceGT, Int.reduceGE, Int.reduceEq, Int.reduceNe, Int.reduceToNat, Int.reduceTMod, Int.reduceTDiv, g1, g3, i1]
          refine (itoa (r.lo + 1) (by omega) (by omega)).dat ?_
          simp (disch := omega) only [go_sem, reduceIte, reduceDIte, reduceCtorEq, Nat.reduceBEq, Nat.reduceEqDiff, Nat.reduceAdd, Nat.reduceSub, Nat.reduceMul, Nat.reduceLT, Nat.reduceLeDiff, Nat.reduceBNe, Int.reduceNeg, Int.reduceAdd, Int.reduceSub, Int.reduceMul, Int.reduceLT, Int.reduceLE, Int.reduceGT, Int.reduceGE, Int.reduceEq, Int.reduceNe, Int.reduceToNat, Int.reduceTMod, Int.reduceTDiv, g1, g3, i2, i3, List.length_append, List.length_cons, List.length_nil]
          refine (itoa r.hi (by omega) (by omega)).dat ?_
          simp (disch := omega) only [go_sem, reduceIte, reduceDIte, reduceCtorEq, Nat.reduceBEq, Nat.reduceEqDiff, Nat.reduceAdd, Nat.reduceSub, Nat.reduceMul, Nat.reduceLT, Nat.reduceLeDiff, Nat.reduceBNe, Int.reduceNeg, Int.reduceAdd, Int.reduceSub, Int.reduceMul, Int.reduceLT, Int.reduceLE, Int.reduceGT, Int.reduceGE, Int.reduceEq, Int.reduceNe, Int.reduceToNat, Int.reduceTMod, Int.reduceTDiv, g1, g3]
          refine (itoa r.hi (by omega) (by omega)).dat ?_
          simp (disch := omega) only [go_sem, reduceIte, reduceDIte, reduceCtorEq, Nat.reduceBEq, Nat.reduceEqDiff, Nat.reduceAdd, Nat.reduceSub, Nat.reduceMul, Nat.reduceLT, Nat.reduceLeDiff, Nat.reduceBNe, Int.reduceNeg, Int.reduceAdd, Int.reduceSub, Int.reduceMul, Int.reduceLT, Int.reduceLE, Int.reduceGT, Int.reduceGE, Int.reduceEq, Int.reduceNe, Int.reduceToNat, Int.reduceTMod, Int.reduceTDiv, g1, g3, f5, i4, List.length_append, List.length_cons, List.length_nil]
          refine SCall.one c3 ?_
          obtain ⟨σ9, h9, g9, c9⟩ := h3.write (t := piece4 r) (by simp only [List.length_append]; omega) (by omega)
          simp (disch := omega) only [go_sem, reduceIte, reduceDIte, reduceCtorEq, Nat.reduceBEq, Nat.reduceEqDiff, Nat.reduceAdd, Nat.reduceSub, Nat.reduceMul, Nat.reduceLT, Nat.reduceLeDiff, Nat.reduceBNe, Int.reduceNeg, Int.reduceAdd, Int.reduceSub, Int.reduceMul, Int.reduceLT, Int.reduceLE, Int.reduceGT, Int.reduceGE, Int.reduceEq, Int.reduceNe, Int.reduceToNat, Int.reduceTMod, Int.reduceTDiv, f5, g3, b4, b5, List.length_append, List.length_cons, List.length_nil]
          refine c9.at ?_
          simp (disch := omega) only [go_sem, reduceIte, reduceDIte, reduceCtorEq, Nat.reduceBEq, Nat.reduceEqDiff, Nat.reduceAdd, Nat.reduceSub, Nat.reduceMul, Nat.reduceLT, Nat.reduceLeDiff, Nat.reduceBNe, Int.reduceNeg, Int.reduceAdd, Int.reduceSub, Int.reduceMul, Int.reduceLT, Int.reduceLE, Int.reduceGT, Int.reduceGE, Int.reduceEq, Int.reduceNe, Int.reduceToNat, Int.reduceTMod, Int.reduceTDiv, f5, f13, f14, f15]
          refine ih (j + 1) _ _ (by omega) ⟨by omega, ?_, ?_, ?_, ?_, .inr ⟨by omega, B2.of h9.st ?_ ?_⟩⟩
          · simp (disch := omega) only [go_sem, reduceIte, reduceDIte, reduceCtorEq, Nat.reduceBEq, Nat.reduceEqDiff, Nat.reduceAdd, Nat.reduceSub, Nat.reduceMul, Nat.reduceLT, Nat.reduceLeDiff, Nat.reduceBNe, Int.reduceNeg, Int.reduceAdd, Int.reduceSub, Int.reduceMul, Int.reduceLT, Int.reduceLE, Int.reduceGT, Int.reduceGE, Int.reduceEq, Int.reduceNe, Int.reduceToNat, Int.reduceTMod, Int.reduceTDiv, f5]
          · simp (disch := omega) only [go_sem, reduceIte, reduceDIte, reduceCtorEq, Nat.reduceBEq, Nat.reduceEqDiff, Nat.reduceAdd, Nat.reduceSub, Nat.reduceMul, Nat.reduceLT, Nat.reduceLeDiff, Nat.reduceBNe, Int.reduceNeg, Int.reduceAdd, Int.reduceSub, Int.reduceMul, Int.reduceLT, Int.reduceLE, Int.reduceGT, Int.reduceGE, Int.reduceEq, Int.reduceNe, Int.reduceToNat, Int.reduceTMod, Int.reduceTDiv, f13]
          · simp (disch := omega) only [go_sem, reduceIte, reduceDIte, reduceCtorEq, Nat.reduceBEq, Nat.reduceEqDiff, Nat.reduceAdd, Nat.reduceSub, Nat.reduceMul, Nat.reduceLT, Nat.reduceLeDiff, Nat.reduceBNe, Int.reduceNeg, Int.reduceAdd, Int.reduceSub, Int.reduceMul, Int.reduceLT, Int.reduceLE, Int.reduceGT, Int.reduceGE, Int.reduceEq, Int.reduceNe, Int.reduceToNat, Int.reduceTMod, Int.reduceTDiv, f14]
          · simp (disch := omega) only [go_sem, reduceIte, reduceDIte, reduceCtorEq, Nat.reduceBEq, Nat.reduceEqDiff, Nat.reduceAdd, Nat.reduceSub, Nat.reduceMul, Nat.reduceLT, Nat.reduceLeDiff, Nat.reduceBNe, Int.reduceNeg, Int.reduceAdd, Int.reduceSub, Int.reduceMul, Int.reduceLT, Int.reduceLE, Int.reduceGT, Int.reduceGE, Int.reduceEq, Int.reduceNe, Int.reduceToNat, Int.reduceTMod, Int.reduceTDiv]
          · rw [ft, line_pieces, ← hs0]; simp only [hwt, hlo, List.append_assoc, List.nil_append, if_true, if_false, and_self, true_and, and_true, false_and, and_false, not_false_eq_true]
          · rw [ft]; simp [lineT]
      · obtain ⟨σ2, h2, g2, c2⟩ := h1.write (t := piece2 r) (by simp only [List.length_append]; omega) (by omega)
        simp only [ruleC] at g2
        simp (disch := omega) only [go_sem, reduceIte, reduceDIte, reduceCtorEq, Nat.reduceBEq, Nat.reduceEqDiff, Nat.reduceAdd, Nat.reduceSub, Nat.reduceMul, Nat.reduceLT, Nat.reduceLeDiff, Nat.reduceBNe, Int.reduceNeg, Int.reduceAdd, Int.reduceSub, Int.reduceMul, Int.reduceLT, Int.reduceLE, Int.reduceGT, Int.reduceGE, Int.reduceEq, Int.reduceNe, Int.reduceToNat, Int.reduceTMod, Int.reduceTDiv, g1, hwt]
        refine (itoa r.wait (by omega) (by omega)).at ?_
        simp (disch := omega) only [go_sem, reduceIte, reduceDIte, reduceCtorEq, Nat.reduceBEq, Nat.reduceEqDiff, Nat.reduceAdd, Nat.reduceSub, Nat.reduceMul, Nat.reduceLT, Nat.reduceLeDiff, Nat.reduceBNe, Int.reduceNeg, Int.reduceAdd, Int.reduceSub, Int.reduceMul, Int.reduceLT, Int.reduceLE, Int.reduceGT, Int.reduceGE, Int.reduceEq, Int.reduceNe, Int.reduceToNat, Int.reduceTMod, Int.reduceTDiv, g1, f5, i5, List.length_cons, List.length_nil]
        refine c2.at ?_
        simp (disch := omega) only [go_sem, reduceIte, reduceDIte, reduceCtorEq, Nat.reduceBEq, Nat.reduceEqDiff, Nat.reduceAdd, Nat.reduceSub, Nat.reduceMul, Nat.reduceLT, Nat.reduceLeDiff, Nat.reduceBNe, Int.reduceNeg, Int.reduceAdd, Int.reduceSub, Int.reduceMul, Int.reduceLT, Int.reduceLE, Int.reduceGT, Int.reduceGE, Int.reduceEq, Int.reduceNe, Int.reduceToNat, Int.reduceTMod, Int.reduceTDiv, g2]
        by_cases hlo : r.lo = 0
        · by_cases hhi : r.hi = 60
          · skip
            obtain ⟨σ9, h9, g9, c9⟩ := h2.write (t := piece4 r) (by simp only [List.length_append]; omega) (by omega)
            simp (disch := omega) only [go_sem, reduceIte, reduceDIte, reduceCtorEq, Nat.reduceBEq, Nat.reduceEqDiff, Nat.reduceAdd, Nat.reduceSub, Nat.reduceMul, Nat.reduceLT, Nat.reduceLeDiff, Nat.reduceBNe, Int.reduceNeg, Int.reduceAdd, Int.reduceSub, Int.reduceMul, Int.reduceLT, Int.reduceLE, Int.reduceGT, Int.reduceGE, Int.reduceEq, Int.reduceNe, Int.reduceToNat, Int.reduceTMod, Int.reduceTDiv, f5, g2, b4, b5, List.length_append, List.length_cons, List.length_nil, hlo, hhi]
            refine c9.at ?_
            simp (disch := omega) only [go_sem, reduceIte, reduceDIte, reduceCtorEq, Nat.reduceBEq, Nat.reduceEqDiff, Nat.reduceAdd, Nat.reduceSub, Nat.reduceMul, Nat.reduceLT, Nat.reduceLeDiff, Nat.reduceBNe, Int.reduceNeg, Int.reduceAdd, Int.reduceSub, Int.reduceMul, Int.reduceLT, Int.reduceLE, Int.reduceGT, Int.reduceGE, Int.reduceEq, Int.reduceNe, Int.reduceToNat, Int.reduceTMod, Int.reduceTDiv, f5, f13, f14, f15]
            refine ih (j + 1) _ _ (by omega) ⟨by omega, ?_, ?_, ?_, ?_, .inr ⟨by omega, B2.of h9.st ?_ ?_⟩⟩
            · simp (disch := omega) only [go_sem, reduceIte, reduceDIte, reduceCtorEq, Nat.reduceBEq, Nat.reduceEqDiff, Nat.reduceAdd, Nat.reduceSub, Nat.reduceMul, Nat.reduceLT, Nat.reduceLeDiff, Nat.reduceBNe, Int.reduceNeg, Int.reduceAdd, Int.reduceSub, Int.reduceMul, Int.reduceLT, Int.reduceLE, Int.reduceGT, Int.reduceGE, Int.reduceEq, Int.reduceNe, Int.reduceToNat, Int.reduceTMod, Int.reduceTDiv, f5]
            · simp (disch := omega) only [go_sem, reduceIte, reduceDIte, reduceCtorEq, Nat.reduceBEq, Nat.reduceEqDiff, Nat.reduceAdd, Nat.reduceSub, Nat.reduceMul, Nat.reduceLT, Nat.reduceLeDiff, Nat.reduceBNe, Int.reduceNeg, Int.reduceAdd, Int.reduceSub, Int.reduceMul, Int.reduceLT, Int.reduceLE, Int.reduceGT, Int.reduceGE, Int.reduceEq, Int.reduceNe, Int.reduceToNat, Int.reduceTMod, Int.reduceTDiv, f13]
            · simp (disch := omega) only [go_sem, reduceIte, reduceDIte, reduceCtorEq, Nat.reduceBEq, Nat.reduceEqDiff, Nat.reduceAdd, Nat.reduceSub, Nat.reduceMul, Nat.reduceLT, Nat.reduceLeDiff, Nat.reduceBNe, Int.reduceNeg, Int.reduceAdd, Int.reduceSub, Int.reduceMul, Int.reduceLT, Int.reduceLE, Int.reduceGT, Int.reduceGE, Int.reduceEq, Int.reduceNe, Int.reduceToNat, Int.reduceTMod, Int.reduceTDiv, f14]
            · simp (disch := omega) only [go_sem, reduceIte, reduceDIte, reduceCtorEq, Nat.reduceBEq, Nat.reduceEqDiff, Nat.reduceAdd, Nat.reduceSub, Nat.reduceMul, Nat.reduceLT, Nat.reduceLeDiff, Nat.reduceBNe, Int.reduceNeg, Int.reduceAdd, Int.reduceSub, Int.reduceMul, Int.reduceLT, Int.reduceLE, Int.reduceGT, Int.reduceGE, Int.reduceEq, Int.reduceNe, Int.reduceToNat, Int.reduceTMod, Int.reduceTDiv]
            · rw [ft, line_pieces, ← hs0]; simp only [hwt, hlo, hhi, List.append_assoc, List.nil_append, if_true, if_false, and_self, true_and, and_true, false_and, and_false, not_false_eq_true]
            · rw [ft]; simp [lineT]
          · skip
            obtain ⟨σ3, h3, g3, c3⟩ := h2.write (t := piece3 r) (by simp only [List.length_append]; omega) (by omega)
            simp only [ruleC] at g3
            simp (disch := omega) only [go_sem, reduceIte, reduceDIte, reduceCtorEq, Nat.reduceBEq, Nat.reduceEqDiff, Nat.reduceAdd, Nat.reduceSub, Nat.reduceMul, Nat.reduceLT, Nat.reduceLeDiff, Nat.reduceBNe, Int.reduceNeg, Int.reduceAdd, Int.reduceSub, Int.reduceMul, Int.reduceLT, Int.reduceLE, Int.reduceGT, Int.reduceGE, Int.reduceEq, Int.reduceNe, Int.reduceToNat, Int.reduceTMod, Int.reduceTDiv, f5, g2, hlo, hhi]
            refine w1_of σ3 ?_
            simp (disch := omega) only [go_sem, reduceIte, reduceDIte, reduceCtorEq, Nat.reduceBEq, Nat.reduceEqDiff, Nat.reduceAdd, Nat.reduceSub, Nat.reduceMul, Nat.reduceLT, Nat.reduceLeDiff, Nat.reduceBNe, Int.reduceNeg, Int.reduceAdd, Int.reduceSub, Int.reduceMul, Int.reduceLT, Int.reduceLE, Int.reduceGT, Int.reduceGE, Int.reduceEq, Int.reduceNe, Int.reduceToNat, Int.reduceTMod, Int.reduceTDiv, g2, g3, i1]
            refine (itoa (r.lo + 1) (by omega) (by omega)).dat ?_
            simp (disch := omega) only [go_sem, reduceIte, reduceDIte, reduceCtorEq, Nat.reduceBEq, Nat.reduceEqDiff, Nat.reduceAdd, Nat.reduceSub, Nat.reduceMul, Nat.reduceLT, Nat.reduceLeDiff, Nat.reduceBNe, Int.reduceNeg, Int.reduceAdd, Int.reduceSub, Int.reduceMul, Int.reduceLT, Int.reduceLE, Int.reduceGT, Int.reduceGE, Int.reduceEq, Int.reduceNe, Int.reduceToNat, Int.reduceTMod, Int.reduceTDiv, g2, g3, i1]
            refine (itoa (r.lo + 1) (by omega) (by omega)).dat ?_
            simp (disch := omega) only [go_sem, reduceIte, reduceDIte, reduceCtorEq, Nat.reduceBEq, Nat.reduceEqDiff, Nat.reduceAdd, Nat.reduceSub, Nat.reduceMul, Nat.reduceLT, Nat.reduceLeDiff, Nat.reduceBNe, Int.reduceNeg, Int.reduceAdd, Int.reduceSub, Int.reduceMul, Int.reduceLT, Int.reduceLE, Int.reduceGT, Int.reduceGE, Int.reduceEq, Int.reduceNe, Int.reduceToNat, Int.reduceTMod, Int.reduceTDiv, g2, g3, i2, i3, List.length_append, List.length_cons, List.length_nil]
            refine (itoa r.hi (by omega) (by omega)).dat ?_
            simp (disch := omega) only [go_sem, reduceIte, reduceDIte, reduceCtorEq, Nat.reduceBEq, Nat.reduceEqDiff, Nat.reduceAdd, Nat.reduceSub, Nat.reduceMul, Nat.reduceLT, Nat.reduceLeDiff, Nat.reduceBNe, Int.reduceNeg, Int.reduceAdd, Int.reduceSub, Int.reduceMul, Int.reduceLT, Int.reduceLE, Int.reduceGT, Int.reduceGE, Int.reduceEq, Int.reduceNe, Int.reduceToNat, Int.reduceTMod, Int.reduceTDiv, g2, g3]
            refine (itoa r.hi (by omega) (by omega)).dat ?_
            simp (disch := omega) only [go_sem, reduceIte, reduceDIte, reduceCtorEq, Nat.reduceBEq, Nat.reduceEqDiff, Nat.reduceAdd, Nat.reduceSub, Nat.reduceMul, Nat.reduceLT, Nat.reduceLeDiff, Nat.reduceBNe, Int.reduceNeg, Int.reduceAdd, Int.reduceSub, Int.reduceMul, Int.reduceLT, Int.reduceLE, Int.reduceGT, Int.reduceGE, Int.reduceEq, Int.reduceNe, Int.reduceToNat, Int.reduceTMod, Int.reduceTDiv, g2, g3, f5, i4, List.length_append, List.length_cons, List.length_nil]
            refine SCall.one c3 ?_
            obtain ⟨σ9, h9, g9, c9⟩ := h3.write (t := piece4 r) (by simp only [List.length_append]; omega) (by omega)
            simp (disch := omega) only [go_sem, reduceIte, reduceDIte, reduceCtorEq, Nat.reduceBEq, Nat.reduceEqDiff, Nat.reduceAdd, Nat.reduceSub, Nat.reduceMul, Nat.reduceLT, Nat.reduceLeDiff, Nat.reduceBNe, Int.reduceNeg, Int.reduceAdd, Int.reduceSub, Int.reduceMul, Int.reduceLT, Int.reduceLE, Int.reduceGT, Int.reduceGE, Int.reduceEq, Int.reduceNe, Int.reduceToNat, Int.reduceTMod, Int.reduceTDiv, f5, g3, b4, b5, List.length_append, List.length_cons, List.length_nil]
            refine c9.at ?_
            simp (disch := omega) only [go_sem, reduceIte, reduceDIte, reduceCtorEq, Nat.reduceBEq, Nat.reduceEqDiff, Nat.reduceAdd, Nat.reduceSub, Nat.reduceMul, Nat.reduceLT, Nat.reduceLeDiff, Nat.reduceBNe, Int.reduceNeg, Int.reduceAdd, Int.reduceSub, Int.reduceMul, Int.reduceLT, Int.reduceLE, Int.reduceGT, Int.reduceGE, Int.reduceEq, Int.reduceNe, Int.reduceToNat, Int.reduceTMod, Int.reduceTDiv, f5, f13, f14, f15]
            refine ih (j + 1) _ _ (by omega) ⟨by omega, ?_, ?_, ?_, ?_, .inr ⟨by omega, B2.of h9.st ?_ ?_⟩⟩
            · simp (disch := omega) only [go_sem, reduceIte, reduceDIte, reduceCtorEq, Nat.reduceBEq, Nat.reduceEqDiff, Nat.reduceAdd, Nat.reduceSub, Nat.reduceMul, Nat.reduceLT, Nat.reduceLeDiff, Nat.reduceBNe, Int.reduceNeg, Int.reduceAdd, Int.reduceSub, Int.reduceMul, Int.reduceLT, Int.reduceLE, Int.reduceGT, Int.reduceGE, Int.reduceEq, Int.reduceNe, Int.reduceToNat, Int.reduceTMod, Int.reduceTDiv, f5]
            · simp (disch := omega) only [go_sem, reduceIte, reduceDIte, reduceCtorEq, Nat.reduceBEq, Nat.reduceEqDiff, Nat.reduceAdd, Nat.reduceSub, Nat.reduceMul, Nat.reduceLT, Nat.reduceLeDiff, Nat.reduceBNe, Int.reduceNeg, Int.reduceAdd, Int.reduceSub, Int.reduceMul, Int.reduceLT, Int.reduceLE, Int.reduceGT, Int.reduceGE, Int.reduceEq, Int.reduceNe, Int.reduceToNat, Int.reduceTMod, Int.reduceTDiv, f13]
            · simp (disch := omega) only [go_sem, reduceIte, reduceDIte, reduceCtorEq, Nat.reduceBEq, Nat.reduceEqDiff, Nat.reduceAdd, Nat.reduceSub, Nat.reduceMul, Nat.reduceLT, Nat.reduceLeDiff, Nat.reduceBNe, Int.reduceNeg, Int.reduceAdd, Int.reduceSub, Int.reduceMul, Int.reduceLT, Int.reduceLE, Int.reduceGT, Int.reduceGE, Int.reduceEq, Int.reduceNe, Int.reduceToNat, Int.reduceTMod, Int.reduceTDiv, f14]
            · simp (disch := omega) only [go_sem, reduceIte, reduceDIte, reduceCtorEq, Nat.reduceBEq, Nat.reduceEqDiff, Nat.reduceAdd, Nat.reduceSub, Nat.reduceMul, Nat.reduceLT, Nat.reduceLeDiff, Nat.reduceBNe, Int.reduceNeg, Int.reduceAdd, Int.reduceSub, Int.reduceMul, Int.reduceLT, Int.reduceLE, Int.reduceGT, Int.reduceGE, Int.reduceEq, Int.reduceNe, Int.reduceToNat, Int.reduceTMod, Int.reduceTDiv]
            · rw [ft, line_pieces, ← hs0]; simp only [hwt, hlo, hhi, List.append_assoc, List.nil_append, if_true, if_false, and_self, true_and, and_true, false_and, and_false, not_false_eq_true]
            · rw [ft]; simp [lineT]
        · skip
          obtain ⟨σ3, h3, g3, c3⟩ := h2.write (t := piece3 r) (by simp only [List.length_append]; omega) (by omega)
          simp only [ruleC] at g3
          simp (disch := omega) only [go_sem, reduceIte, reduceDIte, reduceCtorEq, Nat.reduceBEq, Nat.reduceEqDiff, Nat.reduceAdd, Nat.reduceSub, Nat.reduceMul, Nat.reduceLT, Nat.reduceLeDiff, Nat.reduceBNe, Int.reduceNeg, Int.reduceAdd, Int.reduceSub, Int.reduceMul, Int.reduceLT, Int.reduceLE, Int.reduceGT, Int.reduceGE, Int.reduceEq, Int.reduceNe, Int.reduceToNat, Int.reduceTMod, Int.reduceTDiv, f5, g2, hlo]
          refine w1_of σ3 ?_
          simp (disch := omega) only [go_sem, reduceIte, reduceDIte, reduceCtorEq, Nat.reduceBEq, Nat.reduceEqDiff, Nat.reduceAdd, Nat.reduceSub, Nat.reduceMul, Nat.reduceLT, Nat.reduceLeDiff, Nat.reduceBNe, Int.reduceNeg, Int.reduceAdd, Int.reduceSub, Int.reduceMul, Int.reduceLT, Int.reduceLE, Int.reduceGT, Int.reduceGE, Int.reduceEq, Int.reduceNe, Int.reduceToNat, Int.reduceTMod, Int.reduceTDiv, g2, g3, i1]
          refine (itoa (r.lo + 1) (by omega) (by omega)).dat ?_
          simp (disch := omega) only [go_sem, reduceIte, reduceDIte, reduceCtorEq, Nat.reduceBEq, Nat.reduceEqDiff, Nat.reduceAdd, Nat.reduceSub, Nat.reduceMul, Nat.reduceLT, Nat.reduceLeDiff, Nat.reduceBNe, Int.reduceNeg, Int.reduceAdd, Int.reduceSub, Int.reduceMul, Int.reduceLT, Int.reduceLE, Int.reduceGT, Int.reduceGE, Int.reduceEq, Int.reduceNe, Int.reduceToNat, Int.reduceTMod, Int.reduceTDiv, g2, g3, i1]
          refine (itoa (r.lo + 1) (by omega) (by omega)).dat ?_
          simp (disch := omega) only [go_sem, reduceIte, reduceDIte, reduceCtorEq, Nat.reduceBEq, Nat.reduceEqDiff, Nat.reduceAdd, Nat.reduceSub, Nat.reduceMul, Nat.reduceLT, Nat.reduceLeDiff, Nat.reduceBNe, Int.reduceNeg, Int.reduceAdd, Int.reduceSub, Int.reduceMul, Int.reduceLT, Int.reduceLE, Int.reduceGT, Int.reduceGE, Int.reduceEq, Int.reduceNe, Int.reduceToNat, Int.reduceTMod, Int.reduceTDiv, g2, g3, i2, i3, List.length_append, List.length_cons, List.length_nil]
          refine (itoa r.hi (by omega) (by omega)).dat ?_
          simp (disch := omega) only [go_sem, reduceIte, reduceDIte, reduceCtorEq, Nat.reduceBEq, Nat.reduceEqDiff, Nat.reduceAdd, Nat.reduceSub, Nat.reduceMul, Nat.reduceLT, Nat.reduceLeDiff, Nat.reduceBNe, Int.reduceNeg, Int.reduceAdd, Int.reduceSub, Int.reduceMul, Int.reduceLT, Int.reduceLE, Int.reduceGT, Int.reduceGE, Int.reduceEq, Int.reduceNe, Int.reduceToNat, Int.reduceTMod, Int.reduceTDiv, g2, g3]
          refine (itoa r.hi (by omega) (by omega)).dat ?_
          simp (disch := omega) only [go_sem, reduceIte, reduceDIte, reduceCtorEq, Nat.reduceBEq, Nat.reduceEqDiff, Nat.reduceAdd, Nat.reduceSub, Nat.reduceMul, Nat.reduceLT, Nat.reduceLeDiff, Nat.reduceBNe, Int.reduceNeg, Int.reduceAdd, Int.reduceSub, Int.reduceMul, Int.reduceLT, Int.reduceLE, Int.reduceGT, Int.reduceGE, Int.reduceEq, Int.reduceNe, Int.reduceToNat, Int.reduceTMod, Int.reduceTDiv, g2, g3, f5, i4, List.length_append, List.length_cons, List.length_nil]
          refine SCall.one c3 ?_
          obtain ⟨σ9, h9, g9, c9⟩ := h3.write (t := piece4 r) (by simp only [List.length_append]; omega) (by omega)
          simp (disch := omega) only [go_sem, reduceIte, reduceDIte, reduceCtorEq, Nat.reduceBEq, Nat.reduceEqDiff, Nat.reduceAdd, Nat.reduceSub, Nat.reduceMul, Nat.reduceLT, Nat.reduceLeDiff, Nat.reduceBNe, Int.reduceNeg, Int.reduceAdd, Int.reduceSub, Int.reduceMul, Int.reduceLT, Int.reduceLE, Int.reduceGT, Int.reduceGE, Int.reduceEq, Int.reduceNe, Int.reduceToNat, Int.reduceTMod, Int.reduceTDiv, f5, g3, b4, b5, List.length_append, List.length_cons, List.length_nil]
          refine c9.at ?_
          simp (disch := omega) only [go_sem, reduceIte, reduceDIte, reduceCtorEq, Nat.reduceBEq, Nat.reduceEqDiff, Nat.reduceAdd, Nat.reduceSub, Nat.reduceMul, Nat.reduceLT, Nat.reduceLeDiff, Nat.reduceBNe, Int.reduceNeg, Int.reduceAdd, Int.reduceSub, Int.reduceMul, Int.reduceLT, Int.reduceLE, Int.reduceGT, Int.reduceGE, Int.reduceEq, Int.reduceNe, Int.reduceToNat, Int.reduceTMod, Int.reduceTDiv, f5, f13, f14, f15]
          refine ih (j + 1) _ _ (by omega) ⟨by omega, ?_, ?_, ?_, ?_, .inr ⟨by omega, B2.of h9.st ?_ ?_⟩⟩
          · simp (disch := omega) only [go_sem, reduceIte, reduceDIte, reduceCtorEq, Nat.reduceBEq, Nat.reduceEqDiff, Nat.reduceAdd, Nat.reduceSub, Nat.reduceMul, Nat.reduceLT, Nat.reduceLeDiff, Nat.reduceBNe, Int.reduceNeg, Int.reduceAdd, Int.reduceSub, Int.reduceMul, Int.reduceLT, Int.reduceLE, Int.reduceGT, Int.reduceGE, Int.reduceEq, Int.reduceNe, Int.reduceToNat, Int.reduceTMod, Int.reduceTDiv, f5]
          · simp (disch := omega) only [go_sem, reduceIte, reduceDIte, reduceCtorEq, Nat.reduceBEq, Nat.reduceEqDiff, Nat.reduceAdd, Nat.reduceSub, Nat.reduceMul, Nat.reduceLT, Nat.reduceLeDiff, Nat.reduceBNe, Int.reduceNeg, Int.reduceAdd, Int.reduceSub, Int.reduceMul, Int.reduceLT, Int.reduceLE, Int.reduceGT, Int.reduceGE, Int.reduceEq, Int.reduceNe, Int.reduceToNat, Int.reduceTMod, Int.reduceTDiv, f13]
          · simp (disch := omega) only [go_sem, reduceIte, reduceDIte, reduceCtorEq, Nat.reduceBEq, Nat.reduceEqDiff, Nat.reduceAdd, Nat.reduceSub, Nat.reduceMul, Nat.reduceLT, Nat.reduceLeDiff, Nat.reduceBNe, Int.reduceNeg, Int.reduceAdd, Int.reduceSub, Int.reduceMul, Int.reduceLT, Int.reduceLE, Int.reduceGT, Int.reduceGE, Int.reduceEq, Int.reduceNe, Int.reduceToNat, Int.reduceTMod, Int.reduceTDiv, f14]
          · simp (disch := omega) only [go_sem, reduceIte, reduceDIte, reduceCtorEq, Nat.reduceBEq, Nat.reduceEqDiff, Nat.reduceAdd, Nat.reduceSub, Nat.reduceMul, Nat.reduceLT, Nat.reduceLeDiff, Nat.reduceBNe, Int.reduceNeg, Int.reduceAdd, Int.reduceSub, Int.reduceMul, Int.reduceLT, Int.reduceLE, Int.reduceGT, Int.reduceGE, Int.reduceEq, Int.reduceNe, Int.reduceToNat, Int.reduceTMod, Int.reduceTDiv]
          · rw [ft, line_pieces, ← hs0]; simp only [hwt, hlo, List.append_assoc, List.nil_append, if_true, if_false, and_self, true_and, and_true, false_and, and_false, not_false_eq_true]
          · rw [ft]; simp [lineT]
    · have ek : l.take j = l := List.take_of_length_le (by omega)
      rw [ek] at hσ
      simp (disch := omega) only [go_sem, reduceIte, reduceDIte, reduceCtorEq, Nat.reduceBEq, Nat.reduceEqDiff, Nat.reduceAdd, Nat.reduceSub, Nat.reduceMul, Nat.reduceLT, Nat.reduceLeDiff, Nat.reduceBNe, Int.reduceNeg, Int.reduceAdd, Int.reduceSub, Int.reduceMul, Int.reduceLT, Int.reduceLE, Int.reduceGT, Int.reduceGE, Int.reduceEq, Int.reduceNe, Int.reduceToNat, Int.reduceTMod, Int.reduceTDiv, f5, f14, f15, hlt]
      rcases hσ with ⟨h0, rfl⟩ | ⟨h0, g, x, rest, n, hn, rfl⟩
      · have hl0 : l = [] := List.length_eq_zero_iff.1 (by omega)
        subst hl0
        refine (text31a default).at ?_
        simp (disch := omega) only [go_sem, reduceIte, reduceDIte, reduceCtorEq, Nat.reduceBEq, Nat.reduceEqDiff, Nat.reduceAdd, Nat.reduceSub, Nat.reduceMul, Nat.reduceLT, Nat.reduceLeDiff, Nat.reduceBNe, Int.reduceNeg, Int.reduceAdd, Int.reduceSub, Int.reduceMul, Int.reduceLT, Int.reduceLE, Int.reduceGT, Int.reduceGE, Int.reduceEq, Int.reduceNe, Int.reduceToNat, Int.reduceTMod, Int.reduceTDiv, fmt, List.flatMap_nil]
      · obtain ⟨σ', hc⟩ := text31b (fmt l) g n x (by omega) hn rest
        refine hc.at ?_
        simp (disch := omega) only [go_sem, reduceIte, reduceDIte, reduceCtorEq, Nat.reduceBEq, Nat.reduceEqDiff, Nat.reduceAdd, Nat.reduceSub, Nat.reduceMul, Nat.reduceLT, Nat.reduceLeDiff, Nat.reduceBNe, Int.reduceNeg, Int.reduceAdd, Int.reduceSub, Int.reduceMul, Int.reduceLT, Int.reduceLE, Int.reduceGT, Int.reduceGE, Int.reduceEq, Int.reduceNe, Int.reduceToNat, Int.reduceTMod, Int.reduceTDiv]
  · refine ⟨by omega, ?_, ?_, ?_, ?_, .inl ⟨rfl, ?_⟩⟩ <;> simp (disch := omega) only [go_sem, reduceIte, reduceDIte, reduceCtorEq, Nat.reduceBEq, Nat.reduceEqDiff, Nat.reduceAdd, Nat.reduceSub, Nat.reduceMul, Nat.reduceLT, Nat.reduceLeDiff, Nat.reduceBNe, Int.reduceNeg, Int.reduceAdd, Int.reduceSub, Int.reduceMul, Int.reduceLT, Int.reduceLE, Int.reduceGT, Int.reduceGE, Int.reduceEq, Int.reduceNe, Int.reduceToNat, Int.reduceTMod, Int.reduceTDiv]
end Go.Proofs.YtjgbdlaecpkmhaaGreatDoor
set_option linter.unusedVariables false
set_option linter.unusedSimpArgs false
set_option maxRecDepth 100000
namespace Go.Proofs.YtjgbdlaecpkmhaaGreatDoor
open Go Nv Rul

/- What comes in, as rules. -/
theorem int_td {n : Nat} {t : TypeId} {k : IntKind} {ds : List DV} (ht : Tryz.prog.underlying t = some (.int k)) (h : TD Tryz.prog n t ds) : ∃ z, ds = [.int k z] ∧ (Lit.int k z).wf = true := by
  cases n with
  | zero => exact h.elim
  | succ n => simp only [TD, ht] at h; exact h
theorem str_td {n : Nat} {t : TypeId} {ds : List DV} (ht : Tryz.prog.underlying t = some .string) (h : TD Tryz.prog n t ds) : ∃ s : List UInt8, ds = [.str s] ∧ s.length ≤ 9223372036854775807 := by
  cases n with
  | zero => exact h.elim
  | succ n => simp only [TD, ht] at h; obtain ⟨s, h, h2⟩ := h; exact ⟨s, h, by unfold maxLen at h2; omega⟩
theorem rows_with {α : Type} {Q : α → Prop} {f : α → DV} : ∀ {xs : List DV}, (∀ x, x ∈ xs → ∃ a, x = f a ∧ Q a) → ∃ l : List α, xs = l.map f ∧ ∀ a, a ∈ l → Q a
  | [], _ => ⟨[], rfl, by simp⟩
  | x :: xs, h => by
    obtain ⟨a, rfl, ha⟩ := h x (by simp)
    obtain ⟨l, rfl, hl⟩ := rows_with (xs := xs) fun y hy => h y (by simp [hy])
    exact ⟨a :: l, rfl, fun b hb => by
      rcases List.mem_cons.1 hb with rfl | hb
      · exact ha
      · exact hl b hb⟩
theorem rule_td {n : Nat} {cs : List DV} (h : TD Tryz.prog n 33 cs) : ∃ r : Rule, cs = (ruleD r).cells ∧ r.name.length ≤ 9223372036854775807 ∧ r.pat.length ≤ 9223372036854775807 := by
  cases n with
  | zero => exact h.elim
  | succ n =>
    simp only [TD, go_sem, List.mem_cons, List.not_mem_nil, or_false, forall_eq_or_imp, forall_eq] at h
    obtain ⟨hl, h0, h1, h2, h3, h4, h5⟩ := h
    match cs, hl with
    | [a, b, c, d, e, f], _ =>
      simp only [List.drop, List.take] at h0 h1 h2 h3 h4 h5
      obtain ⟨s0, e0, k0⟩ := str_td Tryz.underlying9 h0
      obtain ⟨s1, e1, k1⟩ := str_td Tryz.underlying9 h1
      obtain ⟨z2, e2, _⟩ := int_td Tryz.underlying3 h2
      obtain ⟨z3, e3, _⟩ := int_td Tryz.underlying3 h3
      obtain ⟨z4, e4, _⟩ := int_td Tryz.underlying3 h4
      obtain ⟨z5, e5, _⟩ := int_td Tryz.underlying3 h5
      simp only [List.cons.injEq, and_true] at e0 e1 e2 e3 e4 e5
      exact ⟨⟨s0, s1, z2, z3, z4, z5⟩, by rw [e0, e1, e2, e3, e4, e5]; rfl, k0, k1⟩
theorem rules_td {n : Nat} {ds : List DV} (h : TD Tryz.prog n 23 ds) : ∃ l : List Rule, ds = [rulesD l] ∧ Sized l := by
  cases n with
  | zero => exact h.elim
  | succ n =>
    simp only [TD, go_sem] at h
    obtain ⟨xs, rfl, _, hx⟩ := h
    obtain ⟨l, rfl, hq⟩ := rows_with (Q := fun r : Rule => r.name.length ≤ 9223372036854775807 ∧ r.pat.length ≤ 9223372036854775807) (f := ruleD) fun x hm => by
      obtain ⟨cs, rfl, hc⟩ := hx x hm
      obtain ⟨r, rfl, h1, h2⟩ := rule_td hc
      exact ⟨r, by rw [ruleD_cells]; simp only [ofCells, go_sem, ruleD], h1, h2⟩
    exact ⟨l, rfl, hq⟩
end Go.Proofs.YtjgbdlaecpkmhaaGreatDoor
