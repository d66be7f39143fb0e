/- Part of a proof about the functions of this seat. -/
import Derived.Test.YtjgbdlaecpkmhaaGreatDoorG13Rsf
import Derived.Lib.FieldsP
import Derived.Lib.FieldsU
import Derived.Lib.TrimUEq
import Derived.Lib.Split
import Derived.Lib.SplitLaws
import Derived.Lib.IndexMore
import Derived.Lib.Replace
import Derived.Lib.SlTrimSet
import Derived.Lib.Atoi
import Derived.Lib.Strings
import Derived.Lib.Join
import Derived.Lib.IndexBytes
import Derived.Shelf.Strings.FieldsFuncAny
import Derived.Shelf.Strings.SlTrimAscii
import Derived.Shelf.Strings.Trim
import Derived.Shelf.Small.Wraps
import Derived.Shelf.Strconv.Atoi
import Derived.Shelf.Strings.Count
import Derived.Shelf.Strings.SplitShaped
import Derived.Shelf.Strings.Shaped
import Derived.Shelf.Vars
import Derived.Shelf.LaysM
import Derived.KernelRfl
import Derived.Test.YtjgbdlaecpkmhaaGreatDoorProg
import Derived.Test.YtjgbdlaecpkmhaaGreatDoorG12NvY
/- What the library's functions on strings give, as the plain functions on rules have it. -/













set_option linter.unusedVariables false
set_option linter.unusedSimpArgs false
namespace Rul
open Go Go.Lib

theorem ix_cons (b : UInt8) (s : Str) (c : UInt8) : index (b :: s) [c] = if b = c then 0 else if index s [c] = -1 then -1 else index s [c] + 1 := by
  rw [index_one, index_one, indexByte]
  simp only [beq_iff_eq]
theorem ix_none {s : Str} {c : UInt8} (h : c ∉ s) : index s [c] = -1 := by
  induction s with
  | nil => rfl
  | cons b s ih =>
    rw [ix_cons, if_neg (fun e => h (by simp [e])), ih (fun e => h (by simp [e])), if_pos rfl]
theorem ix_some : ∀ {s : Str} {c : UInt8}, c ∈ s → ∃ i : Nat, index s [c] = i ∧ i < s.length
  | b :: s, c, h => by
    rw [ix_cons]
    by_cases h1 : b = c
    · exact ⟨0, by rw [if_pos h1]; rfl, by simp⟩
    · obtain ⟨i, h2, h3⟩ := ix_some (s := s) (c := c) ((List.mem_cons.1 h).resolve_left (fun e => h1 e.symm))
      refine ⟨i + 1, ?_, by simp; omega⟩
      rw [if_neg h1, h2, if_neg (by omega)]; omega
theorem ix_shift {b c : UInt8} {s : Str} (h : b ≠ c) {i : Nat} (hi : index s [c] = i) : index (b :: s) [c] = ((i + 1 : Nat) : Int) := by
  rw [ix_cons, if_neg h, hi, if_neg (by omega)]; rfl
theorem ix_zero {c : UInt8} {s : Str} : index (c :: s) [c] = ((0 : Nat) : Int) := by rw [ix_cons, if_pos rfl]; rfl
theorem ne_miss (i : Nat) : ¬ (((i : Nat) : Int) == -1) = true := by simp
theorem split_lines : ∀ s : Str, splitK [10] 0 (s.count 10) s = linesOf s
  | [] => rfl
  | b :: s => by
    by_cases hb : b = 10
    · subst hb
      rw [List.count_cons_self, splitK, ix_zero, if_neg (ne_miss 0), linesOf, if_pos rfl, ← split_lines s]; rfl
    · rw [List.count_cons_of_ne hb, linesOf, if_neg hb]
      by_cases hm : (10 : UInt8) ∈ s
      · obtain ⟨k, hk⟩ : ∃ k, s.count 10 = k + 1 := ⟨s.count 10 - 1, by have := List.count_pos_iff.2 hm; omega⟩
        obtain ⟨i, hi, hl⟩ := ix_some hm
        have ih := split_lines s
        rw [hk] at ih ⊢
        rw [splitK, hi, if_neg (ne_miss i)] at ih
        rw [splitK, ix_shift hb hi, if_neg (ne_miss (i + 1)), ← ih]
        simp only [List.headD_cons, List.tail_cons, Int.toNat_natCast, Nat.add_zero, List.take_succ_cons, List.length_singleton, List.drop_succ_cons]
      · rw [List.count_eq_zero.2 hm, lines_one s hm]; rfl
theorem cut_eq (q : UInt8) : ∀ s : Str, cut s [q] = cutAt q s
  | [] => rfl
  | b :: s => by
    have ih := cut_eq q s
    rw [cutAt, ← ih]
    by_cases hb : b = q
    · subst hb
      rw [if_pos rfl, cut, ix_zero]; simp
    · rw [if_neg hb]
      by_cases hm : q ∈ s
      · obtain ⟨i, hi, hl⟩ := ix_some hm
        simp only [cut, ix_shift hb hi, hi, Int.toNat_natCast]
        rw [if_pos (by omega), if_pos (by omega)]
        simp [Nat.add_right_comm]
      · have h2 : q ∉ b :: s := fun e => (List.mem_cons.1 e).elim (fun e => hb e.symm) hm
        simp only [cut, ix_none h2, ix_none hm]
        rw [if_neg (by decide), if_neg (by decide)]
theorem repl_eq : ∀ s : Str, replaceK [32] [32, 32, 32] (s.count 32) s = repl s
  | [] => rfl
  | b :: s => by
    by_cases hb : b = 32
    · subst hb
      rw [List.count_cons_self, replaceK, ix_zero, if_neg (ne_miss 0)]
      have := repl_eq s
      simp only [repl, List.flatMap_cons] at this ⊢
      rw [← this]; rfl
    · rw [List.count_cons_of_ne hb]
      have ih := repl_eq s
      by_cases hm : (32 : UInt8) ∈ s
      · obtain ⟨k, hk⟩ : ∃ k, s.count 32 = k + 1 := ⟨s.count 32 - 1, by have := List.count_pos_iff.2 hm; omega⟩
        obtain ⟨i, hi, hl⟩ := ix_some hm
        rw [hk] at ih ⊢
        rw [replaceK, hi, if_neg (ne_miss i)] at ih
        rw [replaceK, ix_shift hb hi, if_neg (ne_miss (i + 1))]
        simp only [repl, List.flatMap_cons, if_neg hb] at ih ⊢
        rw [← ih]
        simp only [Int.toNat_natCast, List.take_succ_cons, List.length_singleton, List.drop_succ_cons, List.cons_append, List.nil_append]
      · rw [List.count_eq_zero.2 hm]
        show b :: s = _
        simp only [repl, List.flatMap_cons, if_neg hb]
        rw [List.count_eq_zero.2 hm] at ih
        simp only [repl] at ih
        rw [← ih]; rfl
theorem replaceAll_eq (s : Str) : replaceAll s [32] [32, 32, 32] = repl s := by
  unfold replaceAll replace
  rw [if_neg (by decide), replaceNum, if_pos (.inl (by decide)), count_one, repl_eq]

/- Words. -/
theorem dec_facts (n b0 b1 b2 b3 : Nat) (hn : 1 ≤ n) : (b0 = 32 → decodeN n b0 b1 b2 b3 = (32, 1)) ∧ (b0 ≠ 32 → (decodeN n b0 b1 b2 b3).1 ≠ 32) ∧ (1 < (decodeN n b0 b1 b2 b3).2 → b1 / 64 = 2) ∧
    (2 < (decodeN n b0 b1 b2 b3).2 → b2 / 64 = 2) ∧ (3 < (decodeN n b0 b1 b2 b3).2 → b3 / 64 = 2) ∧ 1 ≤ (decodeN n b0 b1 b2 b3).2 ∧ (decodeN n b0 b1 b2 b3).2 ≤ 4 ∧ (decodeN n b0 b1 b2 b3).2 ≤ n := by
  unfold decodeN
  repeat' split
  all_goals (simp only [Prod.mk.injEq, ne_eq, and_true]; omega)
theorem pieces (l : Str) (pos w : Nat) (hw : w ≤ 4) (hp : pos + w ≤ l.length) (h0 : 0 < w → (l.getD pos 0).toNat ≠ 32) (h1 : 1 < w → (l.getD (pos + 1) 0).toNat / 64 = 2) (h2 : 2 < w → (l.getD (pos + 2) 0).toNat / 64 = 2)
    (h3 : 3 < w → (l.getD (pos + 3) 0).toNat / 64 = 2) : (32 : UInt8) ∉ (l.drop pos).take w := by
  intro hm
  obtain ⟨j, hj, he⟩ := List.getElem_of_mem hm
  simp only [List.length_take, List.length_drop] at hj
  simp only [List.getElem_take, List.getElem_drop] at he
  have hg : l.getD (pos + j) 0 = 32 := by rw [List.getD_eq_getElem?_getD, List.getElem?_eq_getElem (by omega)]; simpa using he
  have hj4 : j = 0 ∨ j = 1 ∨ j = 2 ∨ j = 3 := by omega
  rcases hj4 with rfl | rfl | rfl | rfl
  · exact h0 (by omega) (by rw [Nat.add_zero] at hg; rw [hg]; rfl)
  · have := h1 (by omega); rw [hg] at this; revert this; decide
  · have := h2 (by omega); rw [hg] at this; revert this; decide
  · have := h3 (by omega); rw [hg] at this; revert this; decide
def blank (r : Nat) : Bool := decide (r = 32)
theorem spans_words (s : ByteArray) : ∀ (f pos : Nat) (st : Option Nat) (acc : List (Nat × Nat)), s.size ≤ pos + f → pos ≤ s.size → (∀ a, st = some a → a < pos) →
    acc.map (fun p => pieceU s.data.toList p.1 p.2) ++ wordsF (openPiece s.data.toList st pos) (s.data.toList.drop pos) = (closeSpans s (spansFromP blank s f pos st acc)).map (fun p => pieceU s.data.toList p.1 p.2) := by
  have fin : ∀ (st : Option Nat) (acc : List (Nat × Nat)), (∀ a, st = some a → a < s.size) →
      acc.map (fun p => pieceU s.data.toList p.1 p.2) ++ wordsF (openPiece s.data.toList st s.size) (s.data.toList.drop s.size) = (closeSpans s (acc, st)).map (fun p => pieceU s.data.toList p.1 p.2) := by
    intro st acc hst
    have hd : s.data.toList.drop s.size = [] := List.drop_eq_nil_of_le (by rw [← size_eq]; exact Nat.le_refl _)
    rw [hd, wordsF]
    cases st with
    | none => simp [closeSpans, openPiece]
    | some a =>
      have := pieceU_ne s.data.toList a s.size (hst a rfl) (by rw [← size_eq]; exact Nat.le_refl _)
      simp [closeSpans, openPiece, this]
  intro f
  induction f with
  | zero =>
    intro pos st acc h hp hst
    obtain rfl : pos = s.size := by omega
    exact fin st acc hst
  | succ f ihf =>
    intro pos st acc h hp hst
    by_cases hlt : pos < s.size
    · have hlen : pos < s.data.toList.length := by rw [← size_eq]; exact hlt
      have hcons : s.data.toList.drop pos = s.data.toList.getD pos 0 :: s.data.toList.drop (pos + 1) := by
        rw [List.drop_eq_getElem_cons hlen, List.getD_eq_getElem?_getD, List.getElem?_eq_getElem hlen]; rfl
      obtain ⟨d1, d2, d3, d4, d5, d6, d7, d8⟩ := dec_facts (s.data.toList.length - pos) (s.data.toList.getD pos 0).toNat (s.data.toList.getD (pos + 1) 0).toNat (s.data.toList.getD (pos + 2) 0).toNat (s.data.toList.getD (pos + 3) 0).toNat (by omega)
      rw [← decode_N] at d1 d2 d3 d4 d5 d6 d7 d8
      have hwn : pos + (Utf8.decode s pos).2 ≤ s.size := by rw [size_eq]; omega
      simp only [spansFromP, if_pos hlt]
      by_cases hb : (s.data.toList.getD pos 0).toNat = 32
      · have e := d1 hb
        have hb' : s.data.toList.getD pos 0 = 32 := UInt8.toNat_inj.1 hb
        rw [e] at hwn ⊢
        simp only [blank, decide_true, if_true]
        rw [hcons, hb', wordsF, if_pos rfl]
        cases st with
        | none =>
          have ih := ihf (pos + 1) none acc (by omega) hwn (fun a h => by cases h)
          simpa [openPiece] using ih
        | some a =>
          have hpn := pieceU_ne s.data.toList a pos (hst a rfl) (by rw [← size_eq]; omega)
          have ih := ihf (pos + 1) none (acc ++ [(a, pos)]) (by omega) hwn (fun a h => by cases h)
          simpa [openPiece, hpn] using ih
      · have e := d2 hb
        have hbl : blank (Utf8.decode s pos).1 = false := by unfold blank; rw [decide_eq_false e]
        rw [hbl]
        simp only [Bool.false_eq_true, if_false]
        have hnot := pieces s.data.toList pos (Utf8.decode s pos).2 d7 (by rw [← size_eq]; exact hwn) (fun _ => hb) d3 d4 d5
        have hsplit : s.data.toList.drop pos = (s.data.toList.drop pos).take (Utf8.decode s pos).2 ++ s.data.toList.drop (pos + (Utf8.decode s pos).2) := by
          rw [← List.drop_drop, List.take_append_drop]
        rw [hsplit, words_word _ _ hnot]
        cases st with
        | none =>
          have ih := ihf (pos + (Utf8.decode s pos).2) (some pos) acc (by omega) hwn (fun a h => by cases h; omega)
          have e : ([] : List UInt8) ++ (s.data.toList.drop pos).take (Utf8.decode s pos).2 = pieceU s.data.toList pos (pos + (Utf8.decode s pos).2) := by
            unfold pieceU
            rw [List.nil_append, Nat.add_sub_cancel_left]
          simp only [openPiece] at ih ⊢
          rw [e]
          exact ih
        | some a =>
          have ih := ihf (pos + (Utf8.decode s pos).2) (some a) acc (by omega) hwn (fun b h => by cases h; have := hst a rfl; omega)
          simp only [openPiece] at ih ⊢
          rw [pieceU_grow _ _ _ _ (Nat.le_of_lt (hst a rfl))]
          exact ih
    · obtain rfl : pos = s.size := by omega
      rw [spansFromP_end blank s _ _ _ _ hlt]
      exact fin st acc hst
theorem fields_words (s : ByteArray) : (goFieldsP blank s).map (·.data.toList) = wordsOf s.data.toList := by
  have h := spans_words s s.size 0 none [] (by omega) (Nat.zero_le _) (fun a h => by cases h)
  simp only [List.map_nil, List.nil_append, openPiece, List.drop_zero] at h
  unfold wordsOf goFieldsP spansOfP
  rw [h, List.map_map]
  congr 1
  funext p
  simp [pieceU]

/- Ends. -/
theorem trimR_eq (s : Str) : trimRightB s 32 = trimR s := rfl
theorem suffix_eq (s : Str) : hasSuffix s [34] = (unquote s).isSome ∧ ∀ t, unquote s = some t → trimSuffix s [34] = t := by
  have key : ∀ r : Str, s = r.reverse → hasSuffix s [34] = (unquote s).isSome ∧ ∀ t, unquote s = some t → trimSuffix s [34] = t := by
    intro r hr
    subst hr
    cases r with
    | nil => simp [unquote, hasSuffix]
    | cons c r =>
      have hu : unquote (c :: r).reverse = if c = 34 then some r.reverse else none := by
        unfold unquote
        rw [List.reverse_reverse]
        by_cases h : c = 34
        · subst h; rfl
        · rw [if_neg h]
          split
          · rename_i heq; cases heq; exact absurd rfl h
          · rfl
      have hs : hasSuffix (c :: r).reverse [34] = decide (c = 34) := by
        rw [Bool.eq_iff_iff, decide_eq_true_eq, hasSuffix, List.isSuffixOf_iff_suffix, List.reverse_cons]
        constructor
        · rintro ⟨t, ht⟩
          have := List.append_inj' ht rfl
          simpa using this.2.symm
        · rintro rfl; exact ⟨r.reverse, rfl⟩
      rw [hu]
      unfold trimSuffix
      rw [hs]
      by_cases h : c = 34
      · subst h; simp
      · simp [h]
  exact key s.reverse (by simp)
def numerals : Str := [48, 49, 50, 51, 52, 53, 54, 55, 56, 57]
theorem digit_in : ∀ n : Fin 256, numerals.contains (UInt8.ofNat n.val) = (decide (48 ≤ n.val) && decide (n.val ≤ 57)) := by decide +kernel
theorem digit_eq (c : UInt8) : numerals.contains c = (decide (48 ≤ c.toNat) && decide (c.toNat ≤ 57)) := by
  have := digit_in ⟨c.toNat, c.toNat_lt⟩
  simpa using this
theorem trim_digits (s : Str) : decide (trimS s numerals = []) = digitsB s := by
  have h1 : digitsB s = s.all (numerals.contains ·) := by unfold digitsB; congr 1; funext c; rw [digit_eq]
  rw [h1, Bool.eq_iff_iff, decide_eq_true_eq, List.all_eq_true]
  unfold trimS trimLeftS trimRightS
  have nil_iff : ∀ (p : UInt8 → Bool) (l : Str), l.dropWhile p = [] ↔ ∀ x, x ∈ l → p x = true := by
    intro p l
    induction l with
    | nil => simp
    | cons x l ih =>
      by_cases h : p x = true
      · simp [List.dropWhile_cons, h, ih]
      · simp [List.dropWhile_cons, h]
  have tw : ∀ (p : UInt8 → Bool) (l : Str) (x : UInt8), x ∈ l.takeWhile p → p x = true := by
    intro p l x
    induction l with
    | nil => simp
    | cons y l ih =>
      rw [List.takeWhile_cons]
      split
      · rename_i h
        intro hx
        rcases List.mem_cons.1 hx with rfl | hx
        · exact h
        · exact ih hx
      · simp
  rw [nil_iff]
  constructor
  · intro h c hc
    by_cases hx : numerals.contains c = true
    · exact hx
    · exfalso
      have : c ∈ (s.reverse.dropWhile (numerals.contains ·)).reverse := by
        rw [List.mem_reverse]
        have hm : c ∈ s.reverse.takeWhile (numerals.contains ·) ++ s.reverse.dropWhile (numerals.contains ·) := by rw [List.takeWhile_append_dropWhile]; simpa using hc
        rcases List.mem_append.1 hm with hm | hm
        · exact absurd (tw _ _ _ hm) hx
        · exact hm
      exact hx (h c this)
  · intro h c hc
    rw [List.mem_reverse] at hc
    exact h c (by have := (List.dropWhile_suffix (l := s.reverse) (numerals.contains ·)).subset hc; simpa using this)
theorem dec_val : ∀ (s : Str) (acc : Nat), digitsB s = true → ∃ m : Nat, decFrom acc s = some m ∧ (m : Int) = s.foldl (fun n c => n * 10 + ((c.toNat : Int) - 48)) (acc : Int)
  | [], acc, _ => ⟨acc, rfl, rfl⟩
  | b :: s, acc, h => by
    simp only [digitsB, List.all_cons, Bool.and_eq_true, decide_eq_true_eq] at h
    obtain ⟨m, h1, h2⟩ := dec_val s (acc * 10 + (b.toNat - 48)) h.2
    refine ⟨m, ?_, ?_⟩
    · rw [decFrom, digitVal, if_pos h.1]; exact h1
    · rw [h2, List.foldl_cons]
      congr 1
      omega
theorem atoi_num {s : Str} (h : numB s = true) : atoi s = some (valOf s) := by
  have h0 := h
  simp only [numB, Bool.and_eq_true, Bool.not_eq_true', decide_eq_false_iff_not] at h
  obtain ⟨⟨⟨hne, _⟩, _⟩, hd⟩ := h
  cases s with
  | nil => exact absurd rfl hne
  | cons b s =>
    have hb : 48 ≤ b.toNat ∧ b.toNat ≤ 57 := by
      simp only [digitsB, List.all_cons, Bool.and_eq_true, decide_eq_true_eq] at hd; exact hd.1
    obtain ⟨m, h1, h2⟩ := dec_val (b :: s) 0 hd
    have n1 : ¬ (b == 45) = true := by
      intro e; have e' : b = 45 := by simpa using e
      subst e'; revert hb; decide
    have n2 : ¬ (b == 43) = true := by
      intro e; have e' : b = 43 := by simpa using e
      subst e'; revert hb; decide
    rw [atoi, if_neg n1, if_neg n2, decNat]
    simp only [List.isEmpty_cons, Bool.false_eq_true, if_false, h1, Option.map_some, Option.some.injEq]
    rw [h2]; rfl
end Rul
/- The layings of the library's functions on strings in this program, and their contracts. -/














set_option linter.unusedVariables false
set_option linter.unusedSimpArgs false
set_option maxRecDepth 100000
namespace Go.Proofs.YtjgbdlaecpkmhaaGreatDoor
open Go.Shelf
def Tryz.laysm146_ren : Go.Shelf.Ren := ⟨fun | 146 => 18 | 221 => 33 | 268 => 50 | 138 => 11 | 143 => 25 | 195 => 23 | 197 => 51 | 218 => 24 | 219 => 45 | 260 => 70 | 217 => 59 | 225 => 60 | 224 => 61 | 267 => 62 | 266 => 80 | 314 => 81 | n => n, fun | 9 => 9 | 31 => 37 | 3 => 3 | 4 => 4 | 0 => 0 | 105 => 83 | 21 => 21 | 5 => 5 | 46 => 96 | 119 => 122 | 139 => 125 | 138 => 124 | 146 => 114 | 51 => 113 | n => n, fun | 1 => 0 | 3 => 1 | 4 => 2 | n => n⟩
theorem Tryz.laysm146 : Go.Proofs.LaysM.n146 Tryz.prog Tryz.laysm146_ren where
  mixed := by kernel_rfl
  f138 := Tryz.func11.trans (congrArg some (by kernel_rfl))
  f143 := Tryz.func25.trans (congrArg some (by kernel_rfl))
  f146 := Tryz.func18.trans (congrArg some (by kernel_rfl))
  f195 := Tryz.func23.trans (congrArg some (by kernel_rfl))
  f197 := Tryz.func51.trans (congrArg some (by kernel_rfl))
  f217 := Tryz.func59.trans (congrArg some (by kernel_rfl))
  f218 := Tryz.func24.trans (congrArg some (by kernel_rfl))
  f219 := Tryz.func45.trans (congrArg some (by kernel_rfl))
  f221 := Tryz.func33.trans (congrArg some (by kernel_rfl))
  f224 := Tryz.func61.trans (congrArg some (by kernel_rfl))
  f225 := Tryz.func60.trans (congrArg some (by kernel_rfl))
  f260 := Tryz.func70.trans (congrArg some (by kernel_rfl))
  f266 := Tryz.func80.trans (congrArg some (by kernel_rfl))
  f267 := Tryz.func62.trans (congrArg some (by kernel_rfl))
  f268 := Tryz.func50.trans (congrArg some (by kernel_rfl))
  f314 := Tryz.func81.trans (congrArg some (by kernel_rfl))
  t0 := Tryz.underlying0
  a0 := Tryz.isAgg0
  z0 := Tryz.sizeOf0
  v0 := Tryz.zeroValue0
  t3 := Tryz.underlying3
  a3 := Tryz.isAgg3
  z3 := Tryz.sizeOf3
  v3 := Tryz.zeroValue3
  t4 := Tryz.underlying4
  a4 := Tryz.isAgg4
  z4 := Tryz.sizeOf4
  v4 := Tryz.zeroValue4
  t5 := Tryz.underlying5
  a5 := Tryz.isAgg5
  z5 := Tryz.sizeOf5
  v5 := Tryz.zeroValue5
  t9 := Tryz.underlying9
  a9 := Tryz.isAgg9
  z9 := Tryz.sizeOf9
  v9 := Tryz.zeroValue9
  t21 := Tryz.underlying21
  a21 := Tryz.isAgg21
  z21 := Tryz.sizeOf21
  v21 := Tryz.zeroValue21
  t31 := Tryz.underlying37
  a31 := Tryz.isAgg37
  z31 := Tryz.sizeOf37
  v31 := Tryz.zeroValue37
  t46 := Tryz.underlying96
  a46 := Tryz.isAgg96
  z46 := Tryz.sizeOf96
  v46 := Tryz.zeroValue96
  t51 := Tryz.underlying113
  a51 := Tryz.isAgg113
  z51 := Tryz.sizeOf113
  v51 := Tryz.zeroValue113
  t105 := Tryz.underlying83
  a105 := Tryz.isAgg83
  z105 := Tryz.sizeOf83
  v105 := Tryz.zeroValue83
  t119 := Tryz.underlying122
  a119 := Tryz.isAgg122
  z119 := Tryz.sizeOf122
  t138 := Tryz.underlying124
  a138 := Tryz.isAgg124
  z138 := Tryz.sizeOf124
  v138 := Tryz.zeroValue124
  t139 := Tryz.underlying125
  a139 := Tryz.isAgg125
  z139 := Tryz.sizeOf125
  v139 := Tryz.zeroValue125
  t146 := Tryz.underlying114
  a146 := Tryz.isAgg114
  z146 := Tryz.sizeOf114
  v146 := Tryz.zeroValue114
  g1 := by kernel_rfl
  g3 := by kernel_rfl
  g4 := by kernel_rfl
  i0 := by kernel_rfl
  i3 := by kernel_rfl
  i4 := by kernel_rfl
  i5 := by kernel_rfl
  i9 := by kernel_rfl
  i21 := by kernel_rfl
  i31 := by kernel_rfl
  i46 := by kernel_rfl
  i51 := by kernel_rfl
  i105 := by kernel_rfl
  i138 := by kernel_rfl
  i139 := by kernel_rfl
  i146 := by kernel_rfl
  m1 := by kernel_rfl
  s1_3 := fun w h => Go.Proofs.cell_of_shapedOpen_int (zero := #[.int .i64 0]) (t := 3) h (of_decide_eq_true (by kernel_rfl)) (by kernel_rfl) rfl (by kernel_rfl) (by kernel_rfl) Tryz.underlying3
  m3 := by kernel_rfl
  m4 := by kernel_rfl
def Tryz.laysm145_ren : Go.Shelf.Ren := ⟨fun | 145 => 19 | 220 => 34 | 219 => 45 | 217 => 59 | 225 => 60 | 224 => 61 | 267 => 62 | 266 => 80 | 314 => 81 | n => n, fun | 9 => 9 | 4 => 4 | 59 => 42 | 3 => 3 | 5 => 5 | 46 => 96 | 146 => 114 | 51 => 113 | n => n, fun | 1 => 0 | n => n⟩
theorem Tryz.laysm145 : Go.Proofs.LaysM.n145 Tryz.prog Tryz.laysm145_ren where
  mixed := by kernel_rfl
  f145 := Tryz.func19.trans (congrArg some (by kernel_rfl))
  f217 := Tryz.func59.trans (congrArg some (by kernel_rfl))
  f219 := Tryz.func45.trans (congrArg some (by kernel_rfl))
  f220 := Tryz.func34.trans (congrArg some (by kernel_rfl))
  f224 := Tryz.func61.trans (congrArg some (by kernel_rfl))
  f225 := Tryz.func60.trans (congrArg some (by kernel_rfl))
  f266 := Tryz.func80.trans (congrArg some (by kernel_rfl))
  f267 := Tryz.func62.trans (congrArg some (by kernel_rfl))
  f314 := Tryz.func81.trans (congrArg some (by kernel_rfl))
  t3 := Tryz.underlying3
  a3 := Tryz.isAgg3
  z3 := Tryz.sizeOf3
  v3 := Tryz.zeroValue3
  t4 := Tryz.underlying4
  a4 := Tryz.isAgg4
  z4 := Tryz.sizeOf4
  v4 := Tryz.zeroValue4
  t5 := Tryz.underlying5
  a5 := Tryz.isAgg5
  z5 := Tryz.sizeOf5
  v5 := Tryz.zeroValue5
  t9 := Tryz.underlying9
  a9 := Tryz.isAgg9
  z9 := Tryz.sizeOf9
  v9 := Tryz.zeroValue9
  t46 := Tryz.underlying96
  a46 := Tryz.isAgg96
  z46 := Tryz.sizeOf96
  v46 := Tryz.zeroValue96
  t51 := Tryz.underlying113
  a51 := Tryz.isAgg113
  z51 := Tryz.sizeOf113
  v51 := Tryz.zeroValue113
  t59 := Tryz.underlying42
  a59 := Tryz.isAgg42
  z59 := Tryz.sizeOf42
  v59 := Tryz.zeroValue42
  t146 := Tryz.underlying114
  a146 := Tryz.isAgg114
  z146 := Tryz.sizeOf114
  v146 := Tryz.zeroValue114
  g1 := by kernel_rfl
  i3 := by kernel_rfl
  i4 := by kernel_rfl
  i5 := by kernel_rfl
  i9 := by kernel_rfl
  i46 := by kernel_rfl
  i51 := by kernel_rfl
  i59 := by kernel_rfl
  i146 := by kernel_rfl
  m1 := by kernel_rfl
  s1_3 := fun w h => Go.Proofs.cell_of_shapedOpen_int (zero := #[.int .i64 0]) (t := 3) h (of_decide_eq_true (by kernel_rfl)) (by kernel_rfl) rfl (by kernel_rfl) (by kernel_rfl) Tryz.underlying3
def Tryz.lays229_ren : Go.Shelf.Ren := ⟨fun | 229 => 36 | n => n, fun | 9 => 9 | 40 => 65 | 31 => 37 | 152 => 85 | 3 => 3 | 0 => 0 | 4 => 4 | 21 => 21 | 154 => 87 | n => n, fun | n => n⟩
theorem Tryz.lays229 : Go.Proofs.Lays.n229 Tryz.prog Tryz.lays229_ren where
  mixed := by kernel_rfl
  f229 := Tryz.func36.trans (congrArg some (by kernel_rfl))
  t0 := Tryz.underlying0
  a0 := Tryz.isAgg0
  z0 := Tryz.sizeOf0
  v0 := Tryz.zeroValue0
  t3 := Tryz.underlying3
  a3 := Tryz.isAgg3
  z3 := Tryz.sizeOf3
  v3 := Tryz.zeroValue3
  t4 := Tryz.underlying4
  a4 := Tryz.isAgg4
  z4 := Tryz.sizeOf4
  v4 := Tryz.zeroValue4
  t9 := Tryz.underlying9
  a9 := Tryz.isAgg9
  z9 := Tryz.sizeOf9
  v9 := Tryz.zeroValue9
  t21 := Tryz.underlying21
  a21 := Tryz.isAgg21
  z21 := Tryz.sizeOf21
  v21 := Tryz.zeroValue21
  t31 := Tryz.underlying37
  a31 := Tryz.isAgg37
  z31 := Tryz.sizeOf37
  v31 := Tryz.zeroValue37
  t40 := Tryz.underlying65
  a40 := Tryz.isAgg65
  z40 := Tryz.sizeOf65
  v40 := Tryz.zeroValue65
  t152 := Tryz.underlying85
  a152 := Tryz.isAgg85
  z152 := Tryz.sizeOf85
  v152 := Tryz.zeroValue85
  t154 := Tryz.underlying87
  a154 := Tryz.isAgg87
  z154 := Tryz.sizeOf87
  v154 := Tryz.zeroValue87
def Tryz.lays162_ren : Go.Shelf.Ren := ⟨fun | 162 => 38 | 232 => 52 | 227 => 53 | 234 => 54 | 236 => 55 | 228 => 71 | 271 => 72 | 151 => 73 | 120 => 89 | 197 => 51 | 152 => 90 | 260 => 70 | 137 => 103 | 119 => 104 | 224 => 61 | 225 => 60 | 217 => 59 | 266 => 80 | n => n, fun | 9 => 9 | 4 => 4 | 3 => 3 | 5 => 5 | 117 => 91 | 116 => 90 | 0 => 0 | 124 => 94 | 21 => 21 | 105 => 83 | 46 => 96 | 119 => 122 | 139 => 125 | 138 => 124 | n => n, fun | 3 => 1 | 4 => 2 | n => n⟩
theorem Tryz.lays162 : Go.Proofs.Lays.n162 Tryz.prog Tryz.lays162_ren where
  mixed := by kernel_rfl
  f119 := Tryz.func104.trans (congrArg some (by kernel_rfl))
  f120 := Tryz.func89.trans (congrArg some (by kernel_rfl))
  f137 := Tryz.func103.trans (congrArg some (by kernel_rfl))
  f151 := Tryz.func73.trans (congrArg some (by kernel_rfl))
  f152 := Tryz.func90.trans (congrArg some (by kernel_rfl))
  f162 := Tryz.func38.trans (congrArg some (by kernel_rfl))
  f197 := Tryz.func51.trans (congrArg some (by kernel_rfl))
  f217 := Tryz.func59.trans (congrArg some (by kernel_rfl))
  f224 := Tryz.func61.trans (congrArg some (by kernel_rfl))
  f225 := Tryz.func60.trans (congrArg some (by kernel_rfl))
  f227 := Tryz.func53.trans (congrArg some (by kernel_rfl))
  f228 := Tryz.func71.trans (congrArg some (by kernel_rfl))
  f232 := Tryz.func52.trans (congrArg some (by kernel_rfl))
  f234 := Tryz.func54.trans (congrArg some (by kernel_rfl))
  f236 := Tryz.func55.trans (congrArg some (by kernel_rfl))
  f260 := Tryz.func70.trans (congrArg some (by kernel_rfl))
  f266 := Tryz.func80.trans (congrArg some (by kernel_rfl))
  f271 := Tryz.func72.trans (congrArg some (by kernel_rfl))
  t0 := Tryz.underlying0
  a0 := Tryz.isAgg0
  z0 := Tryz.sizeOf0
  v0 := Tryz.zeroValue0
  t3 := Tryz.underlying3
  a3 := Tryz.isAgg3
  z3 := Tryz.sizeOf3
  v3 := Tryz.zeroValue3
  t4 := Tryz.underlying4
  a4 := Tryz.isAgg4
  z4 := Tryz.sizeOf4
  v4 := Tryz.zeroValue4
  t5 := Tryz.underlying5
  a5 := Tryz.isAgg5
  z5 := Tryz.sizeOf5
  v5 := Tryz.zeroValue5
  t9 := Tryz.underlying9
  a9 := Tryz.isAgg9
  z9 := Tryz.sizeOf9
  v9 := Tryz.zeroValue9
  t21 := Tryz.underlying21
  a21 := Tryz.isAgg21
  z21 := Tryz.sizeOf21
  v21 := Tryz.zeroValue21
  t46 := Tryz.underlying96
  a46 := Tryz.isAgg96
  z46 := Tryz.sizeOf96
  v46 := Tryz.zeroValue96
  t105 := Tryz.underlying83
  a105 := Tryz.isAgg83
  z105 := Tryz.sizeOf83
  v105 := Tryz.zeroValue83
  t116 := Tryz.underlying90
  a116 := Tryz.isAgg90
  z116 := Tryz.sizeOf90
  t117 := Tryz.underlying91
  a117 := Tryz.isAgg91
  z117 := Tryz.sizeOf91
  v117 := Tryz.zeroValue91
  t119 := Tryz.underlying122
  a119 := Tryz.isAgg122
  z119 := Tryz.sizeOf122
  t124 := Tryz.underlying94
  a124 := Tryz.isAgg94
  z124 := Tryz.sizeOf94
  v124 := Tryz.zeroValue94
  t138 := Tryz.underlying124
  a138 := Tryz.isAgg124
  z138 := Tryz.sizeOf124
  v138 := Tryz.zeroValue124
  t139 := Tryz.underlying125
  a139 := Tryz.isAgg125
  z139 := Tryz.sizeOf125
  v139 := Tryz.zeroValue125
  g3 := by kernel_rfl
  g4 := by kernel_rfl
def Tryz.lays104_ren : Go.Shelf.Ren := ⟨fun | 104 => 39 | 211 => 56 | 207 => 74 | n => n, fun | 9 => 9 | 4 => 4 | 24 => 67 | 3 => 3 | n => n, fun | n => n⟩
theorem Tryz.lays104 : Go.Proofs.Lays.n104 Tryz.prog Tryz.lays104_ren where
  mixed := by kernel_rfl
  f104 := Tryz.func39.trans (congrArg some (by kernel_rfl))
  f207 := Tryz.func74.trans (congrArg some (by kernel_rfl))
  f211 := Tryz.func56.trans (congrArg some (by kernel_rfl))
  t3 := Tryz.underlying3
  a3 := Tryz.isAgg3
  z3 := Tryz.sizeOf3
  v3 := Tryz.zeroValue3
  t4 := Tryz.underlying4
  a4 := Tryz.isAgg4
  z4 := Tryz.sizeOf4
  v4 := Tryz.zeroValue4
  t9 := Tryz.underlying9
  a9 := Tryz.isAgg9
  z9 := Tryz.sizeOf9
  v9 := Tryz.zeroValue9
  t24 := Tryz.underlying67
  a24 := Tryz.isAgg67
  z24 := Tryz.sizeOf67
  v24 := Tryz.zeroValue67
def Tryz.lays160_ren : Go.Shelf.Ren := ⟨fun | 160 => 57 | 232 => 52 | 231 => 75 | 227 => 53 | 234 => 54 | 233 => 76 | 236 => 55 | 235 => 77 | 228 => 71 | 271 => 72 | 151 => 73 | 197 => 51 | 120 => 89 | 152 => 90 | 260 => 70 | 137 => 103 | 119 => 104 | 224 => 61 | 225 => 60 | 217 => 59 | 266 => 80 | n => n, fun | 9 => 9 | 4 => 4 | 3 => 3 | 5 => 5 | 117 => 91 | 116 => 90 | 0 => 0 | 124 => 94 | 21 => 21 | 105 => 83 | 46 => 96 | 119 => 122 | 139 => 125 | 138 => 124 | n => n, fun | 3 => 1 | 4 => 2 | n => n⟩
theorem Tryz.lays160 : Go.Proofs.Lays.n160 Tryz.prog Tryz.lays160_ren where
  mixed := by kernel_rfl
  f119 := Tryz.func104.trans (congrArg some (by kernel_rfl))
  f120 := Tryz.func89.trans (congrArg some (by kernel_rfl))
  f137 := Tryz.func103.trans (congrArg some (by kernel_rfl))
  f151 := Tryz.func73.trans (congrArg some (by kernel_rfl))
  f152 := Tryz.func90.trans (congrArg some (by kernel_rfl))
  f160 := Tryz.func57.trans (congrArg some (by kernel_rfl))
  f197 := Tryz.func51.trans (congrArg some (by kernel_rfl))
  f217 := Tryz.func59.trans (congrArg some (by kernel_rfl))
  f224 := Tryz.func61.trans (congrArg some (by kernel_rfl))
  f225 := Tryz.func60.trans (congrArg some (by kernel_rfl))
  f227 := Tryz.func53.trans (congrArg some (by kernel_rfl))
  f228 := Tryz.func71.trans (congrArg some (by kernel_rfl))
  f231 := Tryz.func75.trans (congrArg some (by kernel_rfl))
  f232 := Tryz.func52.trans (congrArg some (by kernel_rfl))
  f233 := Tryz.func76.trans (congrArg some (by kernel_rfl))
  f234 := Tryz.func54.trans (congrArg some (by kernel_rfl))
  f235 := Tryz.func77.trans (congrArg some (by kernel_rfl))
  f236 := Tryz.func55.trans (congrArg some (by kernel_rfl))
  f260 := Tryz.func70.trans (congrArg some (by kernel_rfl))
  f266 := Tryz.func80.trans (congrArg some (by kernel_rfl))
  f271 := Tryz.func72.trans (congrArg some (by kernel_rfl))
  t0 := Tryz.underlying0
  a0 := Tryz.isAgg0
  z0 := Tryz.sizeOf0
  v0 := Tryz.zeroValue0
  t3 := Tryz.underlying3
  a3 := Tryz.isAgg3
  z3 := Tryz.sizeOf3
  v3 := Tryz.zeroValue3
  t4 := Tryz.underlying4
  a4 := Tryz.isAgg4
  z4 := Tryz.sizeOf4
  v4 := Tryz.zeroValue4
  t5 := Tryz.underlying5
  a5 := Tryz.isAgg5
  z5 := Tryz.sizeOf5
  v5 := Tryz.zeroValue5
  t9 := Tryz.underlying9
  a9 := Tryz.isAgg9
  z9 := Tryz.sizeOf9
  v9 := Tryz.zeroValue9
  t21 := Tryz.underlying21
  a21 := Tryz.isAgg21
  z21 := Tryz.sizeOf21
  v21 := Tryz.zeroValue21
  t46 := Tryz.underlying96
  a46 := Tryz.isAgg96
  z46 := Tryz.sizeOf96
  v46 := Tryz.zeroValue96
  t105 := Tryz.underlying83
  a105 := Tryz.isAgg83
  z105 := Tryz.sizeOf83
  v105 := Tryz.zeroValue83
  t116 := Tryz.underlying90
  a116 := Tryz.isAgg90
  z116 := Tryz.sizeOf90
  t117 := Tryz.underlying91
  a117 := Tryz.isAgg91
  z117 := Tryz.sizeOf91
  v117 := Tryz.zeroValue91
  t119 := Tryz.underlying122
  a119 := Tryz.isAgg122
  z119 := Tryz.sizeOf122
  t124 := Tryz.underlying94
  a124 := Tryz.isAgg94
  z124 := Tryz.sizeOf94
  v124 := Tryz.zeroValue94
  t138 := Tryz.underlying124
  a138 := Tryz.isAgg124
  z138 := Tryz.sizeOf124
  v138 := Tryz.zeroValue124
  t139 := Tryz.underlying125
  a139 := Tryz.isAgg125
  z139 := Tryz.sizeOf125
  v139 := Tryz.zeroValue125
  g3 := by kernel_rfl
  g4 := by kernel_rfl
def Tryz.lays172_ren : Go.Shelf.Ren := ⟨fun | 172 => 58 | 244 => 78 | 245 => 79 | 247 => 91 | 279 => 92 | 280 => 93 | 281 => 94 | 282 => 95 | 287 => 105 | 316 => 106 | 171 => 30 | 205 => 107 | 321 => 113 | 322 => 114 | 243 => 48 | 246 => 68 | 283 => 85 | 284 => 86 | 285 => 87 | 286 => 88 | 129 => 99 | 317 => 98 | 318 => 100 | 319 => 101 | 320 => 102 | 337 => 111 | 338 => 112 | n => n, fun | 9 => 9 | 3 => 3 | 75 => 56 | 76 => 57 | 4 => 4 | 5 => 5 | 167 => 127 | 37 => 38 | 0 => 0 | 85 => 128 | 2 => 2 | 168 => 130 | 53 => 117 | 175 => 139 | 46 => 96 | 210 => 143 | 127 => 81 | 145 => 151 | 143 => 149 | 21 => 21 | 171 => 116 | 173 => 120 | 212 => 135 | 51 => 113 | 20 => 20 | 213 => 136 | 232 => 155 | 233 => 156 | 80 => 60 | n => n, fun | 15 => 4 | 16 => 5 | 17 => 3 | 18 => 6 | 19 => 7 | n => n⟩
theorem Tryz.lays172 : Go.Proofs.Lays.n172 Tryz.prog Tryz.lays172_ren where
  mixed := by kernel_rfl
  f129 := Tryz.func99.trans (congrArg some (by kernel_rfl))
  f171 := Tryz.func30.trans (congrArg some (by kernel_rfl))
  f172 := Tryz.func58.trans (congrArg some (by kernel_rfl))
  f205 := Tryz.func107.trans (congrArg some (by kernel_rfl))
  f243 := Tryz.func48.trans (congrArg some (by kernel_rfl))
  f244 := Tryz.func78.trans (congrArg some (by kernel_rfl))
  f245 := Tryz.func79.trans (congrArg some (by kernel_rfl))
  f246 := Tryz.func68.trans (congrArg some (by kernel_rfl))
  f247 := Tryz.func91.trans (congrArg some (by kernel_rfl))
  f279 := Tryz.func92.trans (congrArg some (by kernel_rfl))
  f280 := Tryz.func93.trans (congrArg some (by kernel_rfl))
  f281 := Tryz.func94.trans (congrArg some (by kernel_rfl))
  f282 := Tryz.func95.trans (congrArg some (by kernel_rfl))
  f283 := Tryz.func85.trans (congrArg some (by kernel_rfl))
  f284 := Tryz.func86.trans (congrArg some (by kernel_rfl))
  f285 := Tryz.func87.trans (congrArg some (by kernel_rfl))
  f286 := Tryz.func88.trans (congrArg some (by kernel_rfl))
  f287 := Tryz.func105.trans (congrArg some (by kernel_rfl))
  f316 := Tryz.func106.trans (congrArg some (by kernel_rfl))
  f317 := Tryz.func98.trans (congrArg some (by kernel_rfl))
  f318 := Tryz.func100.trans (congrArg some (by kernel_rfl))
  f319 := Tryz.func101.trans (congrArg some (by kernel_rfl))
  f320 := Tryz.func102.trans (congrArg some (by kernel_rfl))
  f321 := Tryz.func113.trans (congrArg some (by kernel_rfl))
  f322 := Tryz.func114.trans (congrArg some (by kernel_rfl))
  f337 := Tryz.func111.trans (congrArg some (by kernel_rfl))
  f338 := Tryz.func112.trans (congrArg some (by kernel_rfl))
  t0 := Tryz.underlying0
  a0 := Tryz.isAgg0
  z0 := Tryz.sizeOf0
  v0 := Tryz.zeroValue0
  t2 := Tryz.underlying2
  a2 := Tryz.isAgg2
  z2 := Tryz.sizeOf2
  v2 := Tryz.zeroValue2
  t3 := Tryz.underlying3
  a3 := Tryz.isAgg3
  z3 := Tryz.sizeOf3
  v3 := Tryz.zeroValue3
  t4 := Tryz.underlying4
  a4 := Tryz.isAgg4
  z4 := Tryz.sizeOf4
  v4 := Tryz.zeroValue4
  t5 := Tryz.underlying5
  a5 := Tryz.isAgg5
  z5 := Tryz.sizeOf5
  v5 := Tryz.zeroValue5
  t9 := Tryz.underlying9
  a9 := Tryz.isAgg9
  z9 := Tryz.sizeOf9
  v9 := Tryz.zeroValue9
  t20 := Tryz.underlying20
  a20 := Tryz.isAgg20
  z20 := Tryz.sizeOf20
  v20 := Tryz.zeroValue20
  t21 := Tryz.underlying21
  a21 := Tryz.isAgg21
  z21 := Tryz.sizeOf21
  v21 := Tryz.zeroValue21
  t37 := Tryz.underlying38
  a37 := Tryz.isAgg38
  z37 := Tryz.sizeOf38
  v37 := Tryz.zeroValue38
  t46 := Tryz.underlying96
  a46 := Tryz.isAgg96
  z46 := Tryz.sizeOf96
  v46 := Tryz.zeroValue96
  t51 := Tryz.underlying113
  a51 := Tryz.isAgg113
  z51 := Tryz.sizeOf113
  v51 := Tryz.zeroValue113
  t53 := Tryz.underlying117
  a53 := Tryz.isAgg117
  z53 := Tryz.sizeOf117
  v53 := Tryz.zeroValue117
  t75 := Tryz.underlying56
  a75 := Tryz.isAgg56
  z75 := Tryz.sizeOf56
  v75 := Tryz.zeroValue56
  t76 := Tryz.underlying57
  a76 := Tryz.isAgg57
  z76 := Tryz.sizeOf57
  v76 := Tryz.zeroValue57
  t85 := Tryz.underlying128
  a85 := Tryz.isAgg128
  z85 := Tryz.sizeOf128
  v85 := Tryz.zeroValue128
  t127 := Tryz.underlying81
  a127 := Tryz.isAgg81
  z127 := Tryz.sizeOf81
  v127 := Tryz.zeroValue81
  t143 := Tryz.underlying149
  a143 := Tryz.isAgg149
  z143 := Tryz.sizeOf149
  v143 := Tryz.zeroValue149
  t145 := Tryz.underlying151
  a145 := Tryz.isAgg151
  z145 := Tryz.sizeOf151
  v145 := Tryz.zeroValue151
  t167 := Tryz.underlying127
  a167 := Tryz.isAgg127
  z167 := Tryz.sizeOf127
  v167 := Tryz.zeroValue127
  t168 := Tryz.underlying130
  a168 := Tryz.isAgg130
  z168 := Tryz.sizeOf130
  v168 := Tryz.zeroValue130
  t171 := Tryz.underlying116
  a171 := Tryz.isAgg116
  z171 := Tryz.sizeOf116
  v171 := Tryz.zeroValue116
  t173 := Tryz.underlying120
  a173 := Tryz.isAgg120
  z173 := Tryz.sizeOf120
  v173 := Tryz.zeroValue120
  t175 := Tryz.underlying139
  a175 := Tryz.isAgg139
  z175 := Tryz.sizeOf139
  v175 := Tryz.zeroValue139
  t210 := Tryz.underlying143
  a210 := Tryz.isAgg143
  z210 := Tryz.sizeOf143
  v210 := Tryz.zeroValue143
  t212 := Tryz.underlying135
  a212 := Tryz.isAgg135
  z212 := Tryz.sizeOf135
  v212 := Tryz.zeroValue135
  t213 := Tryz.underlying136
  a213 := Tryz.isAgg136
  z213 := Tryz.sizeOf136
  t232 := Tryz.underlying155
  a232 := Tryz.isAgg155
  z232 := Tryz.sizeOf155
  v232 := Tryz.zeroValue155
  t233 := Tryz.underlying156
  a233 := Tryz.isAgg156
  z233 := Tryz.sizeOf156
  v233 := Tryz.zeroValue156
  g15 := by kernel_rfl
  g16 := by kernel_rfl
  g17 := by kernel_rfl
  g18 := by kernel_rfl
  g19 := by kernel_rfl
def Tryz.lays138_ren : Go.Shelf.Ren := ⟨fun | 138 => 11 | 195 => 23 | 218 => 24 | 143 => 25 | 219 => 45 | 217 => 59 | 225 => 60 | 224 => 61 | 267 => 62 | 266 => 80 | 314 => 81 | n => n, fun | 9 => 9 | 3 => 3 | 4 => 4 | 5 => 5 | 0 => 0 | 46 => 96 | 146 => 114 | 51 => 113 | n => n, fun | 1 => 0 | n => n⟩
theorem Tryz.lays138 : Go.Proofs.Lays.n138 Tryz.prog Tryz.lays138_ren where
  mixed := by kernel_rfl
  f138 := Tryz.func11.trans (congrArg some (by kernel_rfl))
  f143 := Tryz.func25.trans (congrArg some (by kernel_rfl))
  f195 := Tryz.func23.trans (congrArg some (by kernel_rfl))
  f217 := Tryz.func59.trans (congrArg some (by kernel_rfl))
  f218 := Tryz.func24.trans (congrArg some (by kernel_rfl))
  f219 := Tryz.func45.trans (congrArg some (by kernel_rfl))
  f224 := Tryz.func61.trans (congrArg some (by kernel_rfl))
  f225 := Tryz.func60.trans (congrArg some (by kernel_rfl))
  f266 := Tryz.func80.trans (congrArg some (by kernel_rfl))
  f267 := Tryz.func62.trans (congrArg some (by kernel_rfl))
  f314 := Tryz.func81.trans (congrArg some (by kernel_rfl))
  t0 := Tryz.underlying0
  a0 := Tryz.isAgg0
  z0 := Tryz.sizeOf0
  v0 := Tryz.zeroValue0
  t3 := Tryz.underlying3
  a3 := Tryz.isAgg3
  z3 := Tryz.sizeOf3
  v3 := Tryz.zeroValue3
  t4 := Tryz.underlying4
  a4 := Tryz.isAgg4
  z4 := Tryz.sizeOf4
  v4 := Tryz.zeroValue4
  t5 := Tryz.underlying5
  a5 := Tryz.isAgg5
  z5 := Tryz.sizeOf5
  v5 := Tryz.zeroValue5
  t9 := Tryz.underlying9
  a9 := Tryz.isAgg9
  z9 := Tryz.sizeOf9
  v9 := Tryz.zeroValue9
  t46 := Tryz.underlying96
  a46 := Tryz.isAgg96
  z46 := Tryz.sizeOf96
  v46 := Tryz.zeroValue96
  t51 := Tryz.underlying113
  a51 := Tryz.isAgg113
  z51 := Tryz.sizeOf113
  v51 := Tryz.zeroValue113
  t146 := Tryz.underlying114
  a146 := Tryz.isAgg114
  z146 := Tryz.sizeOf114
  v146 := Tryz.zeroValue114
  g1 := by kernel_rfl
open Go.RowKit Go.Lib Nv Rul
theorem maxlen_of (g : Nat) (hg : g < Tryz.prog.globals.size) (hq : ∀ w0 : Go.World, w0.ShapedOpen Tryz.prog → ∃ m, w0.cell? ⟨g, 0, none⟩ = some (.int .i64 m)) {w : Go.World} {I : Nat → Prop} (hT : Tabs Tryz.prog I w) : ∃ m, w.cell? ⟨g, 0, none⟩ = some (.int .i64 m) :=
  hT.cell (g := g) hg (Q := fun v => ∃ m, v = some (.int .i64 m)) hq
theorem below_alloc (w : Go.World) (o : Go.Obj) : Below w.heap.size w (w.alloc o) := ⟨rfl, rfl, rfl, by rw [push_size]; omega, fun k hk => push_old w o k hk⟩
theorem split18 (s : List UInt8) (hs : s.length < 4294967281) : PCall Tryz.prog 18 [.d (.str s), .d (.str [10])] (.d (.list 1 (strsD (linesOf s)))) := by
  refine PCall.of_strings fun ρ σ w I vs hr hv => ?_
  rw [scs_inv (by rfl) hv]
  obtain ⟨m, hm⟩ := maxlen_of (Tryz.laysm146_ren.g 1) (of_decide_eq_true (by kernel_rfl)) (fun w0 h => Tryz.laysm146.s1_3 w0 h) hr.tabs
  refine (Any.strings_Split { Tryz.laysm146 with } Tryz.laysm146.i9 ⟨s.toArray⟩ ⟨#[10]⟩ m w (by simpa [ByteArray.size] using hs) hm (by decide)).mono ?_
  rintro e w' ⟨rfl, rfl⟩
  have hcount : Lib.countB ⟨s.toArray⟩ ⟨#[10]⟩ = s.count 10 := count_one 10 s
  have hdata : (Lib.splitB ⟨#[10]⟩ 0 (Lib.countB ⟨s.toArray⟩ ⟨#[10]⟩) ⟨s.toArray⟩).map (·.data.toList) = linesOf s := by
    rw [splitB_data, hcount]; exact split_lines s
  have hlen : Lib.countB ⟨s.toArray⟩ ⟨#[10]⟩ + 1 = (linesOf s).length := by rw [hcount, lines_count]
  refine ⟨w.heap.size, (linesOf s).length, by rw [hlen], Nat.le_refl _, Nat.le_refl _, by rw [push_size]; omega, fun j x hj => ?_, below_alloc _ _⟩
  rw [← hdata, List.getElem?_map, Option.map_eq_some_iff] at hj
  obtain ⟨b, hb, rfl⟩ := hj
  simp only [Go.World.cell?, push_new, Option.bind_some]
  simp [hb]
theorem cut19 (s : List UInt8) (q : UInt8) (hs : s.length < 4294967281) : PCall Tryz.prog 19 [.d (.str s), .d (.str [q])] (.tuple [.d (.str (cutAt q s).1), .d (.str (cutAt q s).2.1), .d (.bool (cutAt q s).2.2)]) := by
  refine PCall.of_callsV (by rfl) (tuple_V (vs := #[.string ⟨(cutAt q s).1.toArray⟩, .string ⟨(cutAt q s).2.1.toArray⟩, .bool (cutAt q s).2.2]) rfl fun j a hj ρ σ I w => ?_) fun w I hT => ?_
  · match j, hj with
    | 0, hj => simp at hj; subst hj; exact .d (.str _)
    | 1, hj => simp at hj; subst hj; exact .d (.str _)
    | 2, hj => simp at hj; subst hj; exact .d (.bool _)
  obtain ⟨m, hm⟩ := maxlen_of (Tryz.laysm145_ren.g 1) (of_decide_eq_true (by kernel_rfl)) (fun w0 h => Tryz.laysm145.s1_3 w0 h) hT
  refine (Any.strings_Cut { Tryz.laysm145 with } ⟨s.toArray⟩ ⟨#[q]⟩ m w (by simpa [ByteArray.size] using hs) hm).mono ?_
  rintro e w' ⟨rfl, n, rfl⟩
  have e := cut_eq q s
  refine ⟨?_, below_drew w n⟩
  show Go.Ending.returned _ = Go.Ending.returned _
  simp only [e]
theorem words37 (W : Go.World) (x : Nat) : Go.Calls Tryz.prog 37 (#[encR x] ++ #[]) W fun e w' => e = .returned (.bool (Rul.blank x)) ∧ ∃ q, w' = W.drewN q := by
  have hb : Rul.blank x = decide ((x : Int) = 32) := by unfold Rul.blank; rw [Bool.eq_iff_iff]; simp; omega
  show Go.Calls Tryz.prog 37 #[.int .i32 x] W _
  rw [hb]
  go_enter Tryz.func37, Tryz.ntmps37
  go_wp2
  all_goals
    go_ret
    exact ⟨rfl, 0, rfl⟩
theorem fields36 (s : List UInt8) (hs : s.length ≤ 4294967296) : PCall Tryz.prog 36 [.d (.str s), .d (.func (.func 37))] (.d (.list 1 (strsD (wordsOf s)))) := by
  refine PCall.of_strings fun ρ σ w I vs hr hv => ?_
  have hsz : vs.size = 2 := by have := hv.1; simpa using this.symm
  have hv0 := (hv.2 0 _ rfl).d_inv.str_inv
  have hv1 := (hv.2 1 _ rfl).d_inv
  obtain ⟨v0, v1, rfl⟩ : ∃ v0 v1, vs = #[v0, v1] := by
    obtain ⟨l⟩ := vs
    match l, hsz with
    | [a, b], _ => exact ⟨a, b, rfl⟩
  simp only [Array.getD_eq_getD_getElem?, List.size_toArray, List.length_cons, List.length_nil, List.getElem?_toArray, List.getElem?_cons_zero, List.getElem?_cons_succ, Option.getD_some] at hv0 hv1
  subst hv0
  obtain rfl : v1 = .func (.func 37) #[] #[] := by cases hv1; rfl
  have eg : ∀ args w, (Go.callFunc 37 args).run Tryz.prog w = .ok (.enter 37 args) w := enters_of Tryz.func37 (by kernel_rfl) rfl
  refine (Any.strings_FieldsFunc Tryz.lays229 37 #[] eg Rul.blank ⟨s.toArray⟩ w (by simpa [ByteArray.size] using hs) (fun W x _ => words37 W x) (by kernel_rfl) (by kernel_rfl)).mono ?_
  rintro e w' ⟨A, rfl, hA, ho, hb⟩
  have hdata := fields_words ⟨s.toArray⟩
  have hlen : (goFieldsP Rul.blank ⟨s.toArray⟩).length = (wordsOf s).length := by rw [← hdata, List.length_map]
  obtain ⟨h1, h2⟩ := ho
  rcases h2 with ⟨h2, _⟩ | ⟨g, cap, cur, h2, h3, h4, h5, h6, h7, h8⟩
  · cases h2
  simp only [Go.Value.slice.injEq, Option.some.injEq, Go.Addr.mk.injEq, true_and, and_true] at h2
  obtain ⟨rfl, rfl⟩ := h2
  refine ⟨A, (goFieldsP Rul.blank ⟨s.toArray⟩).length, by rw [hlen], by rw [hlen]; exact Nat.le_refl _, hA, (Array.getElem?_eq_some_iff.1 h4).1, fun j x hj => ?_, hb⟩
  rw [← hdata, List.getElem?_map, Option.map_eq_some_iff] at hj
  obtain ⟨b, hbj, rfl⟩ := hj
  simp only [Go.World.cell?, h4, Option.bind_some]
  have hjl : j < (goFieldsP Rul.blank ⟨s.toArray⟩).length := (List.getElem?_eq_some_iff.1 hbj).1
  have h9 : (cur.toList.take ((goFieldsP Rul.blank ⟨s.toArray⟩).length * 1))[j]? = some (.string b) := by rw [h8, List.getElem?_map, hbj]; rfl
  rw [List.getElem?_take, if_pos (by omega)] at h9
  simpa using h9
theorem trimR38 (s : List UInt8) (hs : s.length ≤ 9223372036854775807) : PCall Tryz.prog 38 [.d (.str s), .d (.str [32])] (.d (.str (trimR s))) :=
  .of_calls' rfl rfl fun w => Any.strings_TrimRight_one Tryz.lays162 ⟨s.toArray⟩ 32 (by decide) w (by simpa [ByteArray.size] using hs)
theorem cutSuf39 (s : List UInt8) (hs : s.length ≤ 9223372036854775807) : PCall Tryz.prog 39 [.d (.str s), .d (.str [34])] (.tuple [.d (.str (Lib.trimSuffix s [34])), .d (.bool (Lib.hasSuffix s [34]))]) := by
  refine PCall.of_callsV (by rfl) (tuple_V (vs := #[.string ⟨(Lib.trimSuffix s [34]).toArray⟩, .bool (Lib.hasSuffix s [34])]) rfl fun j a hj ρ σ I w => ?_) fun w I hT => ?_
  · match j, hj with
    | 0, hj => simp at hj; subst hj; exact .d (.str _)
    | 1, hj => simp at hj; subst hj; exact .d (.bool _)
  exact (Any.strings_CutSuffix Tryz.lays104 ⟨s.toArray⟩ ⟨#[34]⟩ w (by simpa [ByteArray.size] using hs)).mono fun e w' ⟨h1, h2⟩ => ⟨h1, h2 ▸ Below.refl _ _⟩
theorem trim57 (s : List UInt8) (hs : s.length ≤ 9223372036854775807) : PCall Tryz.prog 57 [.d (.str s), .d (.str numerals)] (.d (.str (Lib.trimS s numerals))) :=
  .of_callsT rfl rfl fun w I hT => Any.strings_Trim_laid Tryz.lays160 (by kernel_rfl) ⟨s.toArray⟩ ⟨numerals.toArray⟩ w (by simpa [ByteArray.size] using hs) (by decide) (by
    intro j b hj
    have hm : b ∈ numerals := List.mem_of_getElem? hj
    have hall : ∀ x, x ∈ numerals → x.toNat < 128 := by decide
    exact hall b hm)
theorem below_bytes (w : Go.World) (e : Nat) (t : ByteArray) : Below w.heap.size w (Lib.bytesWorld w e t) := by
  refine ⟨rfl, rfl, rfl, ?_, fun k hk => Lib.bytesWorld_at_old w e t k hk⟩
  rw [Lib.bytesWorld_size]; omega
theorem atoi58 (s : List UInt8) (h : numB s = true) : PCall Tryz.prog 58 [.d (.str s)] (.tuple [.d (.int .i64 (Rul.valOf s)), .d .niliface]) := by
  refine PCall.of_callsV (by rfl) (tuple_V (vs := #[.int .i64 (Rul.valOf s), .nilIface]) rfl fun j a hj ρ σ I w => ?_) fun w I hT => ?_
  · match j, hj with
    | 0, hj => simp at hj; subst hj; exact .d (.int _ _)
    | 1, hj => simp at hj; subst hj; exact .d .niliface
  have hl : s.length ≤ 9 := by simp only [numB, Bool.and_eq_true, decide_eq_true_eq] at h; exact h.1.1.2
  refine (Any.strconv_Atoi Tryz.lays172 ⟨s.toArray⟩ (Rul.valOf s) (by simp [ByteArray.size]; omega) (atoi_num h) w).mono ?_
  rintro e w' ⟨rfl, t, rfl⟩
  exact ⟨rfl, below_bytes _ _ _⟩
theorem count11 (s : List UInt8) : PCall Tryz.prog 11 [.d (.str s), .d (.str [10])] (.d (.int .i64 (s.count 10))) :=
  .of_calls' rfl rfl fun w => Any.strings_Count_one Tryz.lays138 ⟨s.toArray⟩ 10 w
end Go.Proofs.YtjgbdlaecpkmhaaGreatDoor
