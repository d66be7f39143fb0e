/- Part of a proof about the functions of this seat. -/
import Derived.Lib.SlicesCompact
import Derived.Lib.Bytealg
import Derived.Lib.ItoaNum
/- Rules, and the bands of rows that they make: plain, no program. -/


set_option linter.unusedVariables false
set_option linter.unusedSimpArgs false
namespace Rul
open Go

structure Rule where
  name : List UInt8
  pat : List UInt8
  lo : Int
  hi : Int
  cls : Int
  wait : Int
  deriving DecidableEq, Inhabited

/-- The letters, and what may stand in a name. -/
def letters : List UInt8 := [97, 98, 99, 100, 101, 102, 103, 104, 105, 106, 107, 108, 109, 110, 111, 112, 113, 114, 115, 116, 117, 118, 119, 120, 121, 122]
def signs : List UInt8 := letters ++ [48, 49, 50, 51, 52, 53, 54, 55, 56, 57] ++ [45]
def isIn (l : List UInt8) (c : UInt8) : Bool := decide (0 ≤ Lib.indexByte l c)
def nameB (s : List UInt8) : Bool := match s with
  | [] => false
  | c :: _ => decide (s.length ≤ 16) && isIn letters c && s.all (isIn signs)
def rangeBad (r : Rule) : Bool := decide (r.lo < 0) || decide (r.hi ≤ r.lo) || decide (60 < r.hi)
def waitBad (r : Rule) : Bool := decide (r.wait < 0) || decide (60000 < r.wait) || (decide (0 < r.wait) && !decide (r.cls = 3))
/-- The error of a rule but for its name; pe is that of its pattern. -/
def ruleE (pe : List UInt8 → Int) (r : Rule) : Int :=
  if r.cls < 1 ∨ 3 < r.cls then 9
  else if rangeBad r = true ∨ waitBad r = true then 2
  else if isIn r.pat 10 = true then 3
  else pe r.pat
def chkFrom (pe : List UInt8 → Int) (used : List (List UInt8)) : List Rule → Int
  | [] => 0
  | r :: l => if nameB r.name = false then 6 else if r.name ∈ used then 7 else if ruleE pe r = 0 then chkFrom pe (used ++ [r.name]) l else ruleE pe r
def chkR (pe : List UInt8 → Int) (l : List Rule) : Int := if 16 < l.length then 5 else chkFrom pe [] l

theorem range_of {pe : List UInt8 → Int} : ∀ (l : List Rule) (used : List (List UInt8)), chkFrom pe used l = 0 → ∀ r, r ∈ l → 0 ≤ r.lo ∧ r.lo < r.hi ∧ r.hi ≤ 60
  | [], _, _, r, h => by cases h
  | x :: l, used, h, r, hr => by
    unfold chkFrom at h
    split at h
    · omega
    · split at h
      · omega
      · split at h
        · rename_i h3
          rcases List.mem_cons.1 hr with rfl | hr
          · unfold ruleE at h3
            split at h3
            · omega
            · split at h3
              · omega
              · rename_i hb
                simp only [rangeBad, Bool.or_eq_true, decide_eq_true_eq] at hb
                omega
          · exact range_of l _ h r hr
        · rename_i h3; exact absurd h h3
theorem range_ok {pe : List UInt8 → Int} {l : List Rule} (h : chkR pe l = 0) : ∀ r, r ∈ l → 0 ≤ r.lo ∧ r.lo < r.hi ∧ r.hi ≤ 60 := by
  unfold chkR at h
  split at h
  · omega
  · exact range_of l _ h

/-- The cuts in ascending order, each once. -/
def cutsOf (l : List Rule) : List Int := [0, 60] ++ l.flatMap fun r => [r.lo, r.hi]
def sortI (l : List Int) : List Int := l.mergeSort fun x y => decide (x ≤ y)
def cuts (l : List Rule) : List Int := Lib.compact (sortI (cutsOf l))
def spans : List Int → List (Int × Int)
  | a :: b :: l => (a, b) :: spans (b :: l)
  | _ => []
def bandsR (pe : List UInt8 → Int) (l : List Rule) : List (Int × Int) := if chkR pe l = 0 then spans (cuts l) else []

theorem sortI_sorted (l : List Int) : List.Pairwise (fun x y : Int => x ≤ y) (sortI l) := by
  have := List.pairwise_mergeSort (le := fun x y : Int => decide (x ≤ y)) (fun a b c h1 h2 => by simp at *; omega) (fun a b => by simp; omega) l
  exact this.imp (fun h => by simpa using h)
theorem mem_sortI {l : List Int} {x : Int} : x ∈ sortI l ↔ x ∈ l := List.mem_mergeSort

theorem sortI_len (l : List Int) : (sortI l).length = l.length := by simp [sortI]
theorem get_arr (l : List Int) (j : Nat) (h : j < l.length) : l.toArray[j]! = l.getD j 0 := by
  rw [getElem!_pos l.toArray j (by simpa using h), List.getD_eq_getElem?_getD, List.getElem?_eq_getElem h]; simp
theorem sorted_get {l : List Int} (h : List.Pairwise (fun x y : Int => x ≤ y) l) {i j : Nat} (hij : i ≤ j) (hj : j < l.length) : l.getD i 0 ≤ l.getD j 0 := by
  rcases Nat.lt_or_eq_of_le hij with hlt | rfl
  · have := List.pairwise_iff_getElem.1 h i j (by omega) hj hlt
    simp only [List.getD_eq_getElem?_getD, List.getElem?_eq_getElem hj, List.getElem?_eq_getElem (show i < l.length by omega), Option.getD_some]
    exact this
  · exact Int.le_refl _
theorem compact_mem {l : List Int} {x : Int} : x ∈ Lib.compact l ↔ x ∈ l := by
  unfold Lib.compact Lib.compactUpTo
  constructor
  · intro h
    obtain ⟨j, hj, rfl⟩ := List.mem_map.1 h
    have hj' : j < l.length := by simpa using (List.mem_filter.1 hj).1
    rw [get_arr l j hj', List.getD_eq_getElem?_getD, List.getElem?_eq_getElem hj']
    exact List.getElem_mem hj'
  · intro h
    obtain ⟨j, hj, rfl⟩ := List.getElem_of_mem h
    have key : ∀ n (hn : n < l.length), l.getD n 0 ∈ ((List.range l.length).filter (Lib.keeps l.toArray)).map (l.toArray[·]!) := by
      intro n
      induction n with
      | zero =>
        intro hn
        exact List.mem_map.2 ⟨0, List.mem_filter.2 ⟨by simpa using hn, by simp [Lib.keeps]⟩, get_arr l 0 hn⟩
      | succ n ih =>
        intro hn
        by_cases hk : Lib.keeps l.toArray (n + 1) = true
        · exact List.mem_map.2 ⟨n + 1, List.mem_filter.2 ⟨by simpa using hn, hk⟩, get_arr l _ hn⟩
        · have he : l.toArray[n + 1]! = l.toArray[n]! := by
            simp only [Lib.keeps, decide_eq_true_eq, Nat.add_sub_cancel, not_or, ne_eq] at hk
            exact Classical.not_not.1 hk.2
          rw [get_arr l _ hn, get_arr l n (by omega)] at he
          rw [he]; exact ih (by omega)
    have := key j hj
    rwa [List.getD_eq_getElem?_getD, List.getElem?_eq_getElem hj] at this
theorem compact_asc {l : List Int} (h : List.Pairwise (fun x y : Int => x ≤ y) l) : List.Pairwise (fun x y : Int => x < y) (Lib.compact l) := by
  unfold Lib.compact Lib.compactUpTo
  rw [List.pairwise_map]
  refine List.Pairwise.imp_of_mem ?_ ((List.pairwise_lt_range (n := l.length)).filter _)
  intro i j hi hj hij
  have hi' : i < l.length := by simpa using (List.mem_filter.1 hi).1
  have hj' : j < l.length := by simpa using (List.mem_filter.1 hj).1
  have hk := (List.mem_filter.1 hj).2
  simp only [Lib.keeps, decide_eq_true_eq] at hk
  have hne : l.toArray[j]! ≠ l.toArray[j - 1]! := hk.resolve_left (by omega)
  rw [get_arr l j hj', get_arr l (j - 1) (by omega)] at hne
  rw [get_arr l j hj', get_arr l i hi']
  have h1 := sorted_get h (show i ≤ j - 1 by omega) (by omega)
  have h2 := sorted_get h (show j - 1 ≤ j by omega) hj'
  omega
theorem asc_get {l : List Int} (h : List.Pairwise (fun x y : Int => x < y) l) {i j : Nat} (hij : i < j) (hj : j < l.length) : l.getD i 0 < l.getD j 0 := by
  have := List.pairwise_iff_getElem.1 h i j (by omega) hj hij
  simp only [List.getD_eq_getElem?_getD, List.getElem?_eq_getElem hj, List.getElem?_eq_getElem (show i < l.length by omega), Option.getD_some]
  exact this
theorem mem_get {l : List Int} {x : Int} (h : x ∈ l) : ∃ j, j < l.length ∧ l.getD j 0 = x := by
  obtain ⟨j, hj, rfl⟩ := List.getElem_of_mem h
  exact ⟨j, hj, by simp [List.getD_eq_getElem?_getD, hj]⟩
theorem get_mem {l : List Int} {j : Nat} (h : j < l.length) : l.getD j 0 ∈ l := by
  rw [List.getD_eq_getElem?_getD, List.getElem?_eq_getElem h]; exact List.getElem_mem h
/-- No cut lies between two that follow each other. -/
theorem gap {l : List Int} (h : List.Pairwise (fun x y : Int => x < y) l) {i : Nat} (hi : i + 1 < l.length) {x : Int} (hx : x ∈ l) : x ≤ l.getD i 0 ∨ l.getD (i + 1) 0 ≤ x := by
  obtain ⟨j, hj, rfl⟩ := mem_get hx
  rcases Nat.lt_or_ge i j with hlt | hge
  · rcases Nat.lt_or_eq_of_le hlt with h2 | h2
    · exact .inr (Int.le_of_lt (asc_get h h2 hj))
    · exact .inr (by rw [← h2]; exact Int.le_refl _)
  · rcases Nat.lt_or_eq_of_le hge with h2 | h2
    · exact .inl (Int.le_of_lt (asc_get h h2 (by omega)))
    · exact .inl (by rw [h2]; exact Int.le_refl _)
theorem spans_len : ∀ l : List Int, (spans l).length = l.length - 1
  | [] => rfl
  | [_] => rfl
  | a :: b :: l => by rw [spans, List.length_cons, spans_len (b :: l)]; simp
theorem spans_get : ∀ (l : List Int) (i : Nat), i + 1 < l.length → (spans l).getD i default = (l.getD i 0, l.getD (i + 1) 0)
  | [], i, h => by simp at h
  | [_], i, h => by simp at h
  | a :: b :: l, 0, h => rfl
  | a :: b :: l, i + 1, h => by
    rw [spans, List.getD_cons_succ, spans_get (b :: l) i (by simp at h ⊢; omega)]; rfl

section
variable {pe : List UInt8 → Int} {l : List Rule} (h : chkR pe l = 0)
theorem cuts_asc (l : List Rule) : List.Pairwise (fun x y : Int => x < y) (cuts l) := compact_asc (sortI_sorted _)
theorem mem_cuts {x : Int} : x ∈ cuts l ↔ x = 0 ∨ x = 60 ∨ ∃ r, r ∈ l ∧ (x = r.lo ∨ x = r.hi) := by
  rw [cuts, compact_mem, mem_sortI, cutsOf]
  simp [List.mem_flatMap]
include h in
theorem cuts_range {x : Int} (hx : x ∈ cuts l) : 0 ≤ x ∧ x ≤ 60 := by
  rcases mem_cuts.1 hx with rfl | rfl | ⟨r, hr, rfl | rfl⟩
  · omega
  · omega
  · have := range_ok h r hr; omega
  · have := range_ok h r hr; omega
theorem cuts_two (l : List Rule) : 2 ≤ (cuts l).length := by
  obtain ⟨i, hi, h0⟩ := mem_get (mem_cuts (l := l).2 (.inl rfl) : (0 : Int) ∈ cuts l)
  obtain ⟨j, hj, h1⟩ := mem_get (mem_cuts (l := l).2 (.inr (.inl rfl)) : (60 : Int) ∈ cuts l)
  have : i ≠ j := fun e => by subst e; omega
  omega
include h in
theorem cuts_first : (cuts l).getD 0 0 = 0 := by
  have h2 := cuts_two l
  obtain ⟨i, hi, h0⟩ := mem_get (mem_cuts (l := l).2 (.inl rfl) : (0 : Int) ∈ cuts l)
  have h3 := cuts_range h (get_mem (show 0 < (cuts l).length by omega))
  rcases Nat.eq_zero_or_pos i with rfl | hp
  · exact h0
  · have := asc_get (cuts_asc l) hp hi; omega
include h in
theorem cuts_last : (cuts l).getD ((cuts l).length - 1) 0 = 60 := by
  have h2 := cuts_two l
  obtain ⟨i, hi, h0⟩ := mem_get (mem_cuts (l := l).2 (.inr (.inl rfl)) : (60 : Int) ∈ cuts l)
  have h3 := cuts_range h (get_mem (show (cuts l).length - 1 < (cuts l).length by omega))
  rcases Nat.lt_or_eq_of_le (show i ≤ (cuts l).length - 1 by omega) with hp | rfl
  · have := asc_get (cuts_asc l) hp (by omega); omega
  · exact h0
/-- A rule covers a band whole or not at all. -/
theorem whole {r : Rule} (hr : r ∈ l) {i : Nat} (hi : i + 1 < (cuts l).length) (h1 : r.lo < (cuts l).getD (i + 1) 0) (h2 : (cuts l).getD i 0 < r.hi) : r.lo ≤ (cuts l).getD i 0 ∧ (cuts l).getD (i + 1) 0 ≤ r.hi := by
  have a := gap (cuts_asc l) hi (mem_cuts.2 (.inr (.inr ⟨r, hr, .inl rfl⟩)))
  have b := gap (cuts_asc l) hi (mem_cuts.2 (.inr (.inr ⟨r, hr, .inr rfl⟩)))
  omega
include h in
theorem needed {i : Nat} (hi : i + 1 < (cuts l).length) : (cuts l).getD (i + 1) 0 = 60 ∨ ∃ r, r ∈ l ∧ (r.lo = (cuts l).getD (i + 1) 0 ∨ r.hi = (cuts l).getD (i + 1) 0) := by
  have h1 := asc_get (cuts_asc l) (show i < i + 1 by omega) hi
  have h2 := cuts_range h (get_mem (show i < (cuts l).length by omega))
  rcases mem_cuts.1 (get_mem hi) with h3 | h3 | ⟨r, hr, h3⟩
  · omega
  · exact .inl h3
  · exact .inr ⟨r, hr, by omega⟩
end
end Rul
/- The form of rules: plain, no program. -/

set_option linter.unusedVariables false
set_option linter.unusedSimpArgs false
namespace Rul
open Go

abbrev Str := List UInt8
def linesOf : Str → List Str
  | [] => [[]]
  | c :: s => if c = 10 then [] :: linesOf s else (c :: (linesOf s).headD []) :: (linesOf s).tail
theorem lines_ne : ∀ s : Str, linesOf s ≠ []
  | [] => by simp [linesOf]
  | c :: s => by unfold linesOf; split <;> simp
theorem lines_join : ∀ s t : Str, linesOf (s ++ 10 :: t) = linesOf s ++ linesOf t
  | [], t => by simp [linesOf]
  | c :: s, t => by
    rw [List.cons_append, linesOf, linesOf, lines_join s t]
    split
    · rfl
    · cases h : linesOf s with
      | nil => exact absurd h (lines_ne s)
      | cons x xs => rfl
theorem lines_one : ∀ s : Str, (10 : UInt8) ∉ s → linesOf s = [s]
  | [], _ => rfl
  | c :: s, h => by
    have h1 : c ≠ 10 := fun e => h (by simp [e])
    rw [linesOf, if_neg h1, lines_one s (fun e => h (by simp [e]))]; rfl
theorem lines_count : ∀ s : Str, (linesOf s).length = s.count 10 + 1
  | [] => rfl
  | c :: s => by
    rw [linesOf]
    split
    · rename_i h; subst h; rw [List.length_cons, lines_count s]; simp
    · rename_i h
      have := lines_ne s
      have h2 := lines_count s
      cases hl : linesOf s with
      | nil => exact absurd hl this
      | cons x xs => rw [hl] at h2; simp only [List.tail_cons, List.length_cons] at h2 ⊢; rw [List.count_cons_of_ne h]; exact h2

/-- What stands ahead of the first q and behind it. -/
def cutAt (q : UInt8) : Str → Str × Str × Bool
  | [] => ([], [], false)
  | c :: s => if c = q then ([], s, true) else (c :: (cutAt q s).1, (cutAt q s).2.1, (cutAt q s).2.2)
theorem cut_none (q : UInt8) : ∀ s : Str, q ∉ s → cutAt q s = (s, [], false)
  | [], _ => rfl
  | c :: s, h => by
    have h1 : c ≠ q := fun e => h (by simp [e])
    rw [cutAt, if_neg h1, cut_none q s (fun e => h (by simp [e]))]
theorem cut_some (q : UInt8) : ∀ s t : Str, q ∉ s → cutAt q (s ++ q :: t) = (s, t, true)
  | [], t, _ => by simp [cutAt]
  | c :: s, t, h => by
    have h1 : c ≠ q := fun e => h (by simp [e])
    rw [List.cons_append, cutAt, if_neg h1, cut_some q s t (fun e => h (by simp [e]))]
theorem cut_front (q : UInt8) : ∀ s : Str, q ∉ (cutAt q s).1
  | [] => by simp [cutAt]
  | c :: s => by
    rw [cutAt]
    split
    · simp
    · rename_i h
      intro hm
      rcases List.mem_cons.1 hm with e | e
      · exact h e.symm
      · exact cut_front q s e
theorem cut_as (q : UInt8) : ∀ s : Str, s = if (cutAt q s).2.2 then (cutAt q s).1 ++ q :: (cutAt q s).2.1 else (cutAt q s).1
  | [] => rfl
  | c :: s => by
    rw [cutAt]
    split
    · rename_i h; simp [h]
    · have := cut_as q s
      simp only
      split at this
      · rename_i h; rw [if_pos h, List.cons_append, ← this]
      · rename_i h; rw [if_neg h, ← this]
theorem cut_rest_false (q : UInt8) : ∀ s : Str, (cutAt q s).2.2 = false → (cutAt q s).2.1 = []
  | [], _ => rfl
  | c :: s, h => by
    rw [cutAt] at h ⊢
    split at h
    · cases h
    · rename_i h1; rw [if_neg h1]; exact cut_rest_false q s h

def wordsF (cur : Str) : Str → List Str
  | [] => if cur = [] then [] else [cur]
  | c :: s => if c = 32 then (if cur = [] then wordsF [] s else cur :: wordsF [] s) else wordsF (cur ++ [c]) s
def wordsOf (s : Str) : List Str := wordsF [] s
theorem words_ne : ∀ (s cur : Str) (x : Str), x ∈ wordsF cur s → x ≠ []
  | [], cur, x, h => by
    unfold wordsF at h; split at h
    · cases h
    · rename_i hc; simp at h; subst h; exact hc
  | c :: s, cur, x, h => by
    unfold wordsF at h
    split at h
    · split at h
      · exact words_ne s [] x h
      · rename_i hc
        rcases List.mem_cons.1 h with rfl | h
        · exact hc
        · exact words_ne s [] x h
    · exact words_ne s _ x h

def digitsB (s : Str) : Bool := s.all fun c => decide (48 ≤ c.toNat) && decide (c.toNat ≤ 57)
def numB (s : Str) : Bool := !decide (s = []) && decide (s.length ≤ 9) && (decide (s.length ≤ 1) || !decide (s.headD 0 = 48)) && digitsB s
def valOf (s : Str) : Int := s.foldl (fun n c => n * 10 + ((c.toNat : Int) - 48)) 0
def numOf (s : Str) : Int := if numB s then valOf s else 0

def kUrgent : Str := [117, 114, 103, 101, 110, 116]
def kNormal : Str := [110, 111, 114, 109, 97, 108]
def kLater : Str := [108, 97, 116, 101, 114]
def kWait : Str := [119, 97, 105, 116]
def kRows : Str := [114, 111, 119, 115]
def classOf (s : Str) : Int := if s = kUrgent then 1 else if s = kNormal then 2 else if s = kLater then 3 else 0
def trimR (s : Str) : Str := (s.reverse.dropWhile (· == 32)).reverse
def unquote (s : Str) : Option Str := match s.reverse with
  | 34 :: r => some r.reverse
  | _ => none

/-- An option's words, where they stand, and the rest. -/
def optOf (k : Str) (l : List Str) : Option Str × List Str := match l with
  | a :: b :: l => if a = k then (some b, l) else (none, a :: b :: l)
  | l => (none, l)
def rowsOk (s : Str) : Bool := numB (cutAt 45 s).1 && numB (cutAt 45 s).2.1
def optVal : Option Str → Int
  | some x => numOf x
  | none => 0
def zeroR : Rule := ⟨[], [], 0, 0, 0, 0⟩
def lineR (l : List Str) (rest : Str) : Rule × Bool :=
  match unquote (trimR rest), l with
  | some text, a :: b :: l =>
    let r : Rule := ⟨a, text, 0, 60, classOf b, 0⟩
    match optOf kWait l with
    | (w, l) =>
      if w.all numB = false then (zeroR, false)
      else
        let r : Rule := { r with wait := optVal w }
        match optOf kRows l with
        | (some x, l) => ({ r with lo := numOf (cutAt 45 x).1 - 1, hi := numOf (cutAt 45 x).2.1 }, rowsOk x && decide (l = []))
        | (none, l) => (r, decide (l = []))
  | _, _ => (zeroR, false)

inductive LK where
  | skip
  | bad
  | rule (r : Rule)
def lineK (s : Str) : LK :=
  if (wordsOf (cutAt 34 s).1 = [] ∧ (cutAt 34 s).2.2 = false) ∨ ((wordsOf (cutAt 34 s).1).headD []).head? = some 35 then .skip
  else if (cutAt 34 s).2.2 = true ∧ (lineR (wordsOf (cutAt 34 s).1) (cutAt 34 s).2.1).2 = true then .rule (lineR (wordsOf (cutAt 34 s).1) (cutAt 34 s).2.1).1 else .bad

section
variable (pe : Str → Int)
def parseF (out : List Rule) (i : Nat) : List Str → List Rule × Int × Int
  | [] => (out, 0, 0)
  | s :: ls => match lineK s with
    | .skip => parseF out (i + 1) ls
    | .bad => ([], i + 1, 3)
    | .rule r => if chkR pe (out ++ [r]) = 0 then parseF (out ++ [r]) (i + 1) ls else ([], i + 1, chkR pe (out ++ [r]))
def parseT (s : Str) : List Rule × Int × Int := parseF pe [] 0 (linesOf s)
end

def rulesOf : List Str → Option (List Rule)
  | [] => some []
  | s :: ls => match lineK s with
    | .skip => rulesOf ls
    | .bad => none
    | .rule r => (rulesOf ls).map (r :: ·)
theorem rulesOf_app : ∀ (a b : List Str), rulesOf (a ++ b) = (rulesOf a).bind fun x => (rulesOf b).map (x ++ ·)
  | [], b => by simp [rulesOf]
  | s :: a, b => by
    rw [List.cons_append, rulesOf, rulesOf, rulesOf_app a b]
    cases lineK s with
    | skip => rfl
    | bad => rfl
    | rule r => cases rulesOf a <;> cases rulesOf b <;> simp

variable {pe : Str → Int}
theorem chk_nil : chkR pe [] = 0 := by simp [chkR, chkFrom]
theorem chkFrom_app : ∀ (a b : List Rule) (used : List Str), chkFrom pe used (a ++ b) = 0 → chkFrom pe used a = 0
  | [], b, used, _ => rfl
  | r :: a, b, used, h => by
    rw [List.cons_append] at h
    unfold chkFrom at h ⊢
    split
    · rename_i h1; rw [if_pos h1] at h; exact h
    · rename_i h1
      rw [if_neg h1] at h
      split
      · rename_i h2; rw [if_pos h2] at h; exact h
      · rename_i h2
        rw [if_neg h2] at h
        split
        · rename_i h3; rw [if_pos h3] at h; exact chkFrom_app a b _ h
        · rename_i h3; rw [if_neg h3] at h; exact h
theorem chk_app {a b : List Rule} (h : chkR pe (a ++ b) = 0) : chkR pe a = 0 := by
  unfold chkR at h ⊢
  split at h
  · omega
  · rename_i h1
    rw [List.length_append] at h1
    rw [if_neg (by omega)]
    exact chkFrom_app a b [] h

theorem parse_good : ∀ (ls : List Str) (out rs : List Rule) (i : Nat), rulesOf ls = some rs → chkR pe (out ++ rs) = 0 → parseF pe out i ls = (out ++ rs, 0, 0)
  | [], out, rs, i, h, _ => by simp only [rulesOf, Option.some.injEq] at h; subst h; simp [parseF]
  | s :: ls, out, rs, i, h, hc => by
    rw [rulesOf] at h
    rw [parseF]
    cases hk : lineK s with
    | skip => rw [hk] at h; exact parse_good ls out rs (i + 1) h hc
    | bad => rw [hk] at h; cases h
    | rule r =>
      rw [hk] at h
      simp only [Option.map_eq_some_iff] at h
      obtain ⟨t, ht, rfl⟩ := h
      have e : out ++ r :: t = out ++ [r] ++ t := by simp
      rw [e] at hc ⊢
      simp only [if_pos (chk_app hc)]
      exact parse_good ls (out ++ [r]) t (i + 1) ht hc
theorem parse_bad : ∀ (ls : List Str) (out : List Rule) (i : Nat), chkR pe out = 0 → (∀ rs, rulesOf ls = some rs → chkR pe (out ++ rs) ≠ 0) →
    (parseF pe out i ls).1 = [] ∧ (parseF pe out i ls).2.2 ≠ 0 ∧ (i : Int) + 1 ≤ (parseF pe out i ls).2.1 ∧ (parseF pe out i ls).2.1 ≤ i + ls.length
  | [], out, i, hc, h => absurd hc (by simpa using h [] rfl)
  | s :: ls, out, i, hc, h => by
    rw [parseF]
    cases hk : lineK s with
    | skip =>
      have := parse_bad ls out (i + 1) hc (fun rs hr => h rs (by rw [rulesOf, hk]; exact hr))
      simp only [List.length_cons]
      refine ⟨this.1, this.2.1, ?_, ?_⟩ <;> omega
    | bad => simp only [List.length_cons]; refine ⟨trivial, by decide, ?_, ?_⟩ <;> omega
    | rule r =>
      by_cases h1 : chkR pe (out ++ [r]) = 0
      · simp only [if_pos h1]
        have := parse_bad ls (out ++ [r]) (i + 1) h1 (fun rs hr => by
          have := h (r :: rs) (by rw [rulesOf, hk, hr]; rfl)
          simpa using this)
        simp only [List.length_cons]
        refine ⟨this.1, this.2.1, ?_, ?_⟩ <;> omega
      · simp only [if_neg h1, List.length_cons]
        refine ⟨trivial, h1, ?_, ?_⟩ <;> omega

theorem parse_ok {ls : List Str} {out : List Rule} {i : Nat} (hc : chkR pe out = 0) (h : (parseF pe out i ls).2.2 = 0) : ∃ rs, rulesOf ls = some rs ∧ chkR pe (out ++ rs) = 0 ∧ parseF pe out i ls = (out ++ rs, 0, 0) := by
  by_cases hx : ∃ rs, rulesOf ls = some rs ∧ chkR pe (out ++ rs) = 0
  · obtain ⟨rs, h1, h2⟩ := hx
    exact ⟨rs, h1, h2, parse_good ls out rs i h1 h2⟩
  · exact absurd h (parse_bad ls out i hc (fun rs hr hz => hx ⟨rs, hr, hz⟩)).2.1

/-- Rules that are read are proper; an error belongs to a line that there is. -/
theorem proper_ok (s : Str) : ((parseT pe s).2.2 = 0 → (parseT pe s).2.1 = 0 ∧ chkR pe (parseT pe s).1 = 0) ∧
    ((parseT pe s).2.2 ≠ 0 → (parseT pe s).1 = [] ∧ 1 ≤ (parseT pe s).2.1 ∧ (parseT pe s).2.1 ≤ s.count 10 + 1) := by
  refine ⟨fun h => ?_, fun h => ?_⟩
  · obtain ⟨rs, h1, h2, h3⟩ := parse_ok chk_nil h
    rw [parseT, h3]; exact ⟨rfl, h2⟩
  · have := parse_bad (pe := pe) (linesOf s) [] 0 chk_nil (fun rs hr hz => h (by rw [parseT, parse_good (linesOf s) [] rs 0 hr hz]))
    rw [lines_count] at this
    refine ⟨this.1, ?_, ?_⟩
    · have := this.2.2.1; simpa [parseT] using this
    · have := this.2.2.2; simpa [parseT] using this
/-- Two texts joined by a line feed. -/
theorem joins_ok {s t : Str} (h1 : (parseT pe s).2.2 = 0) (h2 : (parseT pe t).2.2 = 0) :
    (chkR pe ((parseT pe s).1 ++ (parseT pe t).1) = 0 → parseT pe (s ++ 10 :: t) = ((parseT pe s).1 ++ (parseT pe t).1, 0, 0)) ∧
    (chkR pe ((parseT pe s).1 ++ (parseT pe t).1) ≠ 0 → (parseT pe (s ++ 10 :: t)).2.2 ≠ 0) := by
  obtain ⟨a, a1, a2, a3⟩ := parse_ok chk_nil h1
  obtain ⟨b, b1, b2, b3⟩ := parse_ok chk_nil h2
  have ea : (parseT pe s).1 = a := by rw [parseT, a3]; rfl
  have eb : (parseT pe t).1 = b := by rw [parseT, b3]; rfl
  rw [ea, eb]
  have hr : rulesOf (linesOf (s ++ 10 :: t)) = some (a ++ b) := by rw [lines_join, rulesOf_app, a1, b1]; rfl
  refine ⟨fun h => ?_, fun h => ?_⟩
  · rw [parseT, parse_good _ [] _ 0 hr h]; rfl
  · exact (parse_bad _ [] 0 chk_nil (fun rs hrs hz => by rw [hr] at hrs; cases hrs; exact h hz)).2.1
end Rul
/- The form of rules: a pattern between quotation marks, layout, names. Plain, no program. -/

set_option linter.unusedVariables false
set_option linter.unusedSimpArgs false
namespace Rul
open Go
variable {pe : Str → Int}

theorem trimR_blanks (s : Str) : trimR (s ++ [32, 32]) = trimR s := by simp [trimR]
theorem trimR_quote (s : Str) : trimR (s ++ [34, 32]) = s ++ [34] := by simp [trimR]
theorem unquote_quote (s : Str) : unquote (s ++ [34]) = some s := by simp [unquote]

/- The pattern between quotation marks. -/
def front0 : Str := [120, 32, 117, 114, 103, 101, 110, 116, 32]
def quoted (s : Str) : Str := front0 ++ 34 :: (s ++ [34, 32])
def ruleX (s : Str) : Rule := ⟨[120], s, 0, 60, 1, 0⟩
theorem lineK_quoted (s : Str) : lineK (quoted s) = .rule (ruleX s) := by
  have hc : cutAt 34 (quoted s) = (front0, s ++ [34, 32], true) := cut_some 34 front0 _ (by decide)
  have hw : wordsOf front0 = [[120], kUrgent] := by decide
  have hl : lineR [[120], kUrgent] (s ++ [34, 32]) = (ruleX s, true) := by
    unfold lineR
    rw [trimR_quote, unquote_quote]
    rfl
  unfold lineK
  rw [hc]
  simp only [hw, hl]
  rw [if_neg (by decide)]
  simp
theorem pattern_ok {s : Str} (h : (10 : UInt8) ∉ s) : parseT pe (quoted s) = if chkR pe [ruleX s] = 0 then ([ruleX s], 0, 0) else ([], 1, chkR pe [ruleX s]) := by
  have h1 : (10 : UInt8) ∉ quoted s := by
    simp only [quoted, front0, List.mem_append, List.mem_cons, List.not_mem_nil, or_false]
    rintro (h2 | h2 | h2 | h2 | h2)
    · revert h2; decide
    · revert h2; decide
    · exact h h2
    · revert h2; decide
    · revert h2; decide
  rw [parseT, lines_one _ h1, parseF, lineK_quoted]
  simp only [List.nil_append, parseF]
  rfl

/- Layout. -/
def repl (s : Str) : Str := s.flatMap fun c => if c = 32 then [32, 32, 32] else [c]
def wideLine (s : Str) : Str := [32, 32] ++ repl (cutAt 34 s).1 ++ (if (cutAt 34 s).2.2 then 34 :: ((cutAt 34 s).2.1 ++ [32, 32]) else [])
def remark (comment : Str) : Str := [32, 35, 32] ++ comment
def wideOf (comment : Str) (ls : List Str) : Str := ls.flatMap fun s => remark comment ++ [10, 10] ++ wideLine s ++ [10]
theorem repl_not {q : UInt8} (hq : q ≠ 32) {s : Str} (h : q ∉ s) : q ∉ repl s := by
  intro hm
  obtain ⟨c, hc, h1⟩ := List.mem_flatMap.1 hm
  split at h1
  · simp at h1; exact hq h1
  · simp at h1; subst h1; exact h hc
theorem words_repl : ∀ (s cur : Str), wordsF cur (repl s) = wordsF cur s
  | [], _ => rfl
  | c :: s, cur => by
    show wordsF cur ((if c = 32 then [32, 32, 32] else [c]) ++ repl s) = _
    by_cases h : c = 32
    · subst h
      rw [if_pos rfl]
      simp only [List.cons_append, List.nil_append, wordsF, if_pos]
      rw [words_repl s []]
    · rw [if_neg h, List.singleton_append, wordsF, wordsF, if_neg h, if_neg h, words_repl s _]
theorem words_wide (s : Str) : wordsOf ([32, 32] ++ repl s) = wordsOf s := by
  show wordsF [] (32 :: 32 :: repl s) = _
  rw [wordsF, if_pos rfl, if_pos rfl, wordsF, if_pos rfl, if_pos rfl, words_repl]; rfl
theorem cut_wide (s : Str) : cutAt 34 (wideLine s) = ([32, 32] ++ repl (cutAt 34 s).1, if (cutAt 34 s).2.2 then (cutAt 34 s).2.1 ++ [32, 32] else [], (cutAt 34 s).2.2) := by
  have hn : (34 : UInt8) ∉ [32, 32] ++ repl (cutAt 34 s).1 := by
    intro h
    rcases List.mem_append.1 h with h | h
    · revert h; decide
    · exact repl_not (by decide) (cut_front 34 s) h
  unfold wideLine
  cases (cutAt 34 s).2.2
  · simp only [Bool.false_eq_true, if_false, List.append_nil]
    exact cut_none 34 _ hn
  · simp only [if_true]
    exact cut_some 34 _ _ hn
theorem lineK_wide (s : Str) : lineK (wideLine s) = lineK s := by
  unfold lineK
  rw [cut_wide]
  simp only [words_wide]
  cases h : (cutAt 34 s).2.2
  · simp
  · have e : lineR (wordsOf (cutAt 34 s).1) ((cutAt 34 s).2.1 ++ [32, 32]) = lineR (wordsOf (cutAt 34 s).1) (cutAt 34 s).2.1 := by
      unfold lineR; rw [trimR_blanks]
    simp only [if_true, e]
theorem head_words : ∀ (s cur : Str) (c : UInt8), ((wordsF (c :: cur) s).headD []).head? = some c
  | [], cur, c => rfl
  | x :: s, cur, c => by
    rw [wordsF]
    by_cases h : x = 32
    · rw [if_pos h, if_neg (by simp)]; rfl
    · rw [if_neg h]; exact head_words s (cur ++ [x]) c
theorem lineK_remark (s : Str) : lineK (remark s) = .skip := by
  unfold lineK
  have h : ((wordsOf (cutAt 34 (remark s)).1).headD []).head? = some 35 := by
    have e : (cutAt 34 (remark s)).1 = 32 :: 35 :: 32 :: (cutAt 34 s).1 := by
      simp only [remark, List.cons_append, List.nil_append, cutAt]
      rfl
    rw [e]
    show ((wordsF [] (32 :: 35 :: 32 :: (cutAt 34 s).1)).headD []).head? = _
    rw [wordsF, if_pos rfl, if_pos rfl, wordsF, if_neg (by decide)]
    exact head_words _ [] 35
  rw [if_pos (.inr h)]
theorem lineK_nil : lineK [] = .skip := by
  unfold lineK
  rw [if_pos (.inl ⟨rfl, rfl⟩)]
theorem mem_lines : ∀ (s : Str) (x : Str), x ∈ linesOf s → (10 : UInt8) ∉ x ∧ ∀ c, c ∈ x → c ∈ s
  | [], x, h => by simp [linesOf] at h; subst h; simp
  | c :: s, x, h => by
    rw [linesOf] at h
    split at h
    · rcases List.mem_cons.1 h with rfl | h
      · simp
      · have := mem_lines s x h
        exact ⟨this.1, fun d hd => by simp [this.2 d hd]⟩
    · rename_i hc
      have hne := lines_ne s
      cases hl : linesOf s with
      | nil => exact absurd hl hne
      | cons y ys =>
        rw [hl] at h
        simp only [List.headD_cons, List.tail_cons] at h
        rcases List.mem_cons.1 h with rfl | h
        · have := mem_lines s y (by rw [hl]; simp)
          refine ⟨fun hm => ?_, fun d hd => ?_⟩
          · rcases List.mem_cons.1 hm with e | e
            · exact hc e.symm
            · exact this.1 e
          · rcases List.mem_cons.1 hd with e | e
            · simp [e]
            · simp [this.2 d e]
        · have := mem_lines s x (by rw [hl]; simp [h])
          exact ⟨this.1, fun d hd => by simp [this.2 d hd]⟩
theorem wide_not {s : Str} (h : (10 : UInt8) ∉ s) : (10 : UInt8) ∉ wideLine s := by
  have h1 : (10 : UInt8) ∉ (cutAt 34 s).1 ∧ (10 : UInt8) ∉ (cutAt 34 s).2.1 := by
    have e := cut_as 34 s
    cases hb : (cutAt 34 s).2.2
    · rw [hb] at e
      simp only [Bool.false_eq_true, if_false] at e
      refine ⟨fun hm => h (by rw [e]; exact hm), ?_⟩
      rw [cut_rest_false 34 s hb]; simp
    · rw [hb] at e
      simp only [if_true] at e
      exact ⟨fun hm => h (by rw [e]; simp [hm]), fun hm => h (by rw [e]; simp [hm])⟩
  unfold wideLine
  intro hm
  rcases List.mem_append.1 hm with hm | hm
  · rcases List.mem_append.1 hm with hm | hm
    · revert hm; decide
    · exact repl_not (by decide) h1.1 hm
  · split at hm
    · simp only [List.mem_cons, List.mem_append, List.not_mem_nil, or_false] at hm
      rcases hm with hm | hm | hm | hm
      · revert hm; decide
      · exact h1.2 hm
      · revert hm; decide
      · revert hm; decide
    · cases hm
theorem lines_wide {comment : Str} (hc : (10 : UInt8) ∉ comment) : ∀ ls : List Str, (∀ x, x ∈ ls → (10 : UInt8) ∉ x) → linesOf (wideOf comment ls) = ls.flatMap (fun s => [remark comment, [], wideLine s]) ++ [[]]
  | [], _ => rfl
  | s :: ls, h => by
    have hr : (10 : UInt8) ∉ remark comment := by
      intro hm
      rcases List.mem_append.1 hm with hm | hm
      · revert hm; decide
      · exact hc hm
    have e : wideOf comment (s :: ls) = remark comment ++ 10 :: ([] ++ 10 :: (wideLine s ++ 10 :: wideOf comment ls)) := by
      simp [wideOf]
    rw [e, lines_join, lines_join, lines_join, lines_one _ hr, lines_one _ (wide_not (h s (by simp))), lines_wide hc ls (fun x hx => h x (by simp [hx]))]
    rfl
theorem parse_wide (comment : Str) : ∀ (ls : List Str) (out : List Rule) (i : Nat),
    parseF pe out (3 * i) (ls.flatMap (fun s => [remark comment, [], wideLine s]) ++ [[]]) = ((parseF pe out i ls).1, 3 * (parseF pe out i ls).2.1, (parseF pe out i ls).2.2)
  | [], out, i => by
    rw [List.flatMap_nil, List.nil_append]
    simp only [parseF, lineK_nil]; rfl
  | s :: ls, out, i => by
    rw [List.flatMap_cons, List.append_assoc, List.cons_append, List.cons_append, List.cons_append, List.nil_append, parseF, lineK_remark]
    simp only
    rw [parseF, lineK_nil]
    simp only
    rw [parseF, lineK_wide, parseF]
    cases lineK s with
    | skip =>
      have := parse_wide comment ls out (i + 1)
      rw [show 3 * (i + 1) = 3 * i + 1 + 1 + 1 by omega] at this
      exact this
    | bad => simp only; congr 2
    | rule r =>
      simp only
      split
      · have := parse_wide comment ls (out ++ [r]) (i + 1)
        rw [show 3 * (i + 1) = 3 * i + 1 + 1 + 1 by omega] at this
        exact this
      · simp only; congr 2
theorem layout_ok {s comment : Str} (hc : (10 : UInt8) ∉ comment) : parseT pe (wideOf comment (linesOf s)) = ((parseT pe s).1, 3 * (parseT pe s).2.1, (parseT pe s).2.2) := by
  rw [parseT, lines_wide hc _ (fun x hx => (mem_lines s x hx).1)]
  exact parse_wide comment (linesOf s) [] 0

/- Names. -/
theorem parse_app : ∀ (a b : List Str) (out rs : List Rule) (i : Nat), rulesOf a = some rs → chkR pe (out ++ rs) = 0 → parseF pe out i (a ++ b) = parseF pe (out ++ rs) (i + a.length) b
  | [], b, out, rs, i, h, _ => by simp only [rulesOf, Option.some.injEq] at h; subst h; simp
  | s :: a, b, out, rs, i, h, hc => by
    rw [rulesOf] at h
    rw [List.cons_append, parseF, List.length_cons]
    cases hk : lineK s with
    | skip => rw [hk] at h; simp only; rw [parse_app a b out rs (i + 1) h hc]; congr 1; omega
    | bad => rw [hk] at h; cases h
    | rule r =>
      rw [hk] at h
      simp only [Option.map_eq_some_iff] at h
      obtain ⟨t, ht, rfl⟩ := h
      have e : out ++ r :: t = out ++ [r] ++ t := by simp
      rw [e] at hc ⊢
      simp only [if_pos (chk_app hc)]
      rw [parse_app a b (out ++ [r]) t (i + 1) ht hc]; congr 1; omega
theorem chkFrom_congr {pa pb : Str → Int} : ∀ (l : List Rule) (used : List Str), (∀ r, r ∈ l → pa r.pat = pb r.pat) → chkFrom pa used l = chkFrom pb used l
  | [], _, _ => rfl
  | r :: l, used, h => by
    have h1 := h r (by simp)
    unfold chkFrom ruleE
    rw [h1, chkFrom_congr l _ (fun x hx => h x (by simp [hx]))]
theorem chk_congr {pa pb : Str → Int} {l : List Rule} (h : ∀ r, r ∈ l → pa r.pat = pb r.pat) : chkR pa l = chkR pb l := by
  unfold chkR; rw [chkFrom_congr l [] h]
def nLine (i : Nat) : Str := [114, UInt8.ofNat (97 + i)] ++ 32 :: (kNormal ++ [32, 34, 120, 34])
def nRule (i : Nat) : Rule := ⟨[114, UInt8.ofNat (97 + i)], [120], 0, 60, 2, 0⟩
def nRules (k : Nat) : List Rule := (List.range k).map nRule
def isRule (x : LK) (r : Rule) : Bool := match x with
  | .rule r' => decide (r' = r)
  | _ => false
theorem nLine_all : ∀ i : Fin 16, isRule (lineK (nLine i.val)) (nRule i.val) = true ∧ (10 : UInt8) ∉ nLine i.val := by decide +kernel
theorem nLine_rule {i : Nat} (h : i < 16) : lineK (nLine i) = .rule (nRule i) := by
  have := (nLine_all ⟨i, h⟩).1
  simp only at this
  cases hk : lineK (nLine i) with
  | rule r => rw [hk] at this; simp only [isRule, decide_eq_true_eq] at this; rw [this]
  | _ => rw [hk] at this; cases this
def pe0 : Str → Int := fun _ => 0
theorem nChk_all : ∀ k : Fin 17, chkR pe0 (nRules k.val) = 0 := by decide +kernel
theorem nChk_more : ∀ k : Fin 17, ∀ j : Fin 16, j.val < k.val → chkR pe0 (nRules k.val ++ [nRule j.val]) = if k.val = 16 then 5 else 7 := by decide +kernel
theorem nChk (hx : pe [120] = 0) {l : List Rule} (h : ∀ r, r ∈ l → r.pat = [120]) : chkR pe l = chkR pe0 l := chk_congr fun r hr => by rw [h r hr, hx]; rfl
def nLines (k : Nat) : List Str := (List.range k).map nLine
theorem nRules_pat (k : Nat) : ∀ r, r ∈ nRules k → r.pat = [120] := by
  intro r hr
  obtain ⟨i, _, rfl⟩ := List.mem_map.1 hr
  rfl
theorem rulesOf_map : ∀ l : List Nat, (∀ i, i ∈ l → i < 16) → rulesOf (l.map nLine) = some (l.map nRule)
  | [], _ => rfl
  | i :: l, h => by
    rw [List.map_cons, rulesOf, nLine_rule (h i (by simp)), rulesOf_map l (fun j hj => h j (by simp [hj]))]; rfl
theorem lines_join_all : ∀ (x : Str) (xs : List Str), (∀ y, y ∈ x :: xs → (10 : UInt8) ∉ y) → linesOf ((x :: xs).intersperse [10]).flatten = x :: xs
  | x, [], h => by simp [lines_one x (h x (by simp))]
  | x, y :: ys, h => by
    have := lines_join_all y ys (fun z hz => h z (by simp [hz]))
    rw [List.intersperse_cons_cons, List.flatten_cons, List.flatten_cons, List.singleton_append, lines_join, this, lines_one x (h x (by simp))]; rfl
theorem names_ok (hx : pe [120] = 0) {k j : Nat} (h1 : 1 ≤ k) (hk : k ≤ 16) (hj : j < k) {text : Str} (ht : linesOf text = nLines k) :
    parseT pe text = (nRules k, 0, 0) ∧ parseT pe (text ++ 10 :: nLine j) = ([], (k : Int) + 1, if k = 16 then 5 else 7) := by
  have hr : rulesOf (nLines k) = some (nRules k) := rulesOf_map _ (fun i hi => by have := List.mem_range.1 hi; omega)
  have hc : chkR pe ([] ++ nRules k) = 0 := by
    rw [List.nil_append, nChk hx (nRules_pat k)]; exact nChk_all ⟨k, by omega⟩
  refine ⟨?_, ?_⟩
  · rw [parseT, ht, parse_good _ [] _ 0 hr hc]; rfl
  · have hm := nChk_more ⟨k, by omega⟩ ⟨j, by omega⟩ hj
    simp only at hm
    have hm2 : chkR pe (nRules k ++ [nRule j]) = if k = 16 then 5 else 7 := by
      rw [nChk hx (fun r hr => by
        rcases List.mem_append.1 hr with h | h
        · exact nRules_pat k r h
        · simp at h; subst h; rfl)]; exact hm
    rw [parseT, lines_join, ht, lines_one (nLine j) (nLine_all ⟨j, by omega⟩).2, parse_app _ _ [] _ 0 hr hc, parseF, nLine_rule (by omega)]
    simp only [List.nil_append, hm2]
    rw [if_neg (by split <;> decide), show 0 + (nLines k).length = k by simp [nLines]]
end Rul
/- The text of rules: plain, no program. -/


set_option linter.unusedVariables false
set_option linter.unusedSimpArgs false
namespace Rul
open Go
variable {pe : Str → Int}

def wordC (n : Int) : Str := if n = 1 then kUrgent else if n = 2 then kNormal else if n = 3 then kLater else []
def waitT (r : Rule) : Str := if r.wait = 0 then [] else 32 :: (kWait ++ 32 :: Lib.itoa r.wait)
def rowsT (r : Rule) : Str := if r.lo = 0 ∧ r.hi = 60 then [] else 32 :: (kRows ++ 32 :: (Lib.itoa (r.lo + 1) ++ 45 :: Lib.itoa r.hi))
def frontT (r : Rule) : Str := r.name ++ 32 :: (wordC r.cls ++ (waitT r ++ (rowsT r ++ [32])))
def lineT (r : Rule) : Str := frontT r ++ 34 :: (r.pat ++ [34])
def fmt (l : List Rule) : Str := l.flatMap fun r => lineT r ++ [10]

/- Numerals. -/
def isDig (c : UInt8) : Prop := 48 ≤ c.toNat ∧ c.toNat ≤ 57
theorem dig_of {u : Nat} (h : u < 10) : (UInt8.ofNat (48 + u)).toNat = 48 + u := by simp; omega
theorem digs_all (u : Nat) : ∀ c, c ∈ Lib.decDigits u → isDig c := by
  induction u using Nat.strongRecOn with
  | ind u ih =>
    intro c hc
    rw [Lib.decDigits] at hc
    split at hc
    · rename_i h
      simp only [List.mem_singleton] at hc; subst hc
      unfold isDig; rw [dig_of h]; omega
    · rename_i h
      rcases List.mem_append.1 hc with hc | hc
      · exact ih (u / 10) (by omega) c hc
      · simp only [List.mem_singleton] at hc; subst hc
        unfold isDig; rw [dig_of (by omega)]; omega
theorem digs_val (u : Nat) : valOf (Lib.decDigits u) = u := by
  induction u using Nat.strongRecOn with
  | ind u ih =>
    rw [Lib.decDigits]
    split
    · rename_i h
      simp only [valOf, List.foldl_cons, List.foldl_nil, dig_of h]; omega
    · rename_i h
      have := ih (u / 10) (by omega)
      unfold valOf at this ⊢
      rw [List.foldl_append, this]
      simp only [List.foldl_cons, List.foldl_nil, dig_of (show u % 10 < 10 by omega)]
      omega
theorem digs_len (u : Nat) : ∀ k, u < 10 ^ (k + 1) → (Lib.decDigits u).length ≤ k + 1 := by
  induction u using Nat.strongRecOn with
  | ind u ih =>
    intro k hk
    rw [Lib.decDigits]
    split
    · simp
    · rename_i h
      cases k with
      | zero => simp at hk; omega
      | succ k =>
        have := ih (u / 10) (by omega) k (by rw [Nat.pow_succ] at hk; omega)
        simp only [List.length_append, List.length_singleton]; omega
theorem digs_ne (u : Nat) : Lib.decDigits u ≠ [] := by
  rw [Lib.decDigits]; split <;> simp
theorem digs_head (u : Nat) (h : 1 ≤ u) : (Lib.decDigits u).headD 0 ≠ 48 := by
  induction u using Nat.strongRecOn with
  | ind u ih =>
    rw [Lib.decDigits]
    split
    · rename_i h1
      simp only [List.headD_cons]
      intro e
      have := congrArg UInt8.toNat e
      rw [dig_of h1] at this
      have : 48 + u = 48 := this
      omega
    · rename_i h1
      have := ih (u / 10) (by omega) (by omega)
      cases hd : Lib.decDigits (u / 10) with
      | nil => exact absurd hd (digs_ne _)
      | cons x xs => rw [hd] at this; simpa using this
theorem digs_num {u : Nat} (h : u < 10 ^ 9) : numB (Lib.decDigits u) = true := by
  have h1 := digs_len u 8 h
  have h2 : digitsB (Lib.decDigits u) = true := by
    rw [digitsB, List.all_eq_true]
    intro c hc
    have := digs_all u c hc
    simp only [Bool.and_eq_true, decide_eq_true_eq]; exact this
  unfold numB
  rw [h2, decide_eq_false (digs_ne u), decide_eq_true h1]
  rcases Nat.eq_zero_or_pos u with rfl | hp
  · rw [show (Lib.decDigits 0).length = 1 by rw [Lib.decDigits]; rfl]; rfl
  · rw [decide_eq_false (digs_head u hp)]; simp
theorem itoa_num {n : Int} (h0 : 0 ≤ n) (h1 : n < 1000000000) : numB (Lib.itoa n) = true ∧ numOf (Lib.itoa n) = n ∧ ∀ c, c ∈ Lib.itoa n → isDig c := by
  have e : Lib.itoa n = Lib.decDigits n.toNat := by unfold Lib.itoa; rw [if_neg (by omega)]
  rw [e]
  have := digs_num (u := n.toNat) (by omega)
  refine ⟨this, ?_, digs_all _⟩
  rw [numOf, if_pos this, digs_val]; omega
theorem itoa_not {n : Int} (h0 : 0 ≤ n) (h1 : n < 1000000000) {c : UInt8} (hc : ¬ isDig c) : c ∉ Lib.itoa n := fun hm => hc ((itoa_num h0 h1).2.2 c hm)
theorem itoa_ne (n : Int) : Lib.itoa n ≠ [] := by
  unfold Lib.itoa; split
  · simp
  · exact digs_ne _

/- Words. -/
theorem words_word : ∀ (a cur : Str), (32 : UInt8) ∉ a → ∀ s, wordsF cur (a ++ s) = wordsF (cur ++ a) s
  | [], cur, _, s => by simp
  | c :: a, cur, h, s => by
    have h1 : c ≠ 32 := fun e => h (by simp [e])
    rw [List.cons_append, wordsF, if_neg h1, words_word a (cur ++ [c]) (fun e => h (by simp [e])) s]; simp
theorem words_cons {a : Str} (h : (32 : UInt8) ∉ a) (hne : a ≠ []) (s : Str) : wordsOf (a ++ 32 :: s) = a :: wordsOf s := by
  unfold wordsOf
  rw [words_word a [] h, List.nil_append, wordsF, if_pos rfl, if_neg hne]
/-- Words with a blank ahead of each but the first, and one at the end. -/
theorem words_list : ∀ (ws : List Str), (∀ w, w ∈ ws → (32 : UInt8) ∉ w ∧ w ≠ []) → wordsOf (ws.flatMap fun w => w ++ [32]) = ws
  | [], _ => rfl
  | w :: ws, h => by
    obtain ⟨h1, h2⟩ := h w (by simp)
    rw [List.flatMap_cons, List.append_assoc, List.singleton_append, words_cons h1 h2, words_list ws (fun x hx => h x (by simp [hx]))]
def optW (r : Rule) : List Str := if r.wait = 0 then [] else [kWait, Lib.itoa r.wait]
def optR (r : Rule) : List Str := if r.lo = 0 ∧ r.hi = 60 then [] else [kRows, Lib.itoa (r.lo + 1) ++ 45 :: Lib.itoa r.hi]
def wordsT (r : Rule) : List Str := r.name :: wordC r.cls :: (optW r ++ optR r)
theorem front_words (r : Rule) : frontT r = (wordsT r).flatMap fun w => w ++ [32] := by
  unfold frontT wordsT waitT rowsT optW optR
  by_cases h1 : r.wait = 0 <;> by_cases h2 : r.lo = 0 ∧ r.hi = 60 <;> simp [h1, h2]

/-- What a proper rule is. -/
structure Ok (pe : Str → Int) (r : Rule) : Prop where
  name : nameB r.name = true
  lo : 0 ≤ r.lo
  lt : r.lo < r.hi
  hi : r.hi ≤ 60
  cls : 1 ≤ r.cls ∧ r.cls ≤ 3
  wait : 0 ≤ r.wait ∧ r.wait ≤ 60000
  later : r.wait = 0 ∨ r.cls = 3
  line : (10 : UInt8) ∉ r.pat
theorem isIn_iff {c : UInt8} : ∀ l : Str, isIn l c = true ↔ c ∈ l
  | [] => by simp [isIn, Lib.indexByte]
  | x :: l => by
    have := isIn_iff (c := c) l
    simp only [isIn, decide_eq_true_eq] at this ⊢
    unfold Lib.indexByte
    by_cases h : x = c
    · subst h; simp
    · have h' : ¬ (x == c) = true := by simpa using h
      simp only [h', List.mem_cons]
      by_cases h2 : Lib.indexByte l c < 0
      · have h3 : ¬ c ∈ l := fun hm => by have := this.2 hm; omega
        simp [h2, h3, Ne.symm h]
        try omega
      · have h3 : c ∈ l := this.1 (by omega)
        simp [h2, h3]
        try omega
theorem ok_of : ∀ (l : List Rule) (used : List Str), chkFrom pe used l = 0 → ∀ r, r ∈ l → Ok pe r
  | [], _, _, r, h => by cases h
  | x :: l, used, h, r, hr => by
    unfold chkFrom at h
    split at h
    · omega
    · rename_i hn
      split at h
      · omega
      · split at h
        · rename_i h3
          rcases List.mem_cons.1 hr with rfl | hr
          · unfold ruleE at h3
            split at h3
            · omega
            · rename_i hc
              split at h3
              · omega
              · rename_i hb
                split at h3
                · omega
                · rename_i hl
                  simp only [rangeBad, waitBad, Bool.or_eq_true, decide_eq_true_eq, Bool.and_eq_true, Bool.not_eq_true', decide_eq_false_iff_not] at hb
                  refine ⟨by simpa using hn, by omega, by omega, by omega, by omega, by omega, ?_, fun hm => hl ((isIn_iff _).2 hm)⟩
                  by_cases hw : r.wait = 0
                  · exact .inl hw
                  · right
                    rcases Classical.em (r.cls = 3) with h5 | h5
                    · exact h5
                    · exfalso; apply hb; right; right; exact ⟨by omega, h5⟩
          · exact ok_of l _ h r hr
        · rename_i h3; exact absurd h h3
theorem name_chars {s : Str} (h : nameB s = true) : s ≠ [] ∧ (∀ c, c ∈ s → c ∈ signs) ∧ s.head? ≠ some 35 := by
  cases s with
  | nil => cases h
  | cons c s =>
    simp only [nameB, Bool.and_eq_true, decide_eq_true_eq, List.all_eq_true] at h
    refine ⟨by simp, fun d hd => (isIn_iff _).1 (h.2 d hd), ?_⟩
    have := (isIn_iff _).1 h.1.2
    intro e
    simp only [List.head?_cons, Option.some.injEq] at e
    subst e; revert this; decide
theorem word_facts {n : Int} (h : 1 ≤ n ∧ n ≤ 3) : classOf (wordC n) = n ∧ wordC n ≠ [] ∧ (32 : UInt8) ∉ wordC n ∧ (34 : UInt8) ∉ wordC n ∧ (10 : UInt8) ∉ wordC n := by
  rcases (by omega : n = 1 ∨ n = 2 ∨ n = 3) with rfl | rfl | rfl <;> decide
theorem words_ok {r : Rule} (h : Ok pe r) : ∀ w, w ∈ wordsT r → (32 : UInt8) ∉ w ∧ w ≠ [] ∧ (34 : UInt8) ∉ w ∧ (10 : UInt8) ∉ w := by
  have hn := name_chars h.name
  have hw := word_facts h.cls
  have hlo := h.lo; have hlt := h.lt; have hhi := h.hi; have hwt := h.wait
  intro w hm
  simp only [wordsT, List.mem_cons, List.mem_append] at hm
  rcases hm with rfl | rfl | hm | hm
  · exact ⟨fun e => by have := hn.2.1 _ e; revert this; decide, hn.1, fun e => by have := hn.2.1 _ e; revert this; decide, fun e => by have := hn.2.1 _ e; revert this; decide⟩
  · exact ⟨hw.2.2.1, hw.2.1, hw.2.2.2.1, hw.2.2.2.2⟩
  · unfold optW at hm
    split at hm
    · cases hm
    · simp only [List.mem_cons, List.not_mem_nil, or_false] at hm
      rcases hm with rfl | rfl
      · decide
      · exact ⟨itoa_not (by omega) (by omega) (by unfold isDig; decide), itoa_ne _, itoa_not (by omega) (by omega) (by unfold isDig; decide), itoa_not (by omega) (by omega) (by unfold isDig; decide)⟩
  · unfold optR at hm
    split at hm
    · cases hm
    · simp only [List.mem_cons, List.not_mem_nil, or_false] at hm
      rcases hm with rfl | rfl
      · decide
      · have key : ∀ c : UInt8, ¬ isDig c → c ≠ 45 → c ∉ Lib.itoa (r.lo + 1) ++ 45 :: Lib.itoa r.hi := by
          intro c hc h45 he
          rcases List.mem_append.1 he with he | he
          · exact itoa_not (by omega) (by omega) hc he
          · rcases List.mem_cons.1 he with he | he
            · exact h45 he
            · exact itoa_not (by omega) (by omega) hc he
        exact ⟨key 32 (by unfold isDig; decide) (by decide), by simp, key 34 (by unfold isDig; decide) (by decide), key 10 (by unfold isDig; decide) (by decide)⟩
theorem front_not {r : Rule} (h : Ok pe r) : (34 : UInt8) ∉ frontT r ∧ (10 : UInt8) ∉ frontT r := by
  rw [front_words]
  constructor <;> intro hm <;> obtain ⟨w, hw, h1⟩ := List.mem_flatMap.1 hm <;> rcases List.mem_append.1 h1 with h1 | h1
  · exact (words_ok h w hw).2.2.1 h1
  · revert h1; decide
  · exact (words_ok h w hw).2.2.2 h1
  · revert h1; decide
theorem trimR_end (s : Str) : trimR (s ++ [34]) = s ++ [34] := by simp [trimR]
theorem opt_wait (r : Rule) (h : Ok pe r) : ∃ w, optOf kWait (optW r ++ optR r) = (w, optR r) ∧ w.all numB = true ∧ optVal w = r.wait := by
  have hwt := h.wait
  unfold optW
  by_cases h1 : r.wait = 0
  · rw [if_pos h1, List.nil_append]
    refine ⟨none, ?_, rfl, h1.symm⟩
    unfold optR
    split
    · rfl
    · simp only [optOf]; rw [if_neg (by decide)]
  · rw [if_neg h1]
    have := itoa_num (n := r.wait) (by omega) (by omega)
    exact ⟨some (Lib.itoa r.wait), by simp [optOf], by simp [this.1], this.2.1⟩
theorem line_ok {r : Rule} (h : Ok pe r) : lineR (wordsT r) (r.pat ++ [34]) = (r, true) := by
  have hlo := h.lo; have hlt := h.lt; have hhi := h.hi
  unfold lineR
  rw [trimR_end, unquote_quote]
  obtain ⟨w, h1, h2, h3⟩ := opt_wait r h
  simp only [wordsT, h1, h2, h3, (word_facts h.cls).1]
  unfold optR
  by_cases h4 : r.lo = 0 ∧ r.hi = 60
  · rw [if_pos h4]
    simp only [optOf]
    obtain ⟨h5, h6⟩ := h4
    simp only [Bool.true_eq_false, if_false, decide_true, Prod.mk.injEq, and_true]
    cases r; simp only at h5 h6; subst h5 h6; rfl
  · rw [if_neg h4]
    have a := itoa_num (n := r.lo + 1) (by omega) (by omega)
    have b := itoa_num (n := r.hi) (by omega) (by omega)
    have hc : cutAt 45 (Lib.itoa (r.lo + 1) ++ 45 :: Lib.itoa r.hi) = (Lib.itoa (r.lo + 1), Lib.itoa r.hi, true) := cut_some 45 _ _ (itoa_not (by omega) (by omega) (by unfold isDig; decide))
    simp only [optOf, if_pos, rowsOk, hc, a.1, b.1, a.2.1, b.2.1, Bool.true_eq_false, if_false, Bool.and_true, decide_true, Prod.mk.injEq, and_true]
    rw [show r.lo + 1 - 1 = r.lo by omega]
theorem lineK_ok {r : Rule} (h : Ok pe r) : lineK (lineT r) = .rule r := by
  have hc : cutAt 34 (lineT r) = (frontT r, r.pat ++ [34], true) := cut_some 34 _ _ (front_not h).1
  have hw : wordsOf (frontT r) = wordsT r := by rw [front_words]; exact words_list _ fun w hw => ⟨(words_ok h w hw).1, (words_ok h w hw).2.1⟩
  unfold lineK
  rw [hc]
  simp only [hw, line_ok h]
  rw [if_neg]
  · simp
  · rintro (⟨h1, _⟩ | h1)
    · cases h1
    · exact (name_chars h.name).2.2 h1
theorem line_not {r : Rule} (h : Ok pe r) : (10 : UInt8) ∉ lineT r := by
  unfold lineT
  intro hm
  simp only [List.mem_append, List.mem_cons, List.not_mem_nil, or_false] at hm
  rcases hm with hm | hm | hm | hm
  · exact (front_not h).2 hm
  · revert hm; decide
  · exact h.line hm
  · revert hm; decide
theorem lines_fmt : ∀ l : List Rule, (∀ r, r ∈ l → Ok pe r) → linesOf (fmt l) = l.map lineT ++ [[]]
  | [], _ => rfl
  | r :: l, h => by
    have e : fmt (r :: l) = lineT r ++ 10 :: fmt l := by simp [fmt]
    rw [e, lines_join, lines_one _ (line_not (h r (by simp))), lines_fmt l (fun x hx => h x (by simp [hx]))]; rfl
theorem rulesOf_fmt : ∀ l : List Rule, (∀ r, r ∈ l → Ok pe r) → rulesOf (l.map lineT ++ [[]]) = some l
  | [], _ => by simp [rulesOf, lineK_nil]
  | r :: l, h => by
    rw [List.map_cons, List.cons_append, rulesOf, lineK_ok (h r (by simp)), rulesOf_fmt l (fun x hx => h x (by simp [hx]))]; rfl
/-- The text of proper rules reads as the rules. -/
theorem fmt_ok {l : List Rule} (h : chkR pe l = 0) : parseT pe (fmt l) = (l, 0, 0) ∧ (fmt l).count 10 = l.length := by
  have ho : ∀ r, r ∈ l → Ok pe r := by
    unfold chkR at h
    split at h
    · omega
    · exact ok_of l [] h
  have hl := lines_fmt l ho
  refine ⟨?_, ?_⟩
  · rw [parseT, hl, parse_good _ [] l 0 (rulesOf_fmt l ho) h]; rfl
  · have := lines_count (fmt l)
    rw [hl] at this
    simp at this; omega
end Rul
