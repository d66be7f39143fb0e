/- Part of a proof about the functions of this seat. -/
import Derived.Test.YtjgbdlaecpkmhaaGreatDoorG11Rul
import Derived.Lib.ItoaNum
import Derived.Lib.FieldsP
import Derived.Lib.FieldsU
import Derived.Lib.TrimUEq
import Derived.Lib.Split
import Derived.Lib.SplitLaws
import Derived.Lib.IndexMore
import Derived.Lib.Replace
import Derived.Lib.SlTrimSet
import Derived.Lib.Atoi
import Derived.Lib.Strings
import Derived.Lib.Join
import Derived.Lib.IndexBytes
/- The form of rules: plain, no program. -/

set_option linter.unusedVariables false
set_option linter.unusedSimpArgs false
namespace Rul
open Go

abbrev Str := List UInt8
def linesOf : Str → List Str
  | [] => [[]]
  | c :: s => if c = 10 then [] :: linesOf s else (c :: (linesOf s).headD []) :: (linesOf s).tail
theorem lines_ne : ∀ s : Str, linesOf s ≠ []
  | [] => by simp [linesOf]
  | c :: s => by unfold linesOf; split <;> simp
theorem lines_join : ∀ s t : Str, linesOf (s ++ 10 :: t) = linesOf s ++ linesOf t
  | [], t => by simp [linesOf]
  | c :: s, t => by
    rw [List.cons_append, linesOf, linesOf, lines_join s t]
    split
    · rfl
    · cases h : linesOf s with
      | nil => exact absurd h (lines_ne s)
      | cons x xs => rfl
theorem lines_one : ∀ s : Str, (10 : UInt8) ∉ s → linesOf s = [s]
  | [], _ => rfl
  | c :: s, h => by
    have h1 : c ≠ 10 := fun e => h (by simp [e])
    rw [linesOf, if_neg h1, lines_one s (fun e => h (by simp [e]))]; rfl
theorem lines_count : ∀ s : Str, (linesOf s).length = s.count 10 + 1
  | [] => rfl
  | c :: s => by
    rw [linesOf]
    split
    · rename_i h; subst h; rw [List.length_cons, lines_count s]; simp
    · rename_i h
      have := lines_ne s
      have h2 := lines_count s
      cases hl : linesOf s with
      | nil => exact absurd hl this
      | cons x xs => rw [hl] at h2; simp only [List.tail_cons, List.length_cons] at h2 ⊢; rw [List.count_cons_of_ne h]; exact h2

/-- What stands ahead of the first q and behind it. -/
def cutAt (q : UInt8) : Str → Str × Str × Bool
  | [] => ([], [], false)
  | c :: s => if c = q then ([], s, true) else (c :: (cutAt q s).1, (cutAt q s).2.1, (cutAt q s).2.2)
theorem cut_none (q : UInt8) : ∀ s : Str, q ∉ s → cutAt q s = (s, [], false)
  | [], _ => rfl
  | c :: s, h => by
    have h1 : c ≠ q := fun e => h (by simp [e])
    rw [cutAt, if_neg h1, cut_none q s (fun e => h (by simp [e]))]
theorem cut_some (q : UInt8) : ∀ s t : Str, q ∉ s → cutAt q (s ++ q :: t) = (s, t, true)
  | [], t, _ => by simp [cutAt]
  | c :: s, t, h => by
    have h1 : c ≠ q := fun e => h (by simp [e])
    rw [List.cons_append, cutAt, if_neg h1, cut_some q s t (fun e => h (by simp [e]))]
theorem cut_front (q : UInt8) : ∀ s : Str, q ∉ (cutAt q s).1
  | [] => by simp [cutAt]
  | c :: s => by
    rw [cutAt]
    split
    · simp
    · rename_i h
      intro hm
      rcases List.mem_cons.1 hm with e | e
      · exact h e.symm
      · exact cut_front q s e
theorem cut_as (q : UInt8) : ∀ s : Str, s = if (cutAt q s).2.2 then (cutAt q s).1 ++ q :: (cutAt q s).2.1 else (cutAt q s).1
  | [] => rfl
  | c :: s => by
    rw [cutAt]
    split
    · rename_i h; simp [h]
    · have := cut_as q s
      simp only
      split at this
      · rename_i h; rw [if_pos h, List.cons_append, ← this]
      · rename_i h; rw [if_neg h, ← this]
theorem cut_rest_false (q : UInt8) : ∀ s : Str, (cutAt q s).2.2 = false → (cutAt q s).2.1 = []
  | [], _ => rfl
  | c :: s, h => by
    rw [cutAt] at h ⊢
    split at h
    · cases h
    · rename_i h1; rw [if_neg h1]; exact cut_rest_false q s h

def wordsF (cur : Str) : Str → List Str
  | [] => if cur = [] then [] else [cur]
  | c :: s => if c = 32 then (if cur = [] then wordsF [] s else cur :: wordsF [] s) else wordsF (cur ++ [c]) s
def wordsOf (s : Str) : List Str := wordsF [] s
theorem words_ne : ∀ (s cur : Str) (x : Str), x ∈ wordsF cur s → x ≠ []
  | [], cur, x, h => by
    unfold wordsF at h; split at h
    · cases h
    · rename_i hc; simp at h; subst h; exact hc
  | c :: s, cur, x, h => by
    unfold wordsF at h
    split at h
    · split at h
      · exact words_ne s [] x h
      · rename_i hc
        rcases List.mem_cons.1 h with rfl | h
        · exact hc
        · exact words_ne s [] x h
    · exact words_ne s _ x h

def digitsB (s : Str) : Bool := s.all fun c => decide (48 ≤ c.toNat) && decide (c.toNat ≤ 57)
def numB (s : Str) : Bool := !decide (s = []) && decide (s.length ≤ 9) && (decide (s.length ≤ 1) || !decide (s.headD 0 = 48)) && digitsB s
def valOf (s : Str) : Int := s.foldl (fun n c => n * 10 + ((c.toNat : Int) - 48)) 0
def numOf (s : Str) : Int := if numB s then valOf s else 0

def kUrgent : Str := [117, 114, 103, 101, 110, 116]
def kNormal : Str := [110, 111, 114, 109, 97, 108]
def kLater : Str := [108, 97, 116, 101, 114]
def kWait : Str := [119, 97, 105, 116]
def kRows : Str := [114, 111, 119, 115]
def classOf (s : Str) : Int := if s = kUrgent then 1 else if s = kNormal then 2 else if s = kLater then 3 else 0
def trimR (s : Str) : Str := (s.reverse.dropWhile (· == 32)).reverse
def unquote (s : Str) : Option Str := match s.reverse with
  | 34 :: r => some r.reverse
  | _ => none

/-- An option's words, where they stand, and the rest. -/
def optOf (k : Str) (l : List Str) : Option Str × List Str := match l with
  | a :: b :: l => if a = k then (some b, l) else (none, a :: b :: l)
  | l => (none, l)
def rowsOk (s : Str) : Bool := numB (cutAt 45 s).1 && numB (cutAt 45 s).2.1
def optVal : Option Str → Int
  | some x => numOf x
  | none => 0
def zeroR : Rule := ⟨[], [], 0, 0, 0, 0⟩
def lineR (l : List Str) (rest : Str) : Rule × Bool :=
  match unquote (trimR rest), l with
  | some text, a :: b :: l =>
    let r : Rule := ⟨a, text, 0, 60, classOf b, 0⟩
    match optOf kWait l with
    | (w, l) =>
      if w.all numB = false then (zeroR, false)
      else
        let r : Rule := { r with wait := optVal w }
        match optOf kRows l with
        | (some x, l) => ({ r with lo := numOf (cutAt 45 x).1 - 1, hi := numOf (cutAt 45 x).2.1 }, rowsOk x && decide (l = []))
        | (none, l) => (r, decide (l = []))
  | _, _ => (zeroR, false)

inductive LK where
  | skip
  | bad
  | rule (r : Rule)
def lineK (s : Str) : LK :=
  if (wordsOf (cutAt 34 s).1 = [] ∧ (cutAt 34 s).2.2 = false) ∨ ((wordsOf (cutAt 34 s).1).headD []).head? = some 35 then .skip
  else if (cutAt 34 s).2.2 = true ∧ (lineR (wordsOf (cutAt 34 s).1) (cutAt 34 s).2.1).2 = true then .rule (lineR (wordsOf (cutAt 34 s).1) (cutAt 34 s).2.1).1 else .bad

section
variable (pe : Str → Int)
def parseF (out : List Rule) (i : Nat) : List Str → List Rule × Int × Int
  | [] => (out, 0, 0)
  | s :: ls => match lineK s with
    | .skip => parseF out (i + 1) ls
    | .bad => ([], i + 1, 3)
    | .rule r => if chkR pe (out ++ [r]) = 0 then parseF (out ++ [r]) (i + 1) ls else ([], i + 1, chkR pe (out ++ [r]))
def parseT (s : Str) : List Rule × Int × Int := parseF pe [] 0 (linesOf s)
end

def rulesOf : List Str → Option (List Rule)
  | [] => some []
  | s :: ls => match lineK s with
    | .skip => rulesOf ls
    | .bad => none
    | .rule r => (rulesOf ls).map (r :: ·)
theorem rulesOf_app : ∀ (a b : List Str), rulesOf (a ++ b) = (rulesOf a).bind fun x => (rulesOf b).map (x ++ ·)
  | [], b => by simp [rulesOf]
  | s :: a, b => by
    rw [List.cons_append, rulesOf, rulesOf, rulesOf_app a b]
    cases lineK s with
    | skip => rfl
    | bad => rfl
    | rule r => cases rulesOf a <;> cases rulesOf b <;> simp

variable {pe : Str → Int}
theorem chk_nil : chkR pe [] = 0 := by simp [chkR, chkFrom]
theorem chkFrom_app : ∀ (a b : List Rule) (used : List Str), chkFrom pe used (a ++ b) = 0 → chkFrom pe used a = 0
  | [], b, used, _ => rfl
  | r :: a, b, used, h => by
    rw [List.cons_append] at h
    unfold chkFrom at h ⊢
    split
    · rename_i h1; rw [if_pos h1] at h; exact h
    · rename_i h1
      rw [if_neg h1] at h
      split
      · rename_i h2; rw [if_pos h2] at h; exact h
      · rename_i h2
        rw [if_neg h2] at h
        split
        · rename_i h3; rw [if_pos h3] at h; exact chkFrom_app a b _ h
        · rename_i h3; rw [if_neg h3] at h; exact h
theorem chk_app {a b : List Rule} (h : chkR pe (a ++ b) = 0) : chkR pe a = 0 := by
  unfold chkR at h ⊢
  split at h
  · omega
  · rename_i h1
    rw [List.length_append] at h1
    rw [if_neg (by omega)]
    exact chkFrom_app a b [] h

theorem parse_good : ∀ (ls : List Str) (out rs : List Rule) (i : Nat), rulesOf ls = some rs → chkR pe (out ++ rs) = 0 → parseF pe out i ls = (out ++ rs, 0, 0)
  | [], out, rs, i, h, _ => by simp only [rulesOf, Option.some.injEq] at h; subst h; simp [parseF]
  | s :: ls, out, rs, i, h, hc => by
    rw [rulesOf] at h
    rw [parseF]
    cases hk : lineK s with
    | skip => rw [hk] at h; exact parse_good ls out rs (i + 1) h hc
    | bad => rw [hk] at h; cases h
    | rule r =>
      rw [hk] at h
      simp only [Option.map_eq_some_iff] at h
      obtain ⟨t, ht, rfl⟩ := h
      have e : out ++ r :: t = out ++ [r] ++ t := by simp
      rw [e] at hc ⊢
      simp only [if_pos (chk_app hc)]
      exact parse_good ls (out ++ [r]) t (i + 1) ht hc
theorem parse_bad : ∀ (ls : List Str) (out : List Rule) (i : Nat), chkR pe out = 0 → (∀ rs, rulesOf ls = some rs → chkR pe (out ++ rs) ≠ 0) →
    (parseF pe out i ls).1 = [] ∧ (parseF pe out i ls).2.2 ≠ 0 ∧ (i : Int) + 1 ≤ (parseF pe out i ls).2.1 ∧ (parseF pe out i ls).2.1 ≤ i + ls.length
  | [], out, i, hc, h => absurd hc (by simpa using h [] rfl)
  | s :: ls, out, i, hc, h => by
    rw [parseF]
    cases hk : lineK s with
    | skip =>
      have := parse_bad ls out (i + 1) hc (fun rs hr => h rs (by rw [rulesOf, hk]; exact hr))
      simp only [List.length_cons]
      refine ⟨this.1, this.2.1, ?_, ?_⟩ <;> omega
    | bad => simp only [List.length_cons]; refine ⟨trivial, by decide, ?_, ?_⟩ <;> omega
    | rule r =>
      by_cases h1 : chkR pe (out ++ [r]) = 0
      · simp only [if_pos h1]
        have := parse_bad ls (out ++ [r]) (i + 1) h1 (fun rs hr => by
          have := h (r :: rs) (by rw [rulesOf, hk, hr]; rfl)
          simpa using this)
        simp only [List.length_cons]
        refine ⟨this.1, this.2.1, ?_, ?_⟩ <;> omega
      · simp only [if_neg h1, List.length_cons]
        refine ⟨trivial, h1, ?_, ?_⟩ <;> omega

theorem parse_ok {ls : List Str} {out : List Rule} {i : Nat} (hc : chkR pe out = 0) (h : (parseF pe out i ls).2.2 = 0) : ∃ rs, rulesOf ls = some rs ∧ chkR pe (out ++ rs) = 0 ∧ parseF pe out i ls = (out ++ rs, 0, 0) := by
  by_cases hx : ∃ rs, rulesOf ls = some rs ∧ chkR pe (out ++ rs) = 0
  · obtain ⟨rs, h1, h2⟩ := hx
    exact ⟨rs, h1, h2, parse_good ls out rs i h1 h2⟩
  · exact absurd h (parse_bad ls out i hc (fun rs hr hz => hx ⟨rs, hr, hz⟩)).2.1

/-- Rules that are read are proper; an error belongs to a line that there is. -/
theorem proper_ok (s : Str) : ((parseT pe s).2.2 = 0 → (parseT pe s).2.1 = 0 ∧ chkR pe (parseT pe s).1 = 0) ∧
    ((parseT pe s).2.2 ≠ 0 → (parseT pe s).1 = [] ∧ 1 ≤ (parseT pe s).2.1 ∧ (parseT pe s).2.1 ≤ s.count 10 + 1) := by
  refine ⟨fun h => ?_, fun h => ?_⟩
  · obtain ⟨rs, h1, h2, h3⟩ := parse_ok chk_nil h
    rw [parseT, h3]; exact ⟨rfl, h2⟩
  · have := parse_bad (pe := pe) (linesOf s) [] 0 chk_nil (fun rs hr hz => h (by rw [parseT, parse_good (linesOf s) [] rs 0 hr hz]))
    rw [lines_count] at this
    refine ⟨this.1, ?_, ?_⟩
    · have := this.2.2.1; simpa [parseT] using this
    · have := this.2.2.2; simpa [parseT] using this
/-- Two texts joined by a line feed. -/
theorem joins_ok {s t : Str} (h1 : (parseT pe s).2.2 = 0) (h2 : (parseT pe t).2.2 = 0) :
    (chkR pe ((parseT pe s).1 ++ (parseT pe t).1) = 0 → parseT pe (s ++ 10 :: t) = ((parseT pe s).1 ++ (parseT pe t).1, 0, 0)) ∧
    (chkR pe ((parseT pe s).1 ++ (parseT pe t).1) ≠ 0 → (parseT pe (s ++ 10 :: t)).2.2 ≠ 0) := by
  obtain ⟨a, a1, a2, a3⟩ := parse_ok chk_nil h1
  obtain ⟨b, b1, b2, b3⟩ := parse_ok chk_nil h2
  have ea : (parseT pe s).1 = a := by rw [parseT, a3]; rfl
  have eb : (parseT pe t).1 = b := by rw [parseT, b3]; rfl
  rw [ea, eb]
  have hr : rulesOf (linesOf (s ++ 10 :: t)) = some (a ++ b) := by rw [lines_join, rulesOf_app, a1, b1]; rfl
  refine ⟨fun h => ?_, fun h => ?_⟩
  · rw [parseT, parse_good _ [] _ 0 hr h]; rfl
  · exact (parse_bad _ [] 0 chk_nil (fun rs hrs hz => by rw [hr] at hrs; cases hrs; exact h hz)).2.1
end Rul
/- The form of rules: a pattern between quotation marks, layout, names. Plain, no program. -/

set_option linter.unusedVariables false
set_option linter.unusedSimpArgs false
namespace Rul
open Go
variable {pe : Str → Int}

theorem trimR_blanks (s : Str) : trimR (s ++ [32, 32]) = trimR s := by simp [trimR]
theorem trimR_quote (s : Str) : trimR (s ++ [34, 32]) = s ++ [34] := by simp [trimR]
theorem unquote_quote (s : Str) : unquote (s ++ [34]) = some s := by simp [unquote]

/- The pattern between quotation marks. -/
def front0 : Str := [120, 32, 117, 114, 103, 101, 110, 116, 32]
def quoted (s : Str) : Str := front0 ++ 34 :: (s ++ [34, 32])
def ruleX (s : Str) : Rule := ⟨[120], s, 0, 60, 1, 0⟩
theorem lineK_quoted (s : Str) : lineK (quoted s) = .rule (ruleX s) := by
  have hc : cutAt 34 (quoted s) = (front0, s ++ [34, 32], true) := cut_some 34 front0 _ (by decide)
  have hw : wordsOf front0 = [[120], kUrgent] := by decide
  have hl : lineR [[120], kUrgent] (s ++ [34, 32]) = (ruleX s, true) := by
    unfold lineR
    rw [trimR_quote, unquote_quote]
    rfl
  unfold lineK
  rw [hc]
  simp only [hw, hl]
  rw [if_neg (by decide)]
  simp
theorem pattern_ok {s : Str} (h : (10 : UInt8) ∉ s) : parseT pe (quoted s) = if chkR pe [ruleX s] = 0 then ([ruleX s], 0, 0) else ([], 1, chkR pe [ruleX s]) := by
  have h1 : (10 : UInt8) ∉ quoted s := by
    simp only [quoted, front0, List.mem_append, List.mem_cons, List.not_mem_nil, or_false]
    rintro (h2 | h2 | h2 | h2 | h2)
    · revert h2; decide
    · revert h2; decide
    · exact h h2
    · revert h2; decide
    · revert h2; decide
  rw [parseT, lines_one _ h1, parseF, lineK_quoted]
  simp only [List.nil_append, parseF]
  rfl

/- Layout. -/
def repl (s : Str) : Str := s.flatMap fun c => if c = 32 then [32, 32, 32] else [c]
def wideLine (s : Str) : Str := [32, 32] ++ repl (cutAt 34 s).1 ++ (if (cutAt 34 s).2.2 then 34 :: ((cutAt 34 s).2.1 ++ [32, 32]) else [])
def remark (comment : Str) : Str := [32, 35, 32] ++ comment
def wideOf (comment : Str) (ls : List Str) : Str := ls.flatMap fun s => remark comment ++ [10, 10] ++ wideLine s ++ [10]
theorem repl_not {q : UInt8} (hq : q ≠ 32) {s : Str} (h : q ∉ s) : q ∉ repl s := by
  intro hm
  obtain ⟨c, hc, h1⟩ := List.mem_flatMap.1 hm
  split at h1
  · simp at h1; exact hq h1
  · simp at h1; subst h1; exact h hc
theorem words_repl : ∀ (s cur : Str), wordsF cur (repl s) = wordsF cur s
  | [], _ => rfl
  | c :: s, cur => by
    show wordsF cur ((if c = 32 then [32, 32, 32] else [c]) ++ repl s) = _
    by_cases h : c = 32
    · subst h
      rw [if_pos rfl]
      simp only [List.cons_append, List.nil_append, wordsF, if_pos]
      rw [words_repl s []]
    · rw [if_neg h, List.singleton_append, wordsF, wordsF, if_neg h, if_neg h, words_repl s _]
theorem words_wide (s : Str) : wordsOf ([32, 32] ++ repl s) = wordsOf s := by
  show wordsF [] (32 :: 32 :: repl s) = _
  rw [wordsF, if_pos rfl, if_pos rfl, wordsF, if_pos rfl, if_pos rfl, words_repl]; rfl
theorem cut_wide (s : Str) : cutAt 34 (wideLine s) = ([32, 32] ++ repl (cutAt 34 s).1, if (cutAt 34 s).2.2 then (cutAt 34 s).2.1 ++ [32, 32] else [], (cutAt 34 s).2.2) := by
  have hn : (34 : UInt8) ∉ [32, 32] ++ repl (cutAt 34 s).1 := by
    intro h
    rcases List.mem_append.1 h with h | h
    · revert h; decide
    · exact repl_not (by decide) (cut_front 34 s) h
  unfold wideLine
  cases (cutAt 34 s).2.2
  · simp only [Bool.false_eq_true, if_false, List.append_nil]
    exact cut_none 34 _ hn
  · simp only [if_true]
    exact cut_some 34 _ _ hn
theorem lineK_wide (s : Str) : lineK (wideLine s) = lineK s := by
  unfold lineK
  rw [cut_wide]
  simp only [words_wide]
  cases h : (cutAt 34 s).2.2
  · simp
  · have e : lineR (wordsOf (cutAt 34 s).1) ((cutAt 34 s).2.1 ++ [32, 32]) = lineR (wordsOf (cutAt 34 s).1) (cutAt 34 s).2.1 := by
      unfold lineR; rw [trimR_blanks]
    simp only [if_true, e]
theorem head_words : ∀ (s cur : Str) (c : UInt8), ((wordsF (c :: cur) s).headD []).head? = some c
  | [], cur, c => rfl
  | x :: s, cur, c => by
    rw [wordsF]
    by_cases h : x = 32
    · rw [if_pos h, if_neg (by simp)]; rfl
    · rw [if_neg h]; exact head_words s (cur ++ [x]) c
theorem lineK_remark (s : Str) : lineK (remark s) = .skip := by
  unfold lineK
  have h : ((wordsOf (cutAt 34 (remark s)).1).headD []).head? = some 35 := by
    have e : (cutAt 34 (remark s)).1 = 32 :: 35 :: 32 :: (cutAt 34 s).1 := by
      simp only [remark, List.cons_append, List.nil_append, cutAt]
      rfl
    rw [e]
    show ((wordsF [] (32 :: 35 :: 32 :: (cutAt 34 s).1)).headD []).head? = _
    rw [wordsF, if_pos rfl, if_pos rfl, wordsF, if_neg (by decide)]
    exact head_words _ [] 35
  rw [if_pos (.inr h)]
theorem lineK_nil : lineK [] = .skip := by
  unfold lineK
  rw [if_pos (.inl ⟨rfl, rfl⟩)]
theorem mem_lines : ∀ (s : Str) (x : Str), x ∈ linesOf s → (10 : UInt8) ∉ x ∧ ∀ c, c ∈ x → c ∈ s
  | [], x, h => by simp [linesOf] at h; subst h; simp
  | c :: s, x, h => by
    rw [linesOf] at h
    split at h
    · rcases List.mem_cons.1 h with rfl | h
      · simp
      · have := mem_lines s x h
        exact ⟨this.1, fun d hd => by simp [this.2 d hd]⟩
    · rename_i hc
      have hne := lines_ne s
      cases hl : linesOf s with
      | nil => exact absurd hl hne
      | cons y ys =>
        rw [hl] at h
        simp only [List.headD_cons, List.tail_cons] at h
        rcases List.mem_cons.1 h with rfl | h
        · have := mem_lines s y (by rw [hl]; simp)
          refine ⟨fun hm => ?_, fun d hd => ?_⟩
          · rcases List.mem_cons.1 hm with e | e
            · exact hc e.symm
            · exact this.1 e
          · rcases List.mem_cons.1 hd with e | e
            · simp [e]
            · simp [this.2 d e]
        · have := mem_lines s x (by rw [hl]; simp [h])
          exact ⟨this.1, fun d hd => by simp [this.2 d hd]⟩
theorem wide_not {s : Str} (h : (10 : UInt8) ∉ s) : (10 : UInt8) ∉ wideLine s := by
  have h1 : (10 : UInt8) ∉ (cutAt 34 s).1 ∧ (10 : UInt8) ∉ (cutAt 34 s).2.1 := by
    have e := cut_as 34 s
    cases hb : (cutAt 34 s).2.2
    · rw [hb] at e
      simp only [Bool.false_eq_true, if_false] at e
      refine ⟨fun hm => h (by rw [e]; exact hm), ?_⟩
      rw [cut_rest_false 34 s hb]; simp
    · rw [hb] at e
      simp only [if_true] at e
      exact ⟨fun hm => h (by rw [e]; simp [hm]), fun hm => h (by rw [e]; simp [hm])⟩
  unfold wideLine
  intro hm
  rcases List.mem_append.1 hm with hm | hm
  · rcases List.mem_append.1 hm with hm | hm
    · revert hm; decide
    · exact repl_not (by decide) h1.1 hm
  · split at hm
    · simp only [List.mem_cons, List.mem_append, List.not_mem_nil, or_false] at hm
      rcases hm with hm | hm | hm | hm
      · revert hm; decide
      · exact h1.2 hm
      · revert hm; decide
      · revert hm; decide
    · cases hm
theorem lines_wide {comment : Str} (hc : (10 : UInt8) ∉ comment) : ∀ ls : List Str, (∀ x, x ∈ ls → (10 : UInt8) ∉ x) → linesOf (wideOf comment ls) = ls.flatMap (fun s => [remark comment, [], wideLine s]) ++ [[]]
  | [], _ => rfl
  | s :: ls, h => by
    have hr : (10 : UInt8) ∉ remark comment := by
      intro hm
      rcases List.mem_append.1 hm with hm | hm
      · revert hm; decide
      · exact hc hm
    have e : wideOf comment (s :: ls) = remark comment ++ 10 :: ([] ++ 10 :: (wideLine s ++ 10 :: wideOf comment ls)) := by
      simp [wideOf]
    rw [e, lines_join, lines_join, lines_join, lines_one _ hr, lines_one _ (wide_not (h s (by simp))), lines_wide hc ls (fun x hx => h x (by simp [hx]))]
    rfl
theorem parse_wide (comment : Str) : ∀ (ls : List Str) (out : List Rule) (i : Nat),
    parseF pe out (3 * i) (ls.flatMap (fun s => [remark comment, [], wideLine s]) ++ [[]]) = ((parseF pe out i ls).1, 3 * (parseF pe out i ls).2.1, (parseF pe out i ls).2.2)
  | [], out, i => by
    rw [List.flatMap_nil, List.nil_append]
    simp only [parseF, lineK_nil]; rfl
  | s :: ls, out, i => by
    rw [List.flatMap_cons, List.append_assoc, List.cons_append, List.cons_append, List.cons_append, List.nil_append, parseF, lineK_remark]
    simp only
    rw [parseF, lineK_nil]
    simp only
    rw [parseF, lineK_wide, parseF]
    cases lineK s with
    | skip =>
      have := parse_wide comment ls out (i + 1)
      rw [show 3 * (i + 1) = 3 * i + 1 + 1 + 1 by omega] at this
      exact this
    | bad => simp only; congr 2
    | rule r =>
      simp only
      split
      · have := parse_wide comment ls (out ++ [r]) (i + 1)
        rw [show 3 * (i + 1) = 3 * i + 1 + 1 + 1 by omega] at this
        exact this
      · simp only; congr 2
theorem layout_ok {s comment : Str} (hc : (10 : UInt8) ∉ comment) : parseT pe (wideOf comment (linesOf s)) = ((parseT pe s).1, 3 * (parseT pe s).2.1, (parseT pe s).2.2) := by
  rw [parseT, lines_wide hc _ (fun x hx => (mem_lines s x hx).1)]
  exact parse_wide comment (linesOf s) [] 0

/- Names. -/
theorem parse_app : ∀ (a b : List Str) (out rs : List Rule) (i : Nat), rulesOf a = some rs → chkR pe (out ++ rs) = 0 → parseF pe out i (a ++ b) = parseF pe (out ++ rs) (i + a.length) b
  | [], b, out, rs, i, h, _ => by simp only [rulesOf, Option.some.injEq] at h; subst h; simp
  | s :: a, b, out, rs, i, h, hc => by
    rw [rulesOf] at h
    rw [List.cons_append, parseF, List.length_cons]
    cases hk : lineK s with
    | skip => rw [hk] at h; simp only; rw [parse_app a b out rs (i + 1) h hc]; congr 1; omega
    | bad => rw [hk] at h; cases h
    | rule r =>
      rw [hk] at h
      simp only [Option.map_eq_some_iff] at h
      obtain ⟨t, ht, rfl⟩ := h
      have e : out ++ r :: t = out ++ [r] ++ t := by simp
      rw [e] at hc ⊢
      simp only [if_pos (chk_app hc)]
      rw [parse_app a b (out ++ [r]) t (i + 1) ht hc]; congr 1; omega
theorem chkFrom_congr {pa pb : Str → Int} : ∀ (l : List Rule) (used : List Str), (∀ r, r ∈ l → pa r.pat = pb r.pat) → chkFrom pa used l = chkFrom pb used l
  | [], _, _ => rfl
  | r :: l, used, h => by
    have h1 := h r (by simp)
    unfold chkFrom ruleE
    rw [h1, chkFrom_congr l _ (fun x hx => h x (by simp [hx]))]
theorem chk_congr {pa pb : Str → Int} {l : List Rule} (h : ∀ r, r ∈ l → pa r.pat = pb r.pat) : chkR pa l = chkR pb l := by
  unfold chkR; rw [chkFrom_congr l [] h]
def nLine (i : Nat) : Str := [114, UInt8.ofNat (97 + i)] ++ 32 :: (kNormal ++ [32, 34, 120, 34])
def nRule (i : Nat) : Rule := ⟨[114, UInt8.ofNat (97 + i)], [120], 0, 60, 2, 0⟩
def nRules (k : Nat) : List Rule := (List.range k).map nRule
def isRule (x : LK) (r : Rule) : Bool := match x with
  | .rule r' => decide (r' = r)
  | _ => false
theorem nLine_all : ∀ i : Fin 16, isRule (lineK (nLine i.val)) (nRule i.val) = true ∧ (10 : UInt8) ∉ nLine i.val := by decide +kernel
theorem nLine_rule {i : Nat} (h : i < 16) : lineK (nLine i) = .rule (nRule i) := by
  have := (nLine_all ⟨i, h⟩).1
  simp only at this
  cases hk : lineK (nLine i) with
  | rule r => rw [hk] at this; simp only [isRule, decide_eq_true_eq] at this; rw [this]
  | _ => rw [hk] at this; cases this
def pe0 : Str → Int := fun _ => 0
theorem nChk_all : ∀ k : Fin 17, chkR pe0 (nRules k.val) = 0 := by decide +kernel
theorem nChk_more : ∀ k : Fin 17, ∀ j : Fin 16, j.val < k.val → chkR pe0 (nRules k.val ++ [nRule j.val]) = if k.val = 16 then 5 else 7 := by decide +kernel
theorem nChk (hx : pe [120] = 0) {l : List Rule} (h : ∀ r, r ∈ l → r.pat = [120]) : chkR pe l = chkR pe0 l := chk_congr fun r hr => by rw [h r hr, hx]; rfl
def nLines (k : Nat) : List Str := (List.range k).map nLine
theorem nRules_pat (k : Nat) : ∀ r, r ∈ nRules k → r.pat = [120] := by
  intro r hr
  obtain ⟨i, _, rfl⟩ := List.mem_map.1 hr
  rfl
theorem rulesOf_map : ∀ l : List Nat, (∀ i, i ∈ l → i < 16) → rulesOf (l.map nLine) = some (l.map nRule)
  | [], _ => rfl
  | i :: l, h => by
    rw [List.map_cons, rulesOf, nLine_rule (h i (by simp)), rulesOf_map l (fun j hj => h j (by simp [hj]))]; rfl
theorem lines_join_all : ∀ (x : Str) (xs : List Str), (∀ y, y ∈ x :: xs → (10 : UInt8) ∉ y) → linesOf ((x :: xs).intersperse [10]).flatten = x :: xs
  | x, [], h => by simp [lines_one x (h x (by simp))]
  | x, y :: ys, h => by
    have := lines_join_all y ys (fun z hz => h z (by simp [hz]))
    rw [List.intersperse_cons_cons, List.flatten_cons, List.flatten_cons, List.singleton_append, lines_join, this, lines_one x (h x (by simp))]; rfl
theorem names_ok (hx : pe [120] = 0) {k j : Nat} (h1 : 1 ≤ k) (hk : k ≤ 16) (hj : j < k) {text : Str} (ht : linesOf text = nLines k) :
    parseT pe text = (nRules k, 0, 0) ∧ parseT pe (text ++ 10 :: nLine j) = ([], (k : Int) + 1, if k = 16 then 5 else 7) := by
  have hr : rulesOf (nLines k) = some (nRules k) := rulesOf_map _ (fun i hi => by have := List.mem_range.1 hi; omega)
  have hc : chkR pe ([] ++ nRules k) = 0 := by
    rw [List.nil_append, nChk hx (nRules_pat k)]; exact nChk_all ⟨k, by omega⟩
  refine ⟨?_, ?_⟩
  · rw [parseT, ht, parse_good _ [] _ 0 hr hc]; rfl
  · have hm := nChk_more ⟨k, by omega⟩ ⟨j, by omega⟩ hj
    simp only at hm
    have hm2 : chkR pe (nRules k ++ [nRule j]) = if k = 16 then 5 else 7 := by
      rw [nChk hx (fun r hr => by
        rcases List.mem_append.1 hr with h | h
        · exact nRules_pat k r h
        · simp at h; subst h; rfl)]; exact hm
    rw [parseT, lines_join, ht, lines_one (nLine j) (nLine_all ⟨j, by omega⟩).2, parse_app _ _ [] _ 0 hr hc, parseF, nLine_rule (by omega)]
    simp only [List.nil_append, hm2]
    rw [if_neg (by split <;> decide), show 0 + (nLines k).length = k by simp [nLines]]
end Rul
/- The text of rules: plain, no program. -/


set_option linter.unusedVariables false
set_option linter.unusedSimpArgs false
namespace Rul
open Go
variable {pe : Str → Int}

def wordC (n : Int) : Str := if n = 1 then kUrgent else if n = 2 then kNormal else if n = 3 then kLater else []
def waitT (r : Rule) : Str := if r.wait = 0 then [] else 32 :: (kWait ++ 32 :: Lib.itoa r.wait)
def rowsT (r : Rule) : Str := if r.lo = 0 ∧ r.hi = 60 then [] else 32 :: (kRows ++ 32 :: (Lib.itoa (r.lo + 1) ++ 45 :: Lib.itoa r.hi))
def frontT (r : Rule) : Str := r.name ++ 32 :: (wordC r.cls ++ (waitT r ++ (rowsT r ++ [32])))
def lineT (r : Rule) : Str := frontT r ++ 34 :: (r.pat ++ [34])
def fmt (l : List Rule) : Str := l.flatMap fun r => lineT r ++ [10]

/- Numerals. -/
def isDig (c : UInt8) : Prop := 48 ≤ c.toNat ∧ c.toNat ≤ 57
theorem dig_of {u : Nat} (h : u < 10) : (UInt8.ofNat (48 + u)).toNat = 48 + u := by simp; omega
theorem digs_all (u : Nat) : ∀ c, c ∈ Lib.decDigits u → isDig c := by
  induction u using Nat.strongRecOn with
  | ind u ih =>
    intro c hc
    rw [Lib.decDigits] at hc
    split at hc
    · rename_i h
      simp only [List.mem_singleton] at hc; subst hc
      unfold isDig; rw [dig_of h]; omega
    · rename_i h
      rcases List.mem_append.1 hc with hc | hc
      · exact ih (u / 10) (by omega) c hc
      · simp only [List.mem_singleton] at hc; subst hc
        unfold isDig; rw [dig_of (by omega)]; omega
theorem digs_val (u : Nat) : valOf (Lib.decDigits u) = u := by
  induction u using Nat.strongRecOn with
  | ind u ih =>
    rw [Lib.decDigits]
    split
    · rename_i h
      simp only [valOf, List.foldl_cons, List.foldl_nil, dig_of h]; omega
    · rename_i h
      have := ih (u / 10) (by omega)
      unfold valOf at this ⊢
      rw [List.foldl_append, this]
      simp only [List.foldl_cons, List.foldl_nil, dig_of (show u % 10 < 10 by omega)]
      omega
theorem digs_len (u : Nat) : ∀ k, u < 10 ^ (k + 1) → (Lib.decDigits u).length ≤ k + 1 := by
  induction u using Nat.strongRecOn with
  | ind u ih =>
    intro k hk
    rw [Lib.decDigits]
    split
    · simp
    · rename_i h
      cases k with
      | zero => simp at hk; omega
      | succ k =>
        have := ih (u / 10) (by omega) k (by rw [Nat.pow_succ] at hk; omega)
        simp only [List.length_append, List.length_singleton]; omega
theorem digs_ne (u : Nat) : Lib.decDigits u ≠ [] := by
  rw [Lib.decDigits]; split <;> simp
theorem digs_head (u : Nat) (h : 1 ≤ u) : (Lib.decDigits u).headD 0 ≠ 48 := by
  induction u using Nat.strongRecOn with
  | ind u ih =>
    rw [Lib.decDigits]
    split
    · rename_i h1
      simp only [List.headD_cons]
      intro e
      have := congrArg UInt8.toNat e
      rw [dig_of h1] at this
      have : 48 + u = 48 := this
      omega
    · rename_i h1
      have := ih (u / 10) (by omega) (by omega)
      cases hd : Lib.decDigits (u / 10) with
      | nil => exact absurd hd (digs_ne _)
      | cons x xs => rw [hd] at this; simpa using this
theorem digs_num {u : Nat} (h : u < 10 ^ 9) : numB (Lib.decDigits u) = true := by
  have h1 := digs_len u 8 h
  have h2 : digitsB (Lib.decDigits u) = true := by
    rw [digitsB, List.all_eq_true]
    intro c hc
    have := digs_all u c hc
    simp only [Bool.and_eq_true, decide_eq_true_eq]; exact this
  unfold numB
  rw [h2, decide_eq_false (digs_ne u), decide_eq_true h1]
  rcases Nat.eq_zero_or_pos u with rfl | hp
  · rw [show (Lib.decDigits 0).length = 1 by rw [Lib.decDigits]; rfl]; rfl
  · rw [decide_eq_false (digs_head u hp)]; simp
theorem itoa_num {n : Int} (h0 : 0 ≤ n) (h1 : n < 1000000000) : numB (Lib.itoa n) = true ∧ numOf (Lib.itoa n) = n ∧ ∀ c, c ∈ Lib.itoa n → isDig c := by
  have e : Lib.itoa n = Lib.decDigits n.toNat := by unfold Lib.itoa; rw [if_neg (by omega)]
  rw [e]
  have := digs_num (u := n.toNat) (by omega)
  refine ⟨this, ?_, digs_all _⟩
  rw [numOf, if_pos this, digs_val]; omega
theorem itoa_not {n : Int} (h0 : 0 ≤ n) (h1 : n < 1000000000) {c : UInt8} (hc : ¬ isDig c) : c ∉ Lib.itoa n := fun hm => hc ((itoa_num h0 h1).2.2 c hm)
theorem itoa_ne (n : Int) : Lib.itoa n ≠ [] := by
  unfold Lib.itoa; split
  · simp
  · exact digs_ne _

/- Words. -/
theorem words_word : ∀ (a cur : Str), (32 : UInt8) ∉ a → ∀ s, wordsF cur (a ++ s) = wordsF (cur ++ a) s
  | [], cur, _, s => by simp
  | c :: a, cur, h, s => by
    have h1 : c ≠ 32 := fun e => h (by simp [e])
    rw [List.cons_append, wordsF, if_neg h1, words_word a (cur ++ [c]) (fun e => h (by simp [e])) s]; simp
theorem words_cons {a : Str} (h : (32 : UInt8) ∉ a) (hne : a ≠ []) (s : Str) : wordsOf (a ++ 32 :: s) = a :: wordsOf s := by
  unfold wordsOf
  rw [words_word a [] h, List.nil_append, wordsF, if_pos rfl, if_neg hne]
/-- Words with a blank ahead of each but the first, and one at the end. -/
theorem words_list : ∀ (ws : List Str), (∀ w, w ∈ ws → (32 : UInt8) ∉ w ∧ w ≠ []) → wordsOf (ws.flatMap fun w => w ++ [32]) = ws
  | [], _ => rfl
  | w :: ws, h => by
    obtain ⟨h1, h2⟩ := h w (by simp)
    rw [List.flatMap_cons, List.append_assoc, List.singleton_append, words_cons h1 h2, words_list ws (fun x hx => h x (by simp [hx]))]
def optW (r : Rule) : List Str := if r.wait = 0 then [] else [kWait, Lib.itoa r.wait]
def optR (r : Rule) : List Str := if r.lo = 0 ∧ r.hi = 60 then [] else [kRows, Lib.itoa (r.lo + 1) ++ 45 :: Lib.itoa r.hi]
def wordsT (r : Rule) : List Str := r.name :: wordC r.cls :: (optW r ++ optR r)
theorem front_words (r : Rule) : frontT r = (wordsT r).flatMap fun w => w ++ [32] := by
  unfold frontT wordsT waitT rowsT optW optR
  by_cases h1 : r.wait = 0 <;> by_cases h2 : r.lo = 0 ∧ r.hi = 60 <;> simp [h1, h2]

/-- What a proper rule is. -/
structure Ok (pe : Str → Int) (r : Rule) : Prop where
  name : nameB r.name = true
  lo : 0 ≤ r.lo
  lt : r.lo < r.hi
  hi : r.hi ≤ 60
  cls : 1 ≤ r.cls ∧ r.cls ≤ 3
  wait : 0 ≤ r.wait ∧ r.wait ≤ 60000
  later : r.wait = 0 ∨ r.cls = 3
  line : (10 : UInt8) ∉ r.pat
theorem isIn_iff {c : UInt8} : ∀ l : Str, isIn l c = true ↔ c ∈ l
  | [] => by simp [isIn, Lib.indexByte]
  | x :: l => by
    have := isIn_iff (c := c) l
    simp only [isIn, decide_eq_true_eq] at this ⊢
    unfold Lib.indexByte
    by_cases h : x = c
    · subst h; simp
    · have h' : ¬ (x == c) = true := by simpa using h
      simp only [h', List.mem_cons]
      by_cases h2 : Lib.indexByte l c < 0
      · have h3 : ¬ c ∈ l := fun hm => by have := this.2 hm; omega
        simp [h2, h3, Ne.symm h]
        try omega
      · have h3 : c ∈ l := this.1 (by omega)
        simp [h2, h3]
        try omega
theorem ok_of : ∀ (l : List Rule) (used : List Str), chkFrom pe used l = 0 → ∀ r, r ∈ l → Ok pe r
  | [], _, _, r, h => by cases h
  | x :: l, used, h, r, hr => by
    unfold chkFrom at h
    split at h
    · omega
    · rename_i hn
      split at h
      · omega
      · split at h
        · rename_i h3
          rcases List.mem_cons.1 hr with rfl | hr
          · unfold ruleE at h3
            split at h3
            · omega
            · rename_i hc
              split at h3
              · omega
              · rename_i hb
                split at h3
                · omega
                · rename_i hl
                  simp only [rangeBad, waitBad, Bool.or_eq_true, decide_eq_true_eq, Bool.and_eq_true, Bool.not_eq_true', decide_eq_false_iff_not] at hb
                  refine ⟨by simpa using hn, by omega, by omega, by omega, by omega, by omega, ?_, fun hm => hl ((isIn_iff _).2 hm)⟩
                  by_cases hw : r.wait = 0
                  · exact .inl hw
                  · right
                    rcases Classical.em (r.cls = 3) with h5 | h5
                    · exact h5
                    · exfalso; apply hb; right; right; exact ⟨by omega, h5⟩
          · exact ok_of l _ h r hr
        · rename_i h3; exact absurd h h3
theorem name_chars {s : Str} (h : nameB s = true) : s ≠ [] ∧ (∀ c, c ∈ s → c ∈ signs) ∧ s.head? ≠ some 35 := by
  cases s with
  | nil => cases h
  | cons c s =>
    simp only [nameB, Bool.and_eq_true, decide_eq_true_eq, List.all_eq_true] at h
    refine ⟨by simp, fun d hd => (isIn_iff _).1 (h.2 d hd), ?_⟩
    have := (isIn_iff _).1 h.1.2
    intro e
    simp only [List.head?_cons, Option.some.injEq] at e
    subst e; revert this; decide
theorem word_facts {n : Int} (h : 1 ≤ n ∧ n ≤ 3) : classOf (wordC n) = n ∧ wordC n ≠ [] ∧ (32 : UInt8) ∉ wordC n ∧ (34 : UInt8) ∉ wordC n ∧ (10 : UInt8) ∉ wordC n := by
  rcases (by omega : n = 1 ∨ n = 2 ∨ n = 3) with rfl | rfl | rfl <;> decide
theorem words_ok {r : Rule} (h : Ok pe r) : ∀ w, w ∈ wordsT r → (32 : UInt8) ∉ w ∧ w ≠ [] ∧ (34 : UInt8) ∉ w ∧ (10 : UInt8) ∉ w := by
  have hn := name_chars h.name
  have hw := word_facts h.cls
  have hlo := h.lo; have hlt := h.lt; have hhi := h.hi; have hwt := h.wait
  intro w hm
  simp only [wordsT, List.mem_cons, List.mem_append] at hm
  rcases hm with rfl | rfl | hm | hm
  · exact ⟨fun e => by have := hn.2.1 _ e; revert this; decide, hn.1, fun e => by have := hn.2.1 _ e; revert this; decide, fun e => by have := hn.2.1 _ e; revert this; decide⟩
  · exact ⟨hw.2.2.1, hw.2.1, hw.2.2.2.1, hw.2.2.2.2⟩
  · unfold optW at hm
    split at hm
    · cases hm
    · simp only [List.mem_cons, List.not_mem_nil, or_false] at hm
      rcases hm with rfl | rfl
      · decide
      · exact ⟨itoa_not (by omega) (by omega) (by unfold isDig; decide), itoa_ne _, itoa_not (by omega) (by omega) (by unfold isDig; decide), itoa_not (by omega) (by omega) (by unfold isDig; decide)⟩
  · unfold optR at hm
    split at hm
    · cases hm
    · simp only [List.mem_cons, List.not_mem_nil, or_false] at hm
      rcases hm with rfl | rfl
      · decide
      · have key : ∀ c : UInt8, ¬ isDig c → c ≠ 45 → c ∉ Lib.itoa (r.lo + 1) ++ 45 :: Lib.itoa r.hi := by
          intro c hc h45 he
          rcases List.mem_append.1 he with he | he
          · exact itoa_not (by omega) (by omega) hc he
          · rcases List.mem_cons.1 he with he | he
            · exact h45 he
            · exact itoa_not (by omega) (by omega) hc he
        exact ⟨key 32 (by unfold isDig; decide) (by decide), by simp, key 34 (by unfold isDig; decide) (by decide), key 10 (by unfold isDig; decide) (by decide)⟩
theorem front_not {r : Rule} (h : Ok pe r) : (34 : UInt8) ∉ frontT r ∧ (10 : UInt8) ∉ frontT r := by
  rw [front_words]
  constructor <;> intro hm <;> obtain ⟨w, hw, h1⟩ := List.mem_flatMap.1 hm <;> rcases List.mem_append.1 h1 with h1 | h1
  · exact (words_ok h w hw).2.2.1 h1
  · revert h1; decide
  · exact (words_ok h w hw).2.2.2 h1
  · revert h1; decide
theorem trimR_end (s : Str) : trimR (s ++ [34]) = s ++ [34] := by simp [trimR]
theorem opt_wait (r : Rule) (h : Ok pe r) : ∃ w, optOf kWait (optW r ++ optR r) = (w, optR r) ∧ w.all numB = true ∧ optVal w = r.wait := by
  have hwt := h.wait
  unfold optW
  by_cases h1 : r.wait = 0
  · rw [if_pos h1, List.nil_append]
    refine ⟨none, ?_, rfl, h1.symm⟩
    unfold optR
    split
    · rfl
    · simp only [optOf]; rw [if_neg (by decide)]
  · rw [if_neg h1]
    have := itoa_num (n := r.wait) (by omega) (by omega)
    exact ⟨some (Lib.itoa r.wait), by simp [optOf], by simp [this.1], this.2.1⟩
theorem line_ok {r : Rule} (h : Ok pe r) : lineR (wordsT r) (r.pat ++ [34]) = (r, true) := by
  have hlo := h.lo; have hlt := h.lt; have hhi := h.hi
  unfold lineR
  rw [trimR_end, unquote_quote]
  obtain ⟨w, h1, h2, h3⟩ := opt_wait r h
  simp only [wordsT, h1, h2, h3, (word_facts h.cls).1]
  unfold optR
  by_cases h4 : r.lo = 0 ∧ r.hi = 60
  · rw [if_pos h4]
    simp only [optOf]
    obtain ⟨h5, h6⟩ := h4
    simp only [Bool.true_eq_false, if_false, decide_true, Prod.mk.injEq, and_true]
    cases r; simp only at h5 h6; subst h5 h6; rfl
  · rw [if_neg h4]
    have a := itoa_num (n := r.lo + 1) (by omega) (by omega)
    have b := itoa_num (n := r.hi) (by omega) (by omega)
    have hc : cutAt 45 (Lib.itoa (r.lo + 1) ++ 45 :: Lib.itoa r.hi) = (Lib.itoa (r.lo + 1), Lib.itoa r.hi, true) := cut_some 45 _ _ (itoa_not (by omega) (by omega) (by unfold isDig; decide))
    simp only [optOf, if_pos, rowsOk, hc, a.1, b.1, a.2.1, b.2.1, Bool.true_eq_false, if_false, Bool.and_true, decide_true, Prod.mk.injEq, and_true]
    rw [show r.lo + 1 - 1 = r.lo by omega]
theorem lineK_ok {r : Rule} (h : Ok pe r) : lineK (lineT r) = .rule r := by
  have hc : cutAt 34 (lineT r) = (frontT r, r.pat ++ [34], true) := cut_some 34 _ _ (front_not h).1
  have hw : wordsOf (frontT r) = wordsT r := by rw [front_words]; exact words_list _ fun w hw => ⟨(words_ok h w hw).1, (words_ok h w hw).2.1⟩
  unfold lineK
  rw [hc]
  simp only [hw, line_ok h]
  rw [if_neg]
  · simp
  · rintro (⟨h1, _⟩ | h1)
    · cases h1
    · exact (name_chars h.name).2.2 h1
theorem line_not {r : Rule} (h : Ok pe r) : (10 : UInt8) ∉ lineT r := by
  unfold lineT
  intro hm
  simp only [List.mem_append, List.mem_cons, List.not_mem_nil, or_false] at hm
  rcases hm with hm | hm | hm | hm
  · exact (front_not h).2 hm
  · revert hm; decide
  · exact h.line hm
  · revert hm; decide
theorem lines_fmt : ∀ l : List Rule, (∀ r, r ∈ l → Ok pe r) → linesOf (fmt l) = l.map lineT ++ [[]]
  | [], _ => rfl
  | r :: l, h => by
    have e : fmt (r :: l) = lineT r ++ 10 :: fmt l := by simp [fmt]
    rw [e, lines_join, lines_one _ (line_not (h r (by simp))), lines_fmt l (fun x hx => h x (by simp [hx]))]; rfl
theorem rulesOf_fmt : ∀ l : List Rule, (∀ r, r ∈ l → Ok pe r) → rulesOf (l.map lineT ++ [[]]) = some l
  | [], _ => by simp [rulesOf, lineK_nil]
  | r :: l, h => by
    rw [List.map_cons, List.cons_append, rulesOf, lineK_ok (h r (by simp)), rulesOf_fmt l (fun x hx => h x (by simp [hx]))]; rfl
/-- The text of proper rules reads as the rules. -/
theorem fmt_ok {l : List Rule} (h : chkR pe l = 0) : parseT pe (fmt l) = (l, 0, 0) ∧ (fmt l).count 10 = l.length := by
  have ho : ∀ r, r ∈ l → Ok pe r := by
    unfold chkR at h
    split at h
    · omega
    · exact ok_of l [] h
  have hl := lines_fmt l ho
  refine ⟨?_, ?_⟩
  · rw [parseT, hl, parse_good _ [] l 0 (rulesOf_fmt l ho) h]; rfl
  · have := lines_count (fmt l)
    rw [hl] at this
    simp at this; omega
end Rul
/- What the library's functions on strings give, as the plain functions on rules have it. -/













set_option linter.unusedVariables false
set_option linter.unusedSimpArgs false
namespace Rul
open Go Go.Lib

theorem ix_cons (b : UInt8) (s : Str) (c : UInt8) : index (b :: s) [c] = if b = c then 0 else if index s [c] = -1 then -1 else index s [c] + 1 := by
  rw [index_one, index_one, indexByte]
  simp only [beq_iff_eq]
theorem ix_none {s : Str} {c : UInt8} (h : c ∉ s) : index s [c] = -1 := by
  induction s with
  | nil => rfl
  | cons b s ih =>
    rw [ix_cons, if_neg (fun e => h (by simp [e])), ih (fun e => h (by simp [e])), if_pos rfl]
theorem ix_some : ∀ {s : Str} {c : UInt8}, c ∈ s → ∃ i : Nat, index s [c] = i ∧ i < s.length
  | b :: s, c, h => by
    rw [ix_cons]
    by_cases h1 : b = c
    · exact ⟨0, by rw [if_pos h1]; rfl, by simp⟩
    · obtain ⟨i, h2, h3⟩ := ix_some (s := s) (c := c) ((List.mem_cons.1 h).resolve_left (fun e => h1 e.symm))
      refine ⟨i + 1, ?_, by simp; omega⟩
      rw [if_neg h1, h2, if_neg (by omega)]; omega
theorem ix_shift {b c : UInt8} {s : Str} (h : b ≠ c) {i : Nat} (hi : index s [c] = i) : index (b :: s) [c] = ((i + 1 : Nat) : Int) := by
  rw [ix_cons, if_neg h, hi, if_neg (by omega)]; rfl
theorem ix_zero {c : UInt8} {s : Str} : index (c :: s) [c] = ((0 : Nat) : Int) := by rw [ix_cons, if_pos rfl]; rfl
theorem ne_miss (i : Nat) : ¬ (((i : Nat) : Int) == -1) = true := by simp
theorem split_lines : ∀ s : Str, splitK [10] 0 (s.count 10) s = linesOf s
  | [] => rfl
  | b :: s => by
    by_cases hb : b = 10
    · subst hb
      rw [List.count_cons_self, splitK, ix_zero, if_neg (ne_miss 0), linesOf, if_pos rfl, ← split_lines s]; rfl
    · rw [List.count_cons_of_ne hb, linesOf, if_neg hb]
      by_cases hm : (10 : UInt8) ∈ s
      · obtain ⟨k, hk⟩ : ∃ k, s.count 10 = k + 1 := ⟨s.count 10 - 1, by have := List.count_pos_iff.2 hm; omega⟩
        obtain ⟨i, hi, hl⟩ := ix_some hm
        have ih := split_lines s
        rw [hk] at ih ⊢
        rw [splitK, hi, if_neg (ne_miss i)] at ih
        rw [splitK, ix_shift hb hi, if_neg (ne_miss (i + 1)), ← ih]
        simp only [List.headD_cons, List.tail_cons, Int.toNat_natCast, Nat.add_zero, List.take_succ_cons, List.length_singleton, List.drop_succ_cons]
      · rw [List.count_eq_zero.2 hm, lines_one s hm]; rfl
theorem cut_eq (q : UInt8) : ∀ s : Str, cut s [q] = cutAt q s
  | [] => rfl
  | b :: s => by
    have ih := cut_eq q s
    rw [cutAt, ← ih]
    by_cases hb : b = q
    · subst hb
      rw [if_pos rfl, cut, ix_zero]; simp
    · rw [if_neg hb]
      by_cases hm : q ∈ s
      · obtain ⟨i, hi, hl⟩ := ix_some hm
        simp only [cut, ix_shift hb hi, hi, Int.toNat_natCast]
        rw [if_pos (by omega), if_pos (by omega)]
        simp [Nat.add_right_comm]
      · have h2 : q ∉ b :: s := fun e => (List.mem_cons.1 e).elim (fun e => hb e.symm) hm
        simp only [cut, ix_none h2, ix_none hm]
        rw [if_neg (by decide), if_neg (by decide)]
theorem repl_eq : ∀ s : Str, replaceK [32] [32, 32, 32] (s.count 32) s = repl s
  | [] => rfl
  | b :: s => by
    by_cases hb : b = 32
    · subst hb
      rw [List.count_cons_self, replaceK, ix_zero, if_neg (ne_miss 0)]
      have := repl_eq s
      simp only [repl, List.flatMap_cons] at this ⊢
      rw [← this]; rfl
    · rw [List.count_cons_of_ne hb]
      have ih := repl_eq s
      by_cases hm : (32 : UInt8) ∈ s
      · obtain ⟨k, hk⟩ : ∃ k, s.count 32 = k + 1 := ⟨s.count 32 - 1, by have := List.count_pos_iff.2 hm; omega⟩
        obtain ⟨i, hi, hl⟩ := ix_some hm
        rw [hk] at ih ⊢
        rw [replaceK, hi, if_neg (ne_miss i)] at ih
        rw [replaceK, ix_shift hb hi, if_neg (ne_miss (i + 1))]
        simp only [repl, List.flatMap_cons, if_neg hb] at ih ⊢
        rw [← ih]
        simp only [Int.toNat_natCast, List.take_succ_cons, List.length_singleton, List.drop_succ_cons, List.cons_append, List.nil_append]
      · rw [List.count_eq_zero.2 hm]
        show b :: s = _
        simp only [repl, List.flatMap_cons, if_neg hb]
        rw [List.count_eq_zero.2 hm] at ih
        simp only [repl] at ih
        rw [← ih]; rfl
theorem replaceAll_eq (s : Str) : replaceAll s [32] [32, 32, 32] = repl s := by
  unfold replaceAll replace
  rw [if_neg (by decide), replaceNum, if_pos (.inl (by decide)), count_one, repl_eq]

/- Words. -/
theorem dec_facts (n b0 b1 b2 b3 : Nat) (hn : 1 ≤ n) : (b0 = 32 → decodeN n b0 b1 b2 b3 = (32, 1)) ∧ (b0 ≠ 32 → (decodeN n b0 b1 b2 b3).1 ≠ 32) ∧ (1 < (decodeN n b0 b1 b2 b3).2 → b1 / 64 = 2) ∧
    (2 < (decodeN n b0 b1 b2 b3).2 → b2 / 64 = 2) ∧ (3 < (decodeN n b0 b1 b2 b3).2 → b3 / 64 = 2) ∧ 1 ≤ (decodeN n b0 b1 b2 b3).2 ∧ (decodeN n b0 b1 b2 b3).2 ≤ 4 ∧ (decodeN n b0 b1 b2 b3).2 ≤ n := by
  unfold decodeN
  repeat' split
  all_goals (simp only [Prod.mk.injEq, ne_eq, and_true]; omega)
theorem pieces (l : Str) (pos w : Nat) (hw : w ≤ 4) (hp : pos + w ≤ l.length) (h0 : 0 < w → (l.getD pos 0).toNat ≠ 32) (h1 : 1 < w → (l.getD (pos + 1) 0).toNat / 64 = 2) (h2 : 2 < w → (l.getD (pos + 2) 0).toNat / 64 = 2)
    (h3 : 3 < w → (l.getD (pos + 3) 0).toNat / 64 = 2) : (32 : UInt8) ∉ (l.drop pos).take w := by
  intro hm
  obtain ⟨j, hj, he⟩ := List.getElem_of_mem hm
  simp only [List.length_take, List.length_drop] at hj
  simp only [List.getElem_take, List.getElem_drop] at he
  have hg : l.getD (pos + j) 0 = 32 := by rw [List.getD_eq_getElem?_getD, List.getElem?_eq_getElem (by omega)]; simpa using he
  have hj4 : j = 0 ∨ j = 1 ∨ j = 2 ∨ j = 3 := by omega
  rcases hj4 with rfl | rfl | rfl | rfl
  · exact h0 (by omega) (by rw [Nat.add_zero] at hg; rw [hg]; rfl)
  · have := h1 (by omega); rw [hg] at this; revert this; decide
  · have := h2 (by omega); rw [hg] at this; revert this; decide
  · have := h3 (by omega); rw [hg] at this; revert this; decide
def blank (r : Nat) : Bool := decide (r = 32)
theorem spans_words (s : ByteArray) : ∀ (f pos : Nat) (st : Option Nat) (acc : List (Nat × Nat)), s.size ≤ pos + f → pos ≤ s.size → (∀ a, st = some a → a < pos) →
    acc.map (fun p => pieceU s.data.toList p.1 p.2) ++ wordsF (openPiece s.data.toList st pos) (s.data.toList.drop pos) = (closeSpans s (spansFromP blank s f pos st acc)).map (fun p => pieceU s.data.toList p.1 p.2) := by
  have fin : ∀ (st : Option Nat) (acc : List (Nat × Nat)), (∀ a, st = some a → a < s.size) →
      acc.map (fun p => pieceU s.data.toList p.1 p.2) ++ wordsF (openPiece s.data.toList st s.size) (s.data.toList.drop s.size) = (closeSpans s (acc, st)).map (fun p => pieceU s.data.toList p.1 p.2) := by
    intro st acc hst
    have hd : s.data.toList.drop s.size = [] := List.drop_eq_nil_of_le (by rw [← size_eq]; exact Nat.le_refl _)
    rw [hd, wordsF]
    cases st with
    | none => simp [closeSpans, openPiece]
    | some a =>
      have := pieceU_ne s.data.toList a s.size (hst a rfl) (by rw [← size_eq]; exact Nat.le_refl _)
      simp [closeSpans, openPiece, this]
  intro f
  induction f with
  | zero =>
    intro pos st acc h hp hst
    obtain rfl : pos = s.size := by omega
    exact fin st acc hst
  | succ f ihf =>
    intro pos st acc h hp hst
    by_cases hlt : pos < s.size
    · have hlen : pos < s.data.toList.length := by rw [← size_eq]; exact hlt
      have hcons : s.data.toList.drop pos = s.data.toList.getD pos 0 :: s.data.toList.drop (pos + 1) := by
        rw [List.drop_eq_getElem_cons hlen, List.getD_eq_getElem?_getD, List.getElem?_eq_getElem hlen]; rfl
      obtain ⟨d1, d2, d3, d4, d5, d6, d7, d8⟩ := dec_facts (s.data.toList.length - pos) (s.data.toList.getD pos 0).toNat (s.data.toList.getD (pos + 1) 0).toNat (s.data.toList.getD (pos + 2) 0).toNat (s.data.toList.getD (pos + 3) 0).toNat (by omega)
      rw [← decode_N] at d1 d2 d3 d4 d5 d6 d7 d8
      have hwn : pos + (Utf8.decode s pos).2 ≤ s.size := by rw [size_eq]; omega
      simp only [spansFromP, if_pos hlt]
      by_cases hb : (s.data.toList.getD pos 0).toNat = 32
      · have e := d1 hb
        have hb' : s.data.toList.getD pos 0 = 32 := UInt8.toNat_inj.1 hb
        rw [e] at hwn ⊢
        simp only [blank, decide_true, if_true]
        rw [hcons, hb', wordsF, if_pos rfl]
        cases st with
        | none =>
          have ih := ihf (pos + 1) none acc (by omega) hwn (fun a h => by cases h)
          simpa [openPiece] using ih
        | some a =>
          have hpn := pieceU_ne s.data.toList a pos (hst a rfl) (by rw [← size_eq]; omega)
          have ih := ihf (pos + 1) none (acc ++ [(a, pos)]) (by omega) hwn (fun a h => by cases h)
          simpa [openPiece, hpn] using ih
      · have e := d2 hb
        have hbl : blank (Utf8.decode s pos).1 = false := by unfold blank; rw [decide_eq_false e]
        rw [hbl]
        simp only [Bool.false_eq_true, if_false]
        have hnot := pieces s.data.toList pos (Utf8.decode s pos).2 d7 (by rw [← size_eq]; exact hwn) (fun _ => hb) d3 d4 d5
        have hsplit : s.data.toList.drop pos = (s.data.toList.drop pos).take (Utf8.decode s pos).2 ++ s.data.toList.drop (pos + (Utf8.decode s pos).2) := by
          rw [← List.drop_drop, List.take_append_drop]
        rw [hsplit, words_word _ _ hnot]
        cases st with
        | none =>
          have ih := ihf (pos + (Utf8.decode s pos).2) (some pos) acc (by omega) hwn (fun a h => by cases h; omega)
          have e : ([] : List UInt8) ++ (s.data.toList.drop pos).take (Utf8.decode s pos).2 = pieceU s.data.toList pos (pos + (Utf8.decode s pos).2) := by
            unfold pieceU
            rw [List.nil_append, Nat.add_sub_cancel_left]
          simp only [openPiece] at ih ⊢
          rw [e]
          exact ih
        | some a =>
          have ih := ihf (pos + (Utf8.decode s pos).2) (some a) acc (by omega) hwn (fun b h => by cases h; have := hst a rfl; omega)
          simp only [openPiece] at ih ⊢
          rw [pieceU_grow _ _ _ _ (Nat.le_of_lt (hst a rfl))]
          exact ih
    · obtain rfl : pos = s.size := by omega
      rw [spansFromP_end blank s _ _ _ _ hlt]
      exact fin st acc hst
theorem fields_words (s : ByteArray) : (goFieldsP blank s).map (·.data.toList) = wordsOf s.data.toList := by
  have h := spans_words s s.size 0 none [] (by omega) (Nat.zero_le _) (fun a h => by cases h)
  simp only [List.map_nil, List.nil_append, openPiece, List.drop_zero] at h
  unfold wordsOf goFieldsP spansOfP
  rw [h, List.map_map]
  congr 1
  funext p
  simp [pieceU]

/- Ends. -/
theorem trimR_eq (s : Str) : trimRightB s 32 = trimR s := rfl
theorem suffix_eq (s : Str) : hasSuffix s [34] = (unquote s).isSome ∧ ∀ t, unquote s = some t → trimSuffix s [34] = t := by
  have key : ∀ r : Str, s = r.reverse → hasSuffix s [34] = (unquote s).isSome ∧ ∀ t, unquote s = some t → trimSuffix s [34] = t := by
    intro r hr
    subst hr
    cases r with
    | nil => simp [unquote, hasSuffix]
    | cons c r =>
      have hu : unquote (c :: r).reverse = if c = 34 then some r.reverse else none := by
        unfold unquote
        rw [List.reverse_reverse]
        by_cases h : c = 34
        · subst h; rfl
        · rw [if_neg h]
          split
          · rename_i heq; cases heq; exact absurd rfl h
          · rfl
      have hs : hasSuffix (c :: r).reverse [34] = decide (c = 34) := by
        rw [Bool.eq_iff_iff, decide_eq_true_eq, hasSuffix, List.isSuffixOf_iff_suffix, List.reverse_cons]
        constructor
        · rintro ⟨t, ht⟩
          have := List.append_inj' ht rfl
          simpa using this.2.symm
        · rintro rfl; exact ⟨r.reverse, rfl⟩
      rw [hu]
      unfold trimSuffix
      rw [hs]
      by_cases h : c = 34
      · subst h; simp
      · simp [h]
  exact key s.reverse (by simp)
def numerals : Str := [48, 49, 50, 51, 52, 53, 54, 55, 56, 57]
theorem digit_in : ∀ n : Fin 256, numerals.contains (UInt8.ofNat n.val) = (decide (48 ≤ n.val) && decide (n.val ≤ 57)) := by decide +kernel
theorem digit_eq (c : UInt8) : numerals.contains c = (decide (48 ≤ c.toNat) && decide (c.toNat ≤ 57)) := by
  have := digit_in ⟨c.toNat, c.toNat_lt⟩
  simpa using this
theorem trim_digits (s : Str) : decide (trimS s numerals = []) = digitsB s := by
  have h1 : digitsB s = s.all (numerals.contains ·) := by unfold digitsB; congr 1; funext c; rw [digit_eq]
  rw [h1, Bool.eq_iff_iff, decide_eq_true_eq, List.all_eq_true]
  unfold trimS trimLeftS trimRightS
  have nil_iff : ∀ (p : UInt8 → Bool) (l : Str), l.dropWhile p = [] ↔ ∀ x, x ∈ l → p x = true := by
    intro p l
    induction l with
    | nil => simp
    | cons x l ih =>
      by_cases h : p x = true
      · simp [List.dropWhile_cons, h, ih]
      · simp [List.dropWhile_cons, h]
  have tw : ∀ (p : UInt8 → Bool) (l : Str) (x : UInt8), x ∈ l.takeWhile p → p x = true := by
    intro p l x
    induction l with
    | nil => simp
    | cons y l ih =>
      rw [List.takeWhile_cons]
      split
      · rename_i h
        intro hx
        rcases List.mem_cons.1 hx with rfl | hx
        · exact h
        · exact ih hx
      · simp
  rw [nil_iff]
  constructor
  · intro h c hc
    by_cases hx : numerals.contains c = true
    · exact hx
    · exfalso
      have : c ∈ (s.reverse.dropWhile (numerals.contains ·)).reverse := by
        rw [List.mem_reverse]
        have hm : c ∈ s.reverse.takeWhile (numerals.contains ·) ++ s.reverse.dropWhile (numerals.contains ·) := by rw [List.takeWhile_append_dropWhile]; simpa using hc
        rcases List.mem_append.1 hm with hm | hm
        · exact absurd (tw _ _ _ hm) hx
        · exact hm
      exact hx (h c this)
  · intro h c hc
    rw [List.mem_reverse] at hc
    exact h c (by have := (List.dropWhile_suffix (l := s.reverse) (numerals.contains ·)).subset hc; simpa using this)
theorem dec_val : ∀ (s : Str) (acc : Nat), digitsB s = true → ∃ m : Nat, decFrom acc s = some m ∧ (m : Int) = s.foldl (fun n c => n * 10 + ((c.toNat : Int) - 48)) (acc : Int)
  | [], acc, _ => ⟨acc, rfl, rfl⟩
  | b :: s, acc, h => by
    simp only [digitsB, List.all_cons, Bool.and_eq_true, decide_eq_true_eq] at h
    obtain ⟨m, h1, h2⟩ := dec_val s (acc * 10 + (b.toNat - 48)) h.2
    refine ⟨m, ?_, ?_⟩
    · rw [decFrom, digitVal, if_pos h.1]; exact h1
    · rw [h2, List.foldl_cons]
      congr 1
      omega
theorem atoi_num {s : Str} (h : numB s = true) : atoi s = some (valOf s) := by
  have h0 := h
  simp only [numB, Bool.and_eq_true, Bool.not_eq_true', decide_eq_false_iff_not] at h
  obtain ⟨⟨⟨hne, _⟩, _⟩, hd⟩ := h
  cases s with
  | nil => exact absurd rfl hne
  | cons b s =>
    have hb : 48 ≤ b.toNat ∧ b.toNat ≤ 57 := by
      simp only [digitsB, List.all_cons, Bool.and_eq_true, decide_eq_true_eq] at hd; exact hd.1
    obtain ⟨m, h1, h2⟩ := dec_val (b :: s) 0 hd
    have n1 : ¬ (b == 45) = true := by
      intro e; have e' : b = 45 := by simpa using e
      subst e'; revert hb; decide
    have n2 : ¬ (b == 43) = true := by
      intro e; have e' : b = 43 := by simpa using e
      subst e'; revert hb; decide
    rw [atoi, if_neg n1, if_neg n2, decNat]
    simp only [List.isEmpty_cons, Bool.false_eq_true, if_false, h1, Option.map_some, Option.some.injEq]
    rw [h2]; rfl
end Rul
