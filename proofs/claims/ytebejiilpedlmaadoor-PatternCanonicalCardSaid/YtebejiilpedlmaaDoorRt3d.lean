/- Part of a proof about the functions of this seat. -/
import Derived.Test.YtebejiilpedlmaaDoorQG3d
import Derived.Test.YtebejiilpedlmaaDoorPatA
set_option linter.unusedVariables false
set_option linter.unusedSimpArgs false
set_option maxRecDepth 100000
namespace Go.Proofs.YtebejiilpedlmaaDoor
open Go Nv Pat

/- A tree's canonical pattern reads as the tree. -/

/-- What the sorting of ranges must keep: a list that ascends stays. -/
def SortOK (sort : List (Int × Int) → List (Int × Int)) : Prop := ∀ s, List.Pairwise (fun p q : Int × Int => p.1 < q.1) s → sort s = s

theorem rgB_ok {r : Int × Int} (h : rgB r = true) : charB r.1 = true ∧ charB r.2 = true ∧ r.1 ≤ r.2 ∧ (r.1 < 55296 ↔ r.2 < 55296) := by
  simp only [rgB, Bool.and_eq_true, decide_eq_true_eq, beq_iff_eq, decide_eq_decide] at h
  exact ⟨h.1.1.1, h.1.1.2, h.1.2, h.2⟩
theorem clip_rg {r : Int × Int} (h : rgB r = true) : clipS r.1 r.2 = [r] := by
  obtain ⟨h1, h2, h3, h4⟩ := rgB_ok h
  rw [charB_iff] at h1 h2
  unfold clipS clip1
  by_cases hl : r.1 < 55296
  · have hr := h4.1 hl
    rw [if_pos (by simp only; omega), if_neg (by simp only; omega)]
    simp only [List.append_nil, List.cons.injEq, and_true]
    rw [show max r.1 0 = r.1 by omega, show min r.2 55295 = r.2 by omega]
  · have hr : ¬ r.2 < 55296 := fun h => hl (h4.2 h)
    rw [if_neg (by simp only; omega), if_pos (by simp only; omega)]
    simp only [List.nil_append, List.cons.injEq, and_true]
    rw [show max r.1 57344 = r.1 by omega, show min r.2 1114111 = r.2 by omega]

/-- The ranges of a proper set ascend, with a gap between two. -/
theorem properFrom_ok : ∀ (s : List (Int × Int)) (q : Option Int), properFrom q s = true → (∀ r, r ∈ s → rgB r = true) ∧ List.Pairwise (fun p r : Int × Int => p.2 + 2 ≤ r.1) s ∧ ∀ z, q = some z → ∀ r, r ∈ s → z + 2 ≤ r.1
  | [], q, _ => ⟨by simp, .nil, by simp⟩
  | r :: l, q, h => by
    have key : rgB r = true ∧ properFrom (some r.2) l = true ∧ ∀ z, q = some z → z + 2 ≤ r.1 := by
      cases q with
      | none => simp only [properFrom, Bool.and_eq_true] at h; exact ⟨h.1, h.2, by simp⟩
      | some z => simp only [properFrom, Bool.and_eq_true, decide_eq_true_eq] at h; exact ⟨h.1.1, h.2, fun y hy => by cases hy; omega⟩
    obtain ⟨k1, k2, k3⟩ := key
    obtain ⟨h1, h2, h3⟩ := properFrom_ok l (some r.2) k2
    have hr := rgB_ok k1
    refine ⟨fun y hy => ?_, .cons (fun y hy => ?_) h2, fun z hz y hy => ?_⟩
    · rcases List.mem_cons.1 hy with rfl | hy
      · exact k1
      · exact h1 y hy
    · exact h3 r.2 rfl y hy
    · rcases List.mem_cons.1 hy with rfl | hy
      · exact k3 z hz
      · have := h3 r.2 rfl y hy
        have := k3 z hz
        omega
theorem proper_ok {s : List (Int × Int)} (h : properB s = true) : (∀ r, r ∈ s → rgB r = true) ∧ List.Pairwise (fun p r : Int × Int => p.2 + 2 ≤ r.1) s := by
  obtain ⟨h1, h2, _⟩ := properFrom_ok s none h
  exact ⟨h1, h2⟩
theorem getD_last {α : Type} [Inhabited α] (l : List α) (x : α) : (l ++ [x]).getD ((l ++ [x]).length - 1) default = x := by simp [List.getD_eq_getElem?_getD]
theorem joinR_snoc (l : List (Int × Int)) (q r : Int × Int) : joinR (l ++ [q]) r = if r.1 ≤ q.2 + 1 then l ++ [(q.1, max q.2 r.2)] else l ++ [q, r] := by
  unfold joinR
  rw [getD_last]
  by_cases h : r.1 ≤ q.2 + 1
  · rw [if_pos ⟨by simp, h⟩, if_pos h]
    simp [List.set_append_right]
  · rw [if_neg (by simp [h]), if_neg h]; simp
theorem joinR_nil (r : Int × Int) : joinR [] r = [r] := by simp [joinR]
theorem fold_apart : ∀ (s acc : List (Int × Int)), List.Pairwise (fun p r : Int × Int => p.2 + 2 ≤ r.1) (acc ++ s) → s.foldl joinR acc = acc ++ s
  | [], acc, _ => by simp
  | r :: s, acc, h => by
    have e : joinR acc r = acc ++ [r] := by
      rcases List.eq_nil_or_concat acc with rfl | ⟨l, q, rfl⟩
      · rw [joinR_nil]; rfl
      · rw [List.concat_eq_append] at h ⊢
        rw [joinR_snoc, if_neg]
        · simp
        · have : q.2 + 2 ≤ r.1 := by
            rw [List.append_assoc, List.pairwise_append] at h
            have h2 := h.2.1
            simp only [List.cons_append, List.nil_append, List.pairwise_cons] at h2
            exact h2.1 r (by simp)
          omega
    rw [List.foldl_cons, e, fold_apart s (acc ++ [r]) (by simpa using h)]
    simp
theorem norm_proper {sort : List (Int × Int) → List (Int × Int)} (hs : SortOK sort) {s : List (Int × Int)} (h : properB s = true) : normS sort s = s := by
  obtain ⟨h1, h2⟩ := proper_ok h
  have : List.Pairwise (fun p q : Int × Int => p.1 < q.1) s := by
    refine List.Pairwise.imp_of_mem (fun {a b} ha hb hab => ?_) h2
    have := (rgB_ok (h1 a ha)).2.2.1
    omega
  rw [normS, hs s this, fold_apart s [] (by simpa using h2)]; rfl

/- letters -/
theorem let_esc (c : Int) (r : List Int) : letP (escC c insd ++ r) = some (c, r) := by
  unfold escC
  split
  · simp [letP, oneP]
  · rename_i h
    simp only [insd, List.mem_cons, List.not_mem_nil, or_false, not_or] at h
    simp only [List.cons_append, List.nil_append, letP]
    rw [if_neg h.1, if_neg (by omega)]
theorem head_esc (c : Int) (r : List Int) : (escC c insd ++ r).headD (-1) ≠ 93 ∧ (escC c insd ++ r).headD (-1) ≠ 45 ∧ (escC c insd ++ r).headD (-1) ≠ 94 := by
  unfold escC
  split
  · simp
  · rename_i h
    simp only [insd, List.mem_cons, List.not_mem_nil, or_false, not_or] at h
    simp only [List.cons_append, List.nil_append, List.headD_cons]
    omega
theorem head_item (q : Int × Int) (r : List Int) : (itemC q ++ r).headD (-1) ≠ 93 ∧ (itemC q ++ r).headD (-1) ≠ 45 ∧ (itemC q ++ r).headD (-1) ≠ 94 := by
  rw [itemC, List.append_assoc]; exact head_esc _ _
theorem item_read {q : Int × Int} (hq : q.1 ≤ q.2) {r : List Int} (hr : r.headD (-1) ≠ 45) : itemP (itemC q ++ r) = some (q, r) := by
  obtain ⟨a, b⟩ := q
  simp only at hq
  by_cases h : a < b
  · have e : itemC (a, b) ++ r = escC a insd ++ (45 :: (escC b insd ++ r)) := by simp [itemC, h]
    rw [e, itemP, let_esc]
    simp only [List.headD_cons, if_true, List.tail_cons, let_esc, Option.map_some]
  · have e : itemC (a, b) ++ r = escC a insd ++ r := by simp [itemC, h]
    obtain rfl : a = b := by omega
    rw [e, itemP, let_esc]
    simp only [hr, if_false]
theorem cls_read : ∀ (s : List (Int × Int)) (f : Nat) (acc : List (Int × Int)) (r : List Int), (∀ q, q ∈ s → rgB q = true) → (acc ≠ [] ∨ s ≠ []) → s.length < f → clsP f acc (itemsC s ++ 93 :: r) = some (acc ++ s, r)
  | [], f, acc, r, _, hne, hf => by
    cases f with
    | zero => simp at hf
    | succ f =>
      have ha : acc ≠ [] := by simpa using hne
      simp [clsP, itemsC, ha]
  | q :: s, f, acc, r, hs, hne, hf => by
    cases f with
    | zero => simp at hf
    | succ f =>
      have hq := hs q (by simp)
      have e : itemsC (q :: s) ++ 93 :: r = itemC q ++ (itemsC s ++ 93 :: r) := by simp [itemsC]
      have hr : (itemsC s ++ 93 :: r).headD (-1) ≠ 45 := by
        cases s with
        | nil => simp [itemsC]
        | cons p s =>
          rw [show itemsC (p :: s) ++ 93 :: r = itemC p ++ (itemsC s ++ 93 :: r) by simp [itemsC]]
          exact (head_item p _).2.1
      rw [e, clsP, if_neg (fun h => (head_item q _).1 h.2), item_read (rgB_ok hq).2.2.1 hr]
      simp only
      rw [if_neg (by have := (rgB_ok hq).2.2.1; omega), clip_rg hq, cls_read s f (acc ++ [q]) r (fun p hp => hs p (by simp [hp])) (.inl (by simp)) (by simp at hf; omega)]
      simp
theorem items_len (s : List (Int × Int)) : s.length ≤ (itemsC s).length := by
  induction s with
  | nil => simp [itemsC]
  | cons q s ih =>
    have : 1 ≤ (itemC q).length := by unfold itemC escC; split <;> simp <;> omega
    simp only [itemsC, List.flatMap_cons, List.length_append, List.length_cons] at ih ⊢
    omega
theorem class_read {sort : List (Int × Int) → List (Int × Int)} (hs : SortOK sort) {s : List (Int × Int)} (h : properB s = true) (hne : s ≠ []) (r : List Int) : classP sort (itemsC s ++ 93 :: r) = some (s, r) := by
  obtain ⟨h1, h2⟩ := proper_ok h
  have hl := items_len s
  have hh : (itemsC s ++ 93 :: r).headD (-1) ≠ 94 := by
    cases s with
    | nil => exact absurd rfl hne
    | cons p s =>
      rw [show itemsC (p :: s) ++ 93 :: r = itemC p ++ (itemsC s ++ 93 :: r) by simp [itemsC]]
      exact (head_item p _).2.2
  rw [classP, if_neg hh, cls_read s _ [] r h1 (.inr hne) (by simp; omega)]
  simp only [Option.map_some, List.nil_append, norm_proper hs h]
theorem class_none {sort : List (Int × Int) → List (Int × Int)} (hs : SortOK sort) (r : List Int) : classP sort (94 :: (itemsC allS ++ 93 :: r)) = some ([], r) := by
  have h1 : properB allS = true := by decide
  obtain ⟨h2, _⟩ := proper_ok h1
  have hl := items_len allS
  rw [classP, if_pos (by rfl), List.tail_cons, cls_read allS _ [] r h2 (.inr (by simp [allS])) (by simp; omega)]
  simp only [Option.map_some, List.nil_append, norm_proper hs h1]
  rfl

/- sets -/
/-- How a part of a join may begin. -/
def Begins (l : List Int) : Prop := ∃ c t, l = c :: t ∧ 0 ≤ c ∧ c ≠ 42 ∧ c ≠ 43 ∧ c ≠ 63 ∧ c ≠ 123 ∧ c ≠ 124 ∧ c ≠ 41
theorem set_begins {s : List (Int × Int)} (h : properB s = true) (r : List Int) : Begins (setC s ++ r) := by
  obtain ⟨h1, _⟩ := proper_ok h
  unfold setC
  split
  · exact ⟨46, _, rfl, by omega⟩
  split
  · exact ⟨91, _, rfl, by omega⟩
  split
  · rename_i h2
    unfold escC
    split
    · exact ⟨92, _, rfl, by omega⟩
    · rename_i h3
      have hm : s.headD default ∈ s := by
        cases s with
        | nil => simp at h2
        | cons q s => simp
      have hc := (rgB_ok (h1 _ hm)).1
      rw [charB_iff] at hc
      simp only [spec, List.mem_cons, List.not_mem_nil, or_false, not_or] at h3
      exact ⟨_, _, rfl, by omega⟩
  · exact ⟨91, _, rfl, by omega⟩
theorem set_read {sort : List (Int × Int) → List (Int × Int)} (hs : SortOK sort) (ch : List Int → Option (Tree × List Int)) {s : List (Int × Int)} (h : properB s = true) (r : List Int) : atomP sort ch (setC s ++ r) = some (setT s, r) := by
  obtain ⟨h1, _⟩ := proper_ok h
  unfold setC
  split
  · rename_i e; subst e; simp [atomP]
  split
  · rename_i e; subst e
    have := class_none hs r
    simp only [List.cons_append, List.nil_append, List.append_assoc, atomP]
    simp [this]
  split
  · rename_i h2
    obtain ⟨a, rfl⟩ : ∃ a, s = [(a, a)] := by
      match s, h2 with
      | [(a, b)], h2 => simp only [List.headD_cons] at h2; exact ⟨a, by rw [h2.2]⟩
    simp only [List.headD_cons]
    unfold escC
    split
    · simp [atomP]
    · rename_i h3
      have h3' := h3
      simp only [spec, List.mem_cons, List.not_mem_nil, or_false, not_or] at h3
      simp only [List.cons_append, List.nil_append, atomP]
      rw [if_neg (by omega), if_neg (by omega), if_neg (by omega), if_neg (by omega), if_neg h3']
  · rename_i _ hne _
    have := class_read hs h hne r
    simp only [List.cons_append, List.append_assoc, List.nil_append, atomP]
    simp [this]

/- numbers -/
theorem num_read {n : Int} (h0 : 0 ≤ n) (h20 : n ≤ 20) {c : Int} (hc : digit c = false) (r : List Int) : numP (numC n ++ c :: r) = some (n, c :: r) := by
  have stop : ∀ z, numL (c :: r) z = (z, c :: r) := fun z => by simp [numL, hc]
  unfold numC
  split
  · rename_i h
    have e : numL ([48 + n] ++ c :: r) 0 = (n, c :: r) := by
      simp only [List.cons_append, List.nil_append]
      rw [numL, if_pos (by simp [digit]; omega), stop]
      simp only [Prod.mk.injEq, and_true]; omega
    rw [numP, e, if_neg]
    simp; omega
  · rename_i h
    have e : numL ([48 + n / 10, 48 + n % 10] ++ c :: r) 0 = (n, c :: r) := by
      simp only [List.cons_append, List.nil_append]
      rw [numL, if_pos (by simp [digit]; omega), numL, if_pos (by simp [digit]; omega), stop]
      simp only [Prod.mk.injEq, and_true]; omega
    rw [numP, e, if_neg]
    simp; omega
theorem bnd_read {a b : Int} (ha0 : 0 ≤ a) (ha : a ≤ 20) (hb : b = -1 ∨ (a ≤ b ∧ b ≤ 20)) (r : List Int) :
    bndP ((if a = b then numC a ++ [125] else if b = -1 then numC a ++ [44, 125] else numC a ++ 44 :: numC b ++ [125]) ++ r) = some ((a, b), r) := by
  split
  · rename_i e; subst e
    rw [List.append_assoc, bndP, show [125] ++ r = 125 :: r from rfl, num_read ha0 ha (by decide)]
    simp
  split
  · rename_i _ e; subst e
    rw [List.append_assoc, bndP, show [44, 125] ++ r = 44 :: 125 :: r from rfl, num_read ha0 ha (by decide)]
    simp
  · rename_i h1 h2
    have hb' : a ≤ b ∧ b ≤ 20 := by omega
    have hd : (numC b ++ 125 :: r).headD (-1) ≠ 125 := by
      unfold numC; split <;> simp <;> omega
    rw [show numC a ++ 44 :: numC b ++ [125] ++ r = numC a ++ 44 :: (numC b ++ 125 :: r) by simp, bndP, num_read ha0 ha (by decide)]
    simp only [List.headD_cons, if_true, List.tail_cons, if_neg hd, num_read (show 0 ≤ b by omega) hb'.2 (show digit 125 = false by decide)]
    rw [if_pos ⟨trivial, by omega⟩]
theorem suf_begin {a b : Int} : sufC a b = [42] ∧ a = 0 ∧ b = -1 ∨ sufC a b = [43] ∧ a = 1 ∧ b = -1 ∨ sufC a b = [63] ∧ a = 0 ∧ b = 1 ∨
    sufC a b = 123 :: (if a = b then numC a ++ [125] else if b = -1 then numC a ++ [44, 125] else numC a ++ 44 :: numC b ++ [125]) := by
  unfold sufC
  split
  · rename_i h; exact .inl ⟨rfl, h⟩
  split
  · rename_i h; exact .inr (.inl ⟨rfl, h⟩)
  split
  · rename_i h; exact .inr (.inr (.inl ⟨rfl, h⟩))
  · right; right; right
    split
    · rfl
    split
    · rfl
    · rfl

/- trees -/
def okA (r : List Int) : Prop := r = [] ∨ ∃ t, r = 41 :: t
def okB (r : List Int) : Prop := r = [] ∨ ∃ c t, r = c :: t ∧ (c = 41 ∨ c = 124)
/-- What may follow a part: no sign of a repetition. -/
def okC (r : List Int) : Prop := r = [] ∨ ∃ c t, r = c :: t ∧ c ≠ 42 ∧ c ≠ 43 ∧ c ≠ 63 ∧ c ≠ 123
theorem okA.b {r : List Int} (h : okA r) : okB r := by
  rcases h with rfl | ⟨t, rfl⟩
  · exact .inl rfl
  · exact .inr ⟨_, _, rfl, .inl rfl⟩
theorem okB.c {r : List Int} (h : okB r) : okC r := by
  rcases h with rfl | ⟨c, t, rfl, h⟩
  · exact .inl rfl
  · exact .inr ⟨_, _, rfl, by omega⟩
theorem begins_c {r : List Int} (h : Begins r) : okC r := by
  obtain ⟨c, t, rfl, h⟩ := h
  exact .inr ⟨_, _, rfl, by omega⟩

section
variable (sort : List (Int × Int) → List (Int × Int))
def PA (n : Tree) : Prop := ∀ (f : Nat) (r : List Int), (fmtC n ++ r).length < f → okA r → chP sort f (fmtC n ++ r) = some (n, r)
def PB (n : Tree) : Prop := ∀ (f : Nat) (r : List Int), (fmtC n ++ r).length ≤ f → okB r → joinP sort (chP sort f) (fmtC n ++ r) = some (n, r)
def PC (n : Tree) : Prop := (∀ r, Begins (fmtC n ++ r)) ∧ ∀ (f : Nat) (r : List Int), (fmtC n ++ r).length ≤ f → okC r → repP sort (chP sort f) (fmtC n ++ r) = some (n, r)

theorem rep_plain {ch : List Int → Option (Tree × List Int)} {l r : List Int} {x : Tree} (h : atomP sort ch l = some (x, r)) (hr : okC r) : repP sort ch l = some (x, r) := by
  rw [repP, h]
  rcases hr with rfl | ⟨c, t, rfl, h1, h2, h3, h4⟩
  · simp
  · simp only [List.headD_cons, h1, h2, h3, h4, if_false]
theorem paren_atom {n : Tree} (h : PA sort n) {f : Nat} {r : List Int} (hf : (40 :: fmtC n ++ 41 :: r).length ≤ f) : atomP sort (chP sort f) (40 :: fmtC n ++ 41 :: r) = some (n, r) := by
  have := h f (41 :: r) (by simp at hf ⊢; omega) (.inr ⟨_, rfl⟩)
  rw [List.cons_append]
  simp only [atomP, if_true, this]
  simp
/-- A part in parentheses, or one that wants none. -/
theorem part_rep {n : Tree} (hA : PA sort n) {b : Bool} (hC : b = false → PC sort n) :
    (∀ r, Begins (paren b (fmtC n) ++ r)) ∧ ∀ (f : Nat) (r : List Int), (paren b (fmtC n) ++ r).length ≤ f → okC r → repP sort (chP sort f) (paren b (fmtC n) ++ r) = some (n, r) := by
  cases b with
  | false => exact hC rfl
  | true =>
    refine ⟨fun r => ⟨40, _, rfl, by omega⟩, fun f r hf hr => ?_⟩
    have e : paren true (fmtC n) ++ r = 40 :: fmtC n ++ 41 :: r := by simp [paren]
    rw [e] at hf ⊢
    exact rep_plain sort (paren_atom sort hA hf) hr
theorem joinL_stop {ch : List Int → Option (Tree × List Int)} {r : List Int} (hr : okB r) (f : Nat) : joinL sort ch (f + 1) r = some ([], r) := by
  rcases hr with rfl | ⟨c, t, rfl, h⟩
  · simp [joinL]
  · rw [joinL, if_pos]; simp only [List.headD_cons]; omega
theorem joinL_read : ∀ (l : List Tree) (g : Nat) {f : Nat} {r : List Int}, (∀ x, x ∈ l → (∀ r, Begins (paren (encl 3 x.kind) (fmtC x) ++ r)) ∧ ∀ (f : Nat) (r : List Int), (paren (encl 3 x.kind) (fmtC x) ++ r).length ≤ f → okC r →
      repP sort (chP sort f) (paren (encl 3 x.kind) (fmtC x) ++ r) = some (x, r)) → ((fmtL 3 l).flatten ++ r).length ≤ f → l.length < g → okB r → joinL sort (chP sort f) g ((fmtL 3 l).flatten ++ r) = some (l, r)
  | [], g, f, r, _, _, hg, hr => by
    cases g with
    | zero => simp at hg
    | succ g => simpa [fmtL] using joinL_stop sort hr g
  | x :: l, g, f, r, h, hf, hg, hr => by
    cases g with
    | zero => simp at hg
    | succ g =>
      obtain ⟨h1, h2⟩ := h x (by simp)
      have e : (fmtL 3 (x :: l)).flatten ++ r = paren (encl 3 x.kind) (fmtC x) ++ ((fmtL 3 l).flatten ++ r) := by simp [fmtL]
      rw [e] at hf ⊢
      have hc : okC ((fmtL 3 l).flatten ++ r) := by
        cases l with
        | nil => simpa [fmtL] using hr.c
        | cons y l =>
          have := (h y (by simp)).1 ((fmtL 3 l).flatten ++ r)
          rw [show (fmtL 3 (y :: l)).flatten ++ r = paren (encl 3 y.kind) (fmtC y) ++ ((fmtL 3 l).flatten ++ r) by simp [fmtL]]
          exact begins_c this
      obtain ⟨c, t, eb, b1⟩ := h1 ((fmtL 3 l).flatten ++ r)
      have hh : ¬ ((paren (encl 3 x.kind) (fmtC x) ++ ((fmtL 3 l).flatten ++ r)).headD (-1) < 0 ∨ (paren (encl 3 x.kind) (fmtC x) ++ ((fmtL 3 l).flatten ++ r)).headD (-1) = 124 ∨ (paren (encl 3 x.kind) (fmtC x) ++ ((fmtL 3 l).flatten ++ r)).headD (-1) = 41) := by
        rw [eb]; simp only [List.headD_cons]; omega
      rw [joinL, if_neg hh, h2 f _ hf hc]
      simp only
      rw [joinL_read l g (fun y hy => h y (by simp [hy])) (by rw [List.length_append] at hf; omega) (by simp at hg; omega) hr]
      rfl
theorem one_join {n : Tree} (h : PC sort n) : PB sort n := by
  intro f r hf hr
  obtain ⟨h1, h2⟩ := h
  obtain ⟨c, t, eb, b1⟩ := h1 r
  have hl : 1 ≤ (fmtC n ++ r).length := by rw [eb]; simp
  have hh : ¬ ((fmtC n ++ r).headD (-1) < 0 ∨ (fmtC n ++ r).headD (-1) = 124 ∨ (fmtC n ++ r).headD (-1) = 41) := by
    rw [eb]; simp only [List.headD_cons]; omega
  rw [joinP, show (fmtC n ++ r).length + 1 = ((fmtC n ++ r).length - 1 + 1) + 1 by omega, joinL, if_neg hh, h2 f r hf hr.c]
  simp only
  rw [joinL_stop sort hr]
  rfl
theorem one_choice {n : Tree} (h : PB sort n) : PA sort n := by
  intro f r hf hr
  cases f with
  | zero => simp at hf
  | succ f =>
    have hne : ¬ r.headD (-1) = 124 := by
      rcases hr with rfl | ⟨t, rfl⟩ <;> simp
    rw [chP, choiceP, choiceL, h f r (by omega) hr.b]
    simp only
    rw [if_neg hne]
    rfl
theorem choiceL_read {f : Nat} : ∀ (l : List Tree) (g : Nat) {r : List Int}, l ≠ [] → (∀ x, x ∈ l → ∀ (r : List Int), (paren (encl 4 x.kind) (fmtC x) ++ r).length ≤ f → okB r → joinP sort (chP sort f) (paren (encl 4 x.kind) (fmtC x) ++ r) = some (x, r)) →
    (sepC (fmtL 4 l) ++ r).length ≤ f → l.length ≤ g → okA r → choiceL sort (chP sort f) g (sepC (fmtL 4 l) ++ r) = some (l, r)
  | [], g, r, hne, _, _, _, _ => absurd rfl hne
  | [x], g, r, _, h, hf, hg, hr => by
    cases g with
    | zero => simp at hg
    | succ g =>
      have e : sepC (fmtL 4 [x]) = paren (encl 4 x.kind) (fmtC x) := by simp [fmtL, sepC]
      have hne : ¬ r.headD (-1) = 124 := by
        rcases hr with rfl | ⟨t, rfl⟩ <;> simp
      rw [e] at hf ⊢
      rw [choiceL, h x (by simp) r hf hr.b]
      simp only
      rw [if_neg hne]
  | x :: y :: l, g, r, _, h, hf, hg, hr => by
    cases g with
    | zero => simp at hg
    | succ g =>
      have e : sepC (fmtL 4 (x :: y :: l)) ++ r = paren (encl 4 x.kind) (fmtC x) ++ (124 :: (sepC (fmtL 4 (y :: l)) ++ r)) := by simp [fmtL, sepC]
      rw [e] at hf ⊢
      rw [choiceL, h x (by simp) _ hf (.inr ⟨_, _, rfl, .inr rfl⟩)]
      simp only [List.headD_cons, if_true, List.tail_cons]
      rw [choiceL_read (y :: l) g (by simp) (fun z hz => h z (by simp [hz])) (by simp at hf ⊢; omega) (by simp at hg ⊢; omega) hr]
      rfl
theorem fmtL_length (k : Int) (l : List Tree) : (fmtL k l).length = l.length := by
  induction l with
  | nil => simp [fmtL]
  | cons x l ih => simp [fmtL, ih]
theorem sep_len : ∀ l : List (List Int), l.length ≤ (sepC l).length + 1
  | [] => by simp
  | [x] => by simp
  | x :: y :: l => by
    have := sep_len (y :: l)
    simp only [sepC, List.length_append, List.length_cons] at this ⊢
    omega

theorem reads (hs : SortOK sort) : ∀ n : Tree, chk n = 0 → PA sort n ∧ (n.kind ≠ 4 → PB sort n) ∧ (n.kind = 2 ∨ n.kind = 5 → PC sort n) := by
  intro n
  induction n using Tree.ind with
  | h k s sub a b ih =>
    intro hc
    obtain ⟨hk, hbad, hL⟩ := chk_ok hc
    have hsub : ∀ x, x ∈ sub → PA sort x ∧ (x.kind ≠ 4 → PB sort x) ∧ (x.kind = 2 ∨ x.kind = 5 → PC sort x) := fun x hx => ih x hx (chkL_mem hL x hx)
    simp only [badB, Bool.or_eq_false_iff, Bool.not_eq_false', Bool.and_eq_false_iff, decide_eq_false_iff_not, Decidable.not_not] at hbad
    obtain ⟨⟨hp, h2⟩, h3⟩ := hbad
    simp only [kindB, Bool.or_eq_true, decide_eq_true_eq] at hk
    have hs0 : k ≠ 2 → s = [] := fun h => by
      rcases h2 with h2 | h2
      · exact absurd h2 h
      · cases s with
        | nil => rfl
        | cons => simp at h2
    have hab : k ≠ 5 → a = 0 ∧ b = 0 := fun h => by
      rcases h3 with h3 | h3
      · exact absurd h3 h
      · simpa using h3
    have fromC : PC sort (.mk k s sub a b) → PA sort (.mk k s sub a b) ∧ ((Tree.mk k s sub a b).kind ≠ 4 → PB sort (.mk k s sub a b)) ∧ ((Tree.mk k s sub a b).kind = 2 ∨ (Tree.mk k s sub a b).kind = 5 → PC sort (.mk k s sub a b)) := fun h =>
      ⟨one_choice sort (one_join sort h), fun _ => one_join sort h, fun _ => h⟩
    have fromB : k ≠ 2 → k ≠ 5 → PB sort (.mk k s sub a b) → PA sort (.mk k s sub a b) ∧ ((Tree.mk k s sub a b).kind ≠ 4 → PB sort (.mk k s sub a b)) ∧ ((Tree.mk k s sub a b).kind = 2 ∨ (Tree.mk k s sub a b).kind = 5 → PC sort (.mk k s sub a b)) := fun n2 n5 h =>
      ⟨one_choice sort h, fun _ => h, fun h => by simp only [Tree.kind] at h; omega⟩
    rcases hk with (((rfl | rfl) | rfl) | rfl) | rfl
    · -- empty
      obtain rfl := hs0 (by omega)
      obtain ⟨rfl, rfl⟩ := hab (by omega)
      have hn : sub = [] := by simpa [partsB] using hp
      subst hn
      refine fromB (by omega) (by omega) fun f r hf hr => ?_
      have e : fmtC (.mk 1 [] [] 0 0) = [] := by simp [fmtC, fmtL]
      rw [e, List.nil_append, joinP, joinL_stop sort hr]
      rfl
    · -- a set
      obtain ⟨rfl, rfl⟩ := hab (by omega)
      have hp' : sub = [] ∧ properB s = true := by simpa [partsB] using hp
      obtain ⟨rfl, hps⟩ := hp'
      have e : fmtC (.mk 2 s [] 0 0) = setC s := by simp [fmtC]
      refine fromC ⟨fun r => by rw [e]; exact set_begins hps r, fun f r hf hr => ?_⟩
      rw [e]
      exact rep_plain sort (set_read hs _ hps r) hr
    · -- a join
      obtain rfl := hs0 (by omega)
      obtain ⟨rfl, rfl⟩ := hab (by omega)
      have hn : 2 ≤ sub.length := by simp [partsB] at hp; omega
      have e : fmtC (.mk 3 [] sub 0 0) = (fmtL 3 sub).flatten := by simp [fmtC]
      refine fromB (by omega) (by omega) fun f r hf hr => ?_
      rw [e] at hf ⊢
      have hparts : ∀ x, x ∈ sub → (∀ r, Begins (paren (encl 3 x.kind) (fmtC x) ++ r)) ∧ ∀ (f : Nat) (r : List Int), (paren (encl 3 x.kind) (fmtC x) ++ r).length ≤ f → okC r →
          repP sort (chP sort f) (paren (encl 3 x.kind) (fmtC x) ++ r) = some (x, r) := fun x hx => by
        obtain ⟨h1, h2, h3⟩ := hsub x hx
        refine part_rep sort h1 fun hb => h3 ?_
        have hkx : kindB x.kind = true := by
          obtain ⟨k', s', sub', a', b'⟩ := x
          exact (chk_ok (chkL_mem hL _ hx)).1
        simp only [kindB, Bool.or_eq_true, decide_eq_true_eq] at hkx
        simp [encl] at hb
        omega
      have hl : ∀ l : List Tree, (∀ x, x ∈ l → x ∈ sub) → l.length ≤ ((fmtL 3 l).flatten).length := by
        intro l
        induction l with
        | nil => simp
        | cons x l ih2 =>
          intro h
          have := ih2 fun y hy => h y (by simp [hy])
          obtain ⟨c, t, hb, _⟩ := (hparts x (h x (by simp))).1 []
          have : 1 ≤ (paren (encl 3 x.kind) (fmtC x)).length := by
            rw [List.append_nil] at hb; rw [hb]; simp
          simp only [fmtL, List.flatten_cons, List.length_append, List.length_cons]; omega
      have hll := hl sub fun _ h => h
      rw [joinP, joinL_read sort sub _ hparts hf (by rw [List.length_append]; omega) hr]
      match sub, hn with
      | x :: y :: l, _ => rfl
    · -- a choice
      obtain rfl := hs0 (by omega)
      obtain ⟨rfl, rfl⟩ := hab (by omega)
      have hn : 2 ≤ sub.length := by simp [partsB] at hp; omega
      have e : fmtC (.mk 4 [] sub 0 0) = sepC (fmtL 4 sub) := by simp [fmtC]
      refine ⟨fun f r hf hr => ?_, fun h => absurd rfl h, fun h => by simp only [Tree.kind] at h; omega⟩
      rw [e] at hf ⊢
      cases f with
      | zero => simp at hf
      | succ f =>
        have hlen := sep_len (fmtL 4 sub)
        rw [fmtL_length] at hlen
        rw [chP, choiceP, choiceL_read sort sub _ (by intro h; rw [h] at hn; simp at hn) (fun x hx r hf hr => ?_) (by omega) (by simp; omega) hr]
        · match sub, hn with
          | x :: y :: l, _ => rfl
        · obtain ⟨h1, h2, h3⟩ := hsub x hx
          by_cases h4 : x.kind = 4
          · have hb : encl 4 x.kind = true := by simp [encl, h4]
            have := part_rep sort h1 (b := true) (by simp)
            rw [hb] at hf ⊢
            have hPC : PC sort x → True := fun _ => trivial
            -- as a join of one part
            obtain ⟨c, t, eb, b1⟩ := this.1 r
            have hl : 1 ≤ (paren true (fmtC x) ++ r).length := by rw [eb]; simp
            have hh : ¬ ((paren true (fmtC x) ++ r).headD (-1) < 0 ∨ (paren true (fmtC x) ++ r).headD (-1) = 124 ∨ (paren true (fmtC x) ++ r).headD (-1) = 41) := by
              rw [eb]; simp only [List.headD_cons]; omega
            rw [joinP, show (paren true (fmtC x) ++ r).length + 1 = ((paren true (fmtC x) ++ r).length - 1 + 1) + 1 by omega, joinL, if_neg hh, this.2 f r hf hr.c]
            simp only
            rw [joinL_stop sort hr]
            rfl
          · have hb : encl 4 x.kind = false := by simp [encl, h4]
            rw [hb] at hf ⊢
            exact h2 h4 f r hf hr
    · -- a repetition
      obtain rfl := hs0 (by omega)
      have hp' : sub.length = 1 ∧ 0 ≤ a ∧ a ≤ 20 ∧ (b = -1 ∨ (a ≤ b ∧ b ≤ 20)) := by
        simp [partsB] at hp; omega
      obtain ⟨hn, ha0, ha, hb⟩ := hp'
      obtain ⟨x, rfl⟩ : ∃ x, sub = [x] := by
        match sub, hn with
        | [x], _ => exact ⟨x, rfl⟩
      obtain ⟨h1, h2, h3⟩ := hsub x (by simp)
      have e : fmtC (.mk 5 [] [x] a b) = paren (encl 5 x.kind) (fmtC x) ++ sufC a b := by simp [fmtC, fmtL]
      have hat : (∀ r, Begins (paren (encl 5 x.kind) (fmtC x) ++ r)) ∧ ∀ (f : Nat) (r : List Int), (paren (encl 5 x.kind) (fmtC x) ++ r).length ≤ f → atomP sort (chP sort f) (paren (encl 5 x.kind) (fmtC x) ++ r) = some (x, r) := by
        by_cases hx : x.kind = 2
        · have hb : encl 5 x.kind = false := by simp [encl, hx]
          rw [hb]
          obtain ⟨k', s', sub', a', b'⟩ := x
          simp only [Tree.kind] at hx
          subst hx
          obtain ⟨q1, q2, q3⟩ := chk_ok (chkL_mem hL _ (List.mem_cons_self))
          simp only [badB, Bool.or_eq_false_iff, Bool.not_eq_false', Bool.and_eq_false_iff, decide_eq_false_iff_not, Decidable.not_not] at q2
          have hp' : sub' = [] ∧ properB s' = true := by simpa [partsB] using q2.1.1
          have hab' : a' = 0 ∧ b' = 0 := by simpa using q2.2
          obtain ⟨rfl, rfl⟩ := hab'
          obtain ⟨rfl, hps⟩ := hp'
          have e : fmtC (.mk 2 s' [] 0 0) = setC s' := by simp [fmtC]
          simp only [paren, e, Bool.false_eq_true, if_false]
          exact ⟨fun r => set_begins hps r, fun f r hf => set_read hs _ hps r⟩
        · have hb : encl 5 x.kind = true := by simp [encl, hx]
          rw [hb]
          refine ⟨fun r => ⟨40, _, rfl, by omega⟩, fun f r hf => ?_⟩
          have e : paren true (fmtC x) ++ r = 40 :: fmtC x ++ 41 :: r := by simp [paren]
          rw [e] at hf ⊢
          exact paren_atom sort h1 hf
      refine fromC ⟨fun r => by rw [e, List.append_assoc]; exact hat.1 _, fun f r hf hr => ?_⟩
      rw [e, List.append_assoc] at hf ⊢
      rw [repP, hat.2 f _ hf]
      simp only
      rcases suf_begin (a := a) (b := b) with ⟨q, rfl, rfl⟩ | ⟨q, rfl, rfl⟩ | ⟨q, rfl, rfl⟩ | q
      · rw [q]; simp [rep5]
      · rw [q]; simp [rep5]
      · rw [q]; simp [rep5]
      · rw [q]
        simp only [List.cons_append, List.headD_cons, List.tail_cons, show ¬ (123 : Int) = 42 by omega, show ¬ (123 : Int) = 43 by omega, show ¬ (123 : Int) = 63 by omega, if_false, if_true]
        rw [bnd_read ha0 ha hb]
        rfl
theorem parse_fmt (hs : SortOK sort) {n : Tree} (h : chk n = 0) : parseC sort (fmtC n) = some n := by
  have := (reads sort hs n h).1 ((fmtC n).length + 1) [] (by simp) (.inl rfl)
  rw [List.append_nil] at this
  rw [parseC, this]
end
end Go.Proofs.YtebejiilpedlmaaDoor
