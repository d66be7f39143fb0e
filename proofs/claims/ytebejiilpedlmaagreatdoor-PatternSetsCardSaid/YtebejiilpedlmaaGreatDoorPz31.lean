/- Part of a proof about the functions of this seat. -/
import Derived.Test.YtebejiilpedlmaaGreatDoorRu31
import Derived.Test.YtebejiilpedlmaaGreatDoorPatA
set_option linter.unusedVariables false
set_option linter.unusedSimpArgs false
set_option maxRecDepth 100000
namespace Go.Proofs.YtebejiilpedlmaaGreatDoor
open Go Nv Pat

/- What is read is proper. -/
theorem Chars.tail' {l : List Int} (h : ∀ c, c ∈ l → charB c = true) : ∀ c, c ∈ l.tail → charB c = true := fun c hc => h c (List.mem_of_mem_tail hc)

/-- What is left of a text of characters: shorter, and of characters. -/
def Rest (l r : List Int) : Prop := (∀ c, c ∈ l → charB c = true) → ∀ c, c ∈ r → charB c = true
theorem Rest.refl (l : List Int) : Rest l l := fun h => h
theorem Rest.trans {l r t : List Int} (h : Rest l r) (k : Rest r t) : Rest l t := fun x => k (h x)
theorem Rest.tl (l : List Int) : Rest l l.tail := fun h => Chars.tail' h
theorem Rest.cons (c : Int) (l : List Int) : Rest (c :: l) l := fun h d hd => h d (by simp [hd])

theorem letP_ch {l r : List Int} {c : Int} (h : letP l = some (c, r)) (hl : ∀ c, c ∈ l → charB c = true) : charB c = true ∧ ∀ d, d ∈ r → charB d = true := by
  cases l with
  | nil => cases h
  | cons d t =>
    rw [letP] at h
    split at h
    · cases t with
      | nil => cases h
      | cons e t => simp only [oneP, Option.some.injEq, Prod.mk.injEq] at h; rw [← h.1, ← h.2]; exact ⟨hl _ (by simp), fun x hx => hl x (by simp [hx])⟩
    · split at h
      · cases h
      · simp only [Option.some.injEq, Prod.mk.injEq] at h; rw [← h.1, ← h.2]; exact ⟨hl _ (by simp), fun x hx => hl x (by simp [hx])⟩
theorem itemP_ch {l r : List Int} {q : Int × Int} (h : itemP l = some (q, r)) (hl : ∀ c, c ∈ l → charB c = true) : (charB q.1 = true ∧ charB q.2 = true) ∧ ∀ d, d ∈ r → charB d = true := by
  unfold itemP at h
  cases hL : letP l with
  | none => rw [hL] at h; cases h
  | some x =>
    obtain ⟨c, r1⟩ := x
    have h1 := letP_ch hL hl
    rw [hL] at h
    simp only at h
    split at h
    · cases hM : letP r1.tail with
      | none => rw [hM] at h; cases h
      | some y =>
        obtain ⟨d, r2⟩ := y
        have h2 := letP_ch hM (Chars.tail' h1.2)
        rw [hM] at h
        simp only [Option.map_some, Option.some.injEq, Prod.mk.injEq] at h
        rw [← h.1, ← h.2]; exact ⟨⟨h1.1, h2.1⟩, h2.2⟩
    · simp only [Option.some.injEq, Prod.mk.injEq] at h
      rw [← h.1, ← h.2]; exact ⟨⟨h1.1, h1.1⟩, h1.2⟩
theorem clip1_ok {a b x y : Int} {r : Int × Int} (h : r ∈ clip1 a b (x, y)) : r.1 ≤ r.2 ∧ x ≤ r.1 ∧ r.2 ≤ y ∧ a ≤ r.1 ∧ r.2 ≤ b := by
  unfold clip1 at h
  split at h
  · rename_i hle
    simp only [List.mem_singleton] at h
    subst h
    simp only at hle ⊢
    omega
  · cases h
theorem clip_ok {a b : Int} {r : Int × Int} (h : r ∈ clipS a b) : rgB r = true ∧ a ≤ r.1 ∧ r.2 ≤ b := by
  unfold clipS at h
  rcases List.mem_append.1 h with h | h
  · have := clip1_ok h
    refine ⟨?_, this.2.2.2⟩
    simp only [rgB, Bool.and_eq_true, decide_eq_true_eq, beq_iff_eq, decide_eq_decide, charB_iff]
    omega
  · have := clip1_ok h
    refine ⟨?_, this.2.2.2⟩
    simp only [rgB, Bool.and_eq_true, decide_eq_true_eq, beq_iff_eq, decide_eq_decide, charB_iff]
    omega
theorem clsP_ch : ∀ (f : Nat) {acc : List (Int × Int)} {l r : List Int} {s : List (Int × Int)}, clsP f acc l = some (s, r) → (∀ c, c ∈ l → charB c = true) → (∀ q, q ∈ acc → rgB q = true) → (∀ q, q ∈ s → rgB q = true) ∧ ∀ d, d ∈ r → charB d = true
  | 0, _, _, _, _, h, _, _ => by cases h
  | f + 1, acc, l, r, s, h, hl, ha => by
    rw [clsP] at h
    split at h
    · simp only [Option.some.injEq, Prod.mk.injEq] at h; rw [← h.1, ← h.2]; exact ⟨ha, Chars.tail' hl⟩
    · cases hI : itemP l with
      | none => rw [hI] at h; cases h
      | some x =>
        obtain ⟨q, r1⟩ := x
        have h1 := itemP_ch hI hl
        rw [hI] at h
        simp only at h
        split at h
        · cases h
        · refine clsP_ch f h h1.2 fun y hy => ?_
          rcases List.mem_append.1 hy with hy | hy
          · exact ha y hy
          · exact (clip_ok hy).1

/-- Ranges that ascend, with a gap between two. -/
def Apart (s : List (Int × Int)) : Prop := (∀ r, r ∈ s → rgB r = true) ∧ List.Pairwise (fun p r : Int × Int => p.2 + 2 ≤ r.1) s
theorem apart_proper : ∀ (s : List (Int × Int)) (q : Option Int), Apart s → (∀ z, q = some z → ∀ r, r ∈ s → z + 2 ≤ r.1) → properFrom q s = true
  | [], q, _, _ => by cases q <;> rfl
  | r :: l, q, h, k => by
    have hp := List.pairwise_cons.1 h.2
    have := apart_proper l (some r.2) ⟨fun x hx => h.1 x (by simp [hx]), hp.2⟩ (fun z hz y hy => by cases hz; exact hp.1 y hy)
    have hr := h.1 r (by simp)
    cases q with
    | none => simp only [properFrom, hr, this, Bool.and_self]
    | some z => have := k z rfl r (by simp); simp only [properFrom, *, Bool.true_and, Bool.and_true, decide_eq_true_eq]; omega
theorem Apart.proper {s : List (Int × Int)} (h : Apart s) : properB s = true := apart_proper s none h (fun z hz => by cases hz)

theorem apart_len : ∀ (s : List (Int × Int)) (lo : Int), Apart s → (∀ r, r ∈ s → lo ≤ r.1) → s = [] ∨ 2 * (s.length : Int) + lo ≤ 1114113
  | [], lo, _, _ => .inl rfl
  | r :: l, lo, h, k => by
    have hp := List.pairwise_cons.1 h.2
    have hr := rgB_ok (h.1 r (by simp))
    have h2 := hr.2.1
    rw [charB_iff] at h2
    have hlo := k r (by simp)
    refine .inr ?_
    rcases apart_len l (lo + 2) ⟨fun x hx => h.1 x (by simp [hx]), hp.2⟩ (fun y hy => by have := hp.1 y hy; omega) with e | e
    · subst e; simp only [List.length_cons, List.length_nil]; omega
    · simp only [List.length_cons]; omega

mutual
/-- A proper tree's sets are of a size. -/
theorem thin_chk : ∀ n : Tree, chk n = 0 → Thin n
  | .mk k s l a b, h => by
    obtain ⟨h1, h2, h3⟩ := chk_ok h
    refine ⟨?_, thin_chkL l h3⟩
    by_cases hk : k = 2
    · subst hk
      have hp : properB s = true := by
        simp only [badB, partsB, Bool.or_eq_false_iff, Bool.not_eq_false', show (2 : Int) = 2 ↔ True by simp, if_true, Bool.and_eq_true] at h2
        have h4 := h2.1.1
        simp at h4
        exact h4.2
      have ha : Apart s := proper_ok hp
      rcases apart_len s 0 ha (fun r hr => by have := (rgB_ok (ha.1 r hr)).1; rw [charB_iff] at this; omega) with e | e
      · subst e; simp
      · omega
    · have : ¬ (0 < (s.length : Int)) := by
        intro hc
        simp only [badB, Bool.or_eq_false_iff] at h2
        have h4 := h2.1.2
        simp [hk] at h4
        rw [h4] at hc; simp at hc
      omega
theorem thin_chkL : ∀ l : List Tree, chkL l = 0 → ThinL l
  | [], _ => trivial
  | x :: l, h => by
    rw [chkL] at h
    split at h
    · rename_i h0; exact ⟨thin_chk x h0, thin_chkL l h⟩
    · rename_i h0; exact absurd h h0
end

/-- The sorting of ranges. -/
def SortUp (sort : List (Int × Int) → List (Int × Int)) : Prop := ∀ s, (sort s).Perm s ∧ List.Pairwise (fun p q : Int × Int => p.1 ≤ q.1) (sort s)

theorem fold_join : ∀ (s acc : List (Int × Int)), Apart acc → (∀ r, r ∈ s → rgB r = true) → List.Pairwise (fun p q : Int × Int => p.1 ≤ q.1) s → (∀ p, p ∈ acc → ∀ r, r ∈ s → p.1 ≤ r.1) → Apart (s.foldl joinR acc)
  | [], acc, ha, _, _, _ => ha
  | r :: s, acc, ha, hs, hp, hx => by
    rw [List.foldl_cons]
    have hp' := List.pairwise_cons.1 hp
    have hr := hs r (by simp)
    have hr' := rgB_ok hr
    refine fold_join s (joinR acc r) ?_ (fun y hy => hs y (by simp [hy])) hp'.2 ?_
    · rcases List.eq_nil_or_concat acc with e | ⟨l, q, e⟩
      · subst e; rw [joinR_nil]; exact ⟨fun y hy => by simp at hy; rw [hy]; exact hr, by simp⟩
      · rw [List.concat_eq_append] at e
        subst e
        rw [joinR_snoc]
        have hq := ha.1 q (by simp)
        have hq' := rgB_ok hq
        have hqr := hx q (by simp) r (by simp)
        have hpa := List.pairwise_append.1 ha.2
        simp only [charB_iff] at hr' hq'
        split
        · rename_i hle
          refine ⟨fun y hy => ?_, ?_⟩
          · rcases List.mem_append.1 hy with hy | hy
            · exact ha.1 y (by simp [hy])
            · simp at hy; subst hy
              simp only [rgB, Bool.and_eq_true, decide_eq_true_eq, beq_iff_eq, decide_eq_decide, charB_iff]
              omega
          · refine List.pairwise_append.2 ⟨hpa.1, by simp, fun y hy z hz => ?_⟩
            simp at hz; subst hz
            exact hpa.2.2 y hy q (by simp)
        · rename_i hle
          refine ⟨fun y hy => ?_, ?_⟩
          · rcases List.mem_append.1 hy with hy | hy
            · exact ha.1 y (by simp [hy])
            · simp at hy
              rcases hy with hy | hy
              · rw [hy]; exact hq
              · rw [hy]; exact hr
          · refine List.pairwise_append.2 ⟨hpa.1, by simp; omega, fun y hy z hz => ?_⟩
            simp at hz
            have h1 := hpa.2.2 y hy q (by simp)
            rcases hz with hz | hz
            · rw [hz]; exact h1
            · rw [hz]; omega
    · intro p hpm y hy
      have hry := hp'.1 y hy
      rcases List.eq_nil_or_concat acc with e | ⟨l, q, e⟩
      · subst e; rw [joinR_nil] at hpm; simp at hpm; rw [hpm]; exact hry
      · rw [List.concat_eq_append] at e
        subst e
        rw [joinR_snoc] at hpm
        have hxy : ∀ p, p ∈ l ++ [q] → p.1 ≤ y.1 := fun p hp => hx p hp y (by simp [hy])
        split at hpm
        · rcases List.mem_append.1 hpm with hpm | hpm
          · exact hxy p (by simp [hpm])
          · simp at hpm; rw [hpm]; exact hxy q (by simp)
        · rcases List.mem_append.1 hpm with hpm | hpm
          · exact hxy p (by simp [hpm])
          · simp at hpm
            rcases hpm with hpm | hpm
            · rw [hpm]; exact hxy q (by simp)
            · rw [hpm]; exact hry
theorem norm_apart {sort : List (Int × Int) → List (Int × Int)} (hs : SortUp sort) {s : List (Int × Int)} (h : ∀ r, r ∈ s → rgB r = true) : Apart (normS sort s) := by
  unfold normS
  refine fold_join (sort s) [] ⟨by simp, .nil⟩ (fun r hr => h r ((hs s).1.mem_iff.1 hr)) (hs s).2 (by simp)
theorem clip_pair (a b : Int) : List.Pairwise (fun p r : Int × Int => p.2 + 2 ≤ r.1) (clipS a b) := by
  unfold clipS
  refine List.pairwise_append.2 ⟨?_, ?_, fun y hy z hz => ?_⟩
  · unfold clip1; split <;> simp
  · unfold clip1; split <;> simp
  · have h1 := clip1_ok hy; have h2 := clip1_ok hz; omega
theorem comp_apart : ∀ (l : List (Int × Int)) (low : Int), Apart l → (∀ r, r ∈ l → low ≤ r.1) → Apart (compL low l) ∧ ∀ r, r ∈ compL low l → low ≤ r.1
  | [], low, _, _ => by
    rw [compL]
    exact ⟨⟨fun r hr => (clip_ok hr).1, clip_pair _ _⟩, fun r hr => (clip_ok hr).2.1⟩
  | r :: l, low, h, hlow => by
    have hp := List.pairwise_cons.1 h.2
    have hr := rgB_ok (h.1 r (by simp))
    have hl0 := hlow r (by simp)
    obtain ⟨⟨k1, k2⟩, k3⟩ := comp_apart l (r.2 + 1) ⟨fun x hx => h.1 x (by simp [hx]), hp.2⟩ (fun y hy => by have := hp.1 y hy; omega)
    rw [compL]
    refine ⟨⟨fun y hy => ?_, ?_⟩, fun y hy => ?_⟩
    · rcases List.mem_append.1 hy with hy | hy
      · exact (clip_ok hy).1
      · exact k1 y hy
    · refine List.pairwise_append.2 ⟨clip_pair _ _, k2, fun y hy z hz => ?_⟩
      have h1 := (clip_ok hy).2; have h2 := k3 z hz; omega
    · rcases List.mem_append.1 hy with hy | hy
      · exact (clip_ok hy).2.1
      · have := k3 y hy; omega

section
variable {sort : List (Int × Int) → List (Int × Int)} (hs : SortUp sort)
include hs
theorem classP_ok {l r : List Int} {s : List (Int × Int)} (h : classP sort l = some (s, r)) (hl : ∀ c, c ∈ l → charB c = true) : Apart s ∧ ∀ d, d ∈ r → charB d = true := by
  unfold classP at h
  split at h
  · cases hc : clsP (l.length + 1) [] l.tail with
    | none => rw [hc] at h; cases h
    | some x =>
      obtain ⟨t, r1⟩ := x
      have h1 := clsP_ch _ hc (Chars.tail' hl) (by simp)
      rw [hc] at h
      simp only [Option.map_some, Option.some.injEq, Prod.mk.injEq] at h
      have ha := norm_apart hs h1.1
      rw [← h.1, ← h.2]
      refine ⟨(comp_apart _ 0 ha fun y hy => ?_).1, h1.2⟩
      have := (rgB_ok (ha.1 y hy)).1
      rw [charB_iff] at this; omega
  · cases hc : clsP (l.length + 1) [] l with
    | none => rw [hc] at h; cases h
    | some x =>
      obtain ⟨t, r1⟩ := x
      have h1 := clsP_ch _ hc hl (by simp)
      rw [hc] at h
      simp only [Option.map_some, Option.some.injEq, Prod.mk.injEq] at h
      rw [← h.1, ← h.2]
      exact ⟨norm_apart hs h1.1, h1.2⟩
omit hs
theorem chk_set {s : List (Int × Int)} (h : properB s = true) : chk (setT s) = 0 := by
  simp [setT, chk, kindB, badB, partsB, h, chkL]
theorem one_apart {c : Int} (h : charB c = true) : properB [(c, c)] = true := by
  simp [properB, properFrom, rgB, h]
theorem all_proper : properB allS = true := by decide
theorem nodes_set (s : List (Int × Int)) : (setT s).nodes = 1 := by simp [setT, Tree.nodes, Tree.nodesL]

/-- A tree that was read: proper, and not larger than its text; what is left is of characters. -/
def Got (d : Nat) (l : List Int) (x : Tree) (r : List Int) : Prop := chk x = 0 ∧ x.nodes + r.length ≤ l.length + d ∧ ∀ c, c ∈ r → charB c = true
include hs
theorem atomP_ok {ch : List Int → Option (Tree × List Int)} {l r : List Int} {x : Tree} (hch : ∀ l x r, ch l = some (x, r) → (∀ c, c ∈ l → charB c = true) → Got 2 l x r)
    (h : atomP sort ch l = some (x, r)) (hl : ∀ c, c ∈ l → charB c = true) : Got 0 l x r := by
  cases l with
  | nil => cases h
  | cons c t =>
    have ht : ∀ d, d ∈ t → charB d = true := fun d hd => hl d (by simp [hd])
    have hc := hl c (by simp)
    unfold atomP at h; simp only at h
    split at h
    · cases hx : ch t with
      | none => rw [hx] at h; cases h
      | some y =>
        obtain ⟨n, r1⟩ := y
        have h1 := hch _ _ _ hx ht
        rw [hx] at h
        simp only at h
        split at h
        · rename_i h41
          simp only [Option.some.injEq, Prod.mk.injEq] at h
          rw [← h.1, ← h.2]
          refine ⟨h1.1, ?_, Chars.tail' h1.2.2⟩
          cases r1 with
          | nil => cases h41
          | cons d r1 => have := h1.2.1; simp only [List.length_cons, List.tail_cons] at this ⊢; omega
        · cases h
    · split at h
      · simp only [Option.some.injEq, Prod.mk.injEq] at h
        rw [← h.1, ← h.2]
        exact ⟨chk_set all_proper, by rw [nodes_set]; simp; omega, ht⟩
      · split at h
        · cases hx : classP sort t with
          | none => rw [hx] at h; cases h
          | some y =>
            obtain ⟨s, r1⟩ := y
            have h1 := classP_ok hs hx ht
            have h2 := classP_le sort hx
            rw [hx] at h
            simp only [Option.map_some, Option.some.injEq, Prod.mk.injEq] at h
            rw [← h.1, ← h.2]
            exact ⟨chk_set h1.1.proper, by rw [nodes_set]; simp; omega, h1.2⟩
        · split at h
          · cases t with
            | nil => cases h
            | cons d t =>
              simp only [Option.some.injEq, Prod.mk.injEq] at h
              rw [← h.1, ← h.2]
              exact ⟨chk_set (one_apart (ht d (by simp))), by rw [nodes_set]; simp; omega, fun e he => ht e (by simp [he])⟩
          · split at h
            · cases h
            · simp only [Option.some.injEq, Prod.mk.injEq] at h
              rw [← h.1, ← h.2]
              exact ⟨chk_set (one_apart hc), by rw [nodes_set]; simp; omega, ht⟩
omit hs
theorem numL_ok : ∀ (l : List Int) (z : Int), 0 ≤ z → 0 ≤ (numL l z).1 ∧ ((∀ c, c ∈ l → charB c = true) → ∀ c, c ∈ (numL l z).2 → charB c = true)
  | [], z, hz => ⟨hz, fun _ => by simp [numL]⟩
  | c :: t, z, hz => by
    rw [numL]
    split
    · rename_i hd
      simp only [digit, Bool.and_eq_true, decide_eq_true_eq] at hd
      have := numL_ok t (min (10 * z + (c - 48)) 1000) (by omega)
      exact ⟨this.1, fun h => this.2 fun d hd => h d (by simp [hd])⟩
    · exact ⟨hz, fun h => h⟩
theorem numP_ok {l r : List Int} {n : Int} (h : numP l = some (n, r)) : (0 ≤ n ∧ n ≤ 20) ∧ Rest l r := by
  have h1 := numL_ok l 0 (by omega)
  unfold numP at h
  split at h
  · cases h
  · rename_i hn
    simp only [Option.some.injEq] at h
    rw [h] at hn h1
    simp only at hn h1
    exact ⟨⟨h1.1, by omega⟩, h1.2⟩
theorem bndP_ok {l r : List Int} {q : Int × Int} (h : bndP l = some (q, r)) : (0 ≤ q.1 ∧ q.1 ≤ 20 ∧ (q.2 = -1 ∨ (q.1 ≤ q.2 ∧ q.2 ≤ 20))) ∧ Rest l r := by
  unfold bndP at h
  cases hn : numP l with
  | none => rw [hn] at h; cases h
  | some x =>
    obtain ⟨a, r1⟩ := x
    have h1 := numP_ok hn
    rw [hn] at h
    simp only at h
    have fin : ∀ {b : Int} {r2 : List Int}, (b = -1 ∨ (0 ≤ b ∧ b ≤ 20)) → Rest l r2 → (if r2.headD (-1) = 125 ∧ ¬ (0 ≤ b ∧ b < a) then some ((a, b), r2.tail) else none) = some (q, r) →
        (0 ≤ q.1 ∧ q.1 ≤ 20 ∧ (q.2 = -1 ∨ (q.1 ≤ q.2 ∧ q.2 ≤ 20))) ∧ Rest l r := fun {b r2} hb hre hh => by
      split at hh
      · rename_i hc
        simp only [Option.some.injEq, Prod.mk.injEq] at hh
        rw [← hh.1, ← hh.2]
        exact ⟨⟨h1.1.1, h1.1.2, by simp only; omega⟩, hre.trans (Rest.tl _)⟩
      · cases hh
    by_cases h44 : r1.headD (-1) = 44
    · rw [if_pos h44] at h
      by_cases h125 : r1.tail.headD (-1) = 125
      · rw [if_pos h125] at h; exact fin (.inl rfl) (h1.2.trans (Rest.tl _)) h
      · rw [if_neg h125] at h
        cases hm : numP r1.tail with
        | none => rw [hm] at h; cases h
        | some y =>
          obtain ⟨b, r2⟩ := y
          have h2 := numP_ok hm
          rw [hm] at h
          exact fin (.inr h2.1) (h1.2.trans ((Rest.tl _).trans h2.2)) h
    · rw [if_neg h44] at h; exact fin (.inr h1.1) h1.2 h
theorem chk_rep {x : Tree} (hx : chk x = 0) {a b : Int} (h : 0 ≤ a ∧ a ≤ 20 ∧ (b = -1 ∨ (a ≤ b ∧ b ≤ 20))) : chk (rep5 x a b) = 0 := by
  have h3 : (decide (b = -1) || (decide (a ≤ b) && decide (b ≤ 20))) = true := by simp only [Bool.or_eq_true, Bool.and_eq_true, decide_eq_true_eq]; exact h.2.2
  simp only [rep5, chk, chkL, hx]
  have : badB 5 [] ([x] : List Tree).length a b = false := by simp [badB, partsB, h.1, h.2.1, h3]
  rw [if_pos (by decide), this]; rfl
theorem nodes_rep (x : Tree) (a b : Int) : (rep5 x a b).nodes = x.nodes + 1 := by simp [rep5, Tree.nodes, Tree.nodesL]; omega
theorem head_len {r : List Int} {c : Int} (h : r.headD (-1) = c) (hc : c ≠ -1) : r.tail.length + 1 = r.length := by
  cases r with
  | nil => exact absurd h.symm hc
  | cons d r => simp
include hs
theorem repP_ok {ch : List Int → Option (Tree × List Int)} {l r : List Int} {x : Tree} (hch : ∀ l x r, ch l = some (x, r) → (∀ c, c ∈ l → charB c = true) → Got 2 l x r)
    (h : repP sort ch l = some (x, r)) (hl : ∀ c, c ∈ l → charB c = true) : Got 0 l x r := by
  unfold repP at h
  cases hx : atomP sort ch l with
  | none => rw [hx] at h; cases h
  | some y =>
    obtain ⟨n, r1⟩ := y
    have h1 := atomP_ok hs hch hx hl
    rw [hx] at h
    simp only at h
    have fin : ∀ {a b c : Int}, r1.headD (-1) = c → c ≠ -1 → (0 ≤ a ∧ a ≤ 20 ∧ (b = -1 ∨ (a ≤ b ∧ b ≤ 20))) → (rep5 n a b, r1.tail) = (x, r) → Got 0 l x r := fun {a b c} hh hc hab he => by
      simp only [Prod.mk.injEq] at he
      rw [← he.1, ← he.2]
      have := head_len hh hc
      have h2 := h1.2.1
      exact ⟨chk_rep h1.1 hab, by rw [nodes_rep]; omega, Chars.tail' h1.2.2⟩
    split at h
    · rename_i hc; exact fin (a := 0) (b := -1) hc (by decide) (by decide) (by simpa using h)
    · split at h
      · rename_i hc; exact fin (a := 1) (b := -1) hc (by decide) (by decide) (by simpa using h)
      · split at h
        · rename_i hc; exact fin (a := 0) (b := 1) hc (by decide) (by decide) (by simpa using h)
        · split at h
          · rename_i hc
            cases hb : bndP r1.tail with
            | none => rw [hb] at h; cases h
            | some y =>
              obtain ⟨q, r2⟩ := y
              have h3 := bndP_ok hb
              have h4 := bndP_lt hb
              rw [hb] at h
              simp only [Option.map_some, Option.some.injEq, Prod.mk.injEq] at h
              rw [← h.1, ← h.2]
              have := head_len hc (by decide)
              have h2 := h1.2.1
              exact ⟨chk_rep h1.1 h3.1, by rw [nodes_rep]; omega, h3.2 (Chars.tail' h1.2.2)⟩
          · simp only [Option.some.injEq, Prod.mk.injEq] at h
            rw [← h.1, ← h.2]; exact h1
theorem joinL_ok {ch : List Int → Option (Tree × List Int)} (hch : ∀ l x r, ch l = some (x, r) → (∀ c, c ∈ l → charB c = true) → Got 2 l x r) :
    ∀ (f : Nat) {l r : List Int} {xs : List Tree}, joinL sort ch f l = some (xs, r) → (∀ c, c ∈ l → charB c = true) → (∀ x, x ∈ xs → chk x = 0) ∧ Tree.nodesL xs + r.length ≤ l.length ∧ ∀ c, c ∈ r → charB c = true
  | 0, _, _, _, h, _ => by cases h
  | f + 1, l, r, xs, h, hl => by
    rw [joinL] at h
    split at h
    · simp only [Option.some.injEq, Prod.mk.injEq] at h
      rw [← h.1, ← h.2]; exact ⟨by simp, by simp [Tree.nodesL], hl⟩
    · cases hx : repP sort ch l with
      | none => rw [hx] at h; cases h
      | some y =>
        obtain ⟨x, r1⟩ := y
        have h1 := repP_ok hs hch hx hl
        rw [hx] at h
        simp only at h
        cases hj : joinL sort ch f r1 with
        | none => rw [hj] at h; cases h
        | some z =>
          obtain ⟨ys, r2⟩ := z
          have h2 := joinL_ok hch f hj h1.2.2
          rw [hj] at h
          simp only [Option.map_some, Option.some.injEq, Prod.mk.injEq] at h
          rw [← h.1, ← h.2]
          refine ⟨fun y hy => ?_, ?_, h2.2.2⟩
          · rcases List.mem_cons.1 hy with e | hy
            · rw [e]; exact h1.1
            · exact h2.1 y hy
          · have := h1.2.1; have := h2.2.1; rw [Tree.nodesL]; omega
omit hs
theorem chk_many {k : Int} (hk : k = 3 ∨ k = 4) {l : List Tree} (h2 : 2 ≤ l.length) (h : ∀ x, x ∈ l → chk x = 0) : chk (.mk k [] l 0 0) = 0 := by
  have h2' : (2 : Int) ≤ l.length := by omega
  rcases hk with e | e <;> subst e <;> simp [chk, kindB, badB, partsB, h2', chkL_of h]
theorem nodes_many (k : Int) (l : List Tree) : (Tree.mk k [] l 0 0).nodes = 1 + Tree.nodesL l := by rw [Tree.nodes]
include hs
theorem joinP_ok {ch : List Int → Option (Tree × List Int)} {l r : List Int} {x : Tree} (hch : ∀ l x r, ch l = some (x, r) → (∀ c, c ∈ l → charB c = true) → Got 2 l x r)
    (h : joinP sort ch l = some (x, r)) (hl : ∀ c, c ∈ l → charB c = true) : Got 1 l x r := by
  unfold joinP at h
  cases hj : joinL sort ch (l.length + 1) l with
  | none => rw [hj] at h; cases h
  | some y =>
    obtain ⟨xs, r1⟩ := y
    have h1 := joinL_ok hs hch _ hj hl
    rw [hj] at h
    simp only [Option.map_some, Option.some.injEq, Prod.mk.injEq] at h
    rw [← h.1, ← h.2]
    have hn := h1.2.1
    match xs, h1 with
    | [], h1 => exact ⟨by decide, by simp only [mkJoin, Tree.nodes, Tree.nodesL]; simp only [Tree.nodesL] at hn; omega, h1.2.2⟩
    | [x], h1 => exact ⟨h1.1 x (by simp), by simp only [mkJoin, Tree.nodesL] at hn ⊢; omega, h1.2.2⟩
    | x :: y :: t, h1 => exact ⟨chk_many (.inl rfl) (by simp) h1.1, by rw [mkJoin, nodes_many]; omega; all_goals simp, h1.2.2⟩
theorem choiceL_ok {ch : List Int → Option (Tree × List Int)} (hch : ∀ l x r, ch l = some (x, r) → (∀ c, c ∈ l → charB c = true) → Got 2 l x r) :
    ∀ (f : Nat) {l r : List Int} {xs : List Tree}, choiceL sort ch f l = some (xs, r) → (∀ c, c ∈ l → charB c = true) → (∀ x, x ∈ xs → chk x = 0) ∧ xs ≠ [] ∧ Tree.nodesL xs + r.length ≤ l.length + 1 ∧ ∀ c, c ∈ r → charB c = true
  | 0, _, _, _, h, _ => by cases h
  | f + 1, l, r, xs, h, hl => by
    rw [choiceL] at h
    cases hx : joinP sort ch l with
    | none => rw [hx] at h; cases h
    | some y =>
      obtain ⟨x, r1⟩ := y
      have h1 := joinP_ok hs hch hx hl
      rw [hx] at h
      simp only at h
      split at h
      · rename_i hc
        cases hj : choiceL sort ch f r1.tail with
        | none => rw [hj] at h; cases h
        | some z =>
          obtain ⟨ys, r2⟩ := z
          have h2 := choiceL_ok hch f hj (Chars.tail' h1.2.2)
          rw [hj] at h
          simp only [Option.map_some, Option.some.injEq, Prod.mk.injEq] at h
          rw [← h.1, ← h.2]
          refine ⟨fun y hy => ?_, by simp, ?_, h2.2.2.2⟩
          · rcases List.mem_cons.1 hy with e | hy
            · rw [e]; exact h1.1
            · exact h2.1 y hy
          · have := h1.2.1; have := h2.2.2.1; have := head_len hc (by decide); rw [Tree.nodesL]; omega
      · simp only [Option.some.injEq, Prod.mk.injEq] at h
        rw [← h.1, ← h.2]
        exact ⟨fun y hy => by simp at hy; rw [hy]; exact h1.1, by simp, by have := h1.2.1; simp only [Tree.nodesL]; omega, h1.2.2⟩
theorem choiceP_ok {ch : List Int → Option (Tree × List Int)} {l r : List Int} {x : Tree} (hch : ∀ l x r, ch l = some (x, r) → (∀ c, c ∈ l → charB c = true) → Got 2 l x r)
    (h : choiceP sort ch l = some (x, r)) (hl : ∀ c, c ∈ l → charB c = true) : Got 2 l x r := by
  unfold choiceP at h
  cases hj : choiceL sort ch (l.length + 1) l with
  | none => rw [hj] at h; cases h
  | some y =>
    obtain ⟨xs, r1⟩ := y
    have h1 := choiceL_ok hs hch _ hj hl
    rw [hj] at h
    simp only [Option.map_some, Option.some.injEq, Prod.mk.injEq] at h
    rw [← h.1, ← h.2]
    have hn := h1.2.2.1
    match xs, h1 with
    | [], h1 => exact absurd rfl h1.2.1
    | [x], h1 => exact ⟨h1.1 x (by simp), by simp only [mkChoice, Tree.nodesL] at hn ⊢; omega, h1.2.2.2⟩
    | x :: y :: t, h1 => exact ⟨chk_many (.inr rfl) (by simp) h1.1, by rw [mkChoice, nodes_many]; omega; all_goals simp, h1.2.2.2⟩
theorem chP_ok : ∀ (f : Nat) (l : List Int) (x : Tree) (r : List Int), chP sort f l = some (x, r) → (∀ c, c ∈ l → charB c = true) → Got 2 l x r
  | 0, _, _, _, h, _ => by cases h
  | f + 1, l, x, r, h, hl => choiceP_ok hs (chP_ok f) h hl
/-- The tree of a pattern is proper. -/
theorem parse_proper {l : List Int} {n : Tree} (h : parseC sort l = some n) (hl : ∀ c, c ∈ l → charB c = true) : chk n = 0 ∧ n.nodes ≤ l.length + 2 := by
  unfold parseC at h
  split at h
  · rename_i m he
    simp only [Option.some.injEq] at h
    have := chP_ok hs _ _ _ _ he hl
    rw [← h]
    exact ⟨this.1, by simpa using this.2.1⟩
  · cases h
end
end Go.Proofs.YtebejiilpedlmaaGreatDoor
