/- Trees of patterns: which texts they match, and where these end. Plain: no program. -/
set_option linter.unusedVariables false
set_option linter.unusedSimpArgs false
namespace Pat

inductive Tree where
  | mk (kind : Int) (set : List (Int × Int)) (sub : List Tree) (min max : Int)
instance : Inhabited Tree := ⟨.mk 0 [] [] 0 0⟩

namespace Tree
def kind : Tree → Int | .mk k _ _ _ _ => k
def set : Tree → List (Int × Int) | .mk _ s _ _ _ => s
def sub : Tree → List Tree | .mk _ _ l _ _ => l
def min : Tree → Int | .mk _ _ _ a _ => a
def max : Tree → Int | .mk _ _ _ _ b => b
end Tree

mutual
theorem Tree.ind {p : Tree → Prop} (h : ∀ k s sub a b, (∀ x, x ∈ sub → p x) → p (.mk k s sub a b)) : ∀ n, p n
  | .mk k s sub a b => h k s sub a b (Tree.indL h sub)
theorem Tree.indL {p : Tree → Prop} (h : ∀ k s sub a b, (∀ x, x ∈ sub → p x) → p (.mk k s sub a b)) : ∀ (l : List Tree) (x : Tree), x ∈ l → p x
  | [], x, hx => by cases hx
  | y :: l, x, hx => by
    rcases List.mem_cons.1 hx with hx | hx
    · rw [hx]; exact Tree.ind h y
    · exact Tree.indL h l x hx
end

mutual
def Tree.nodes : Tree → Nat
  | .mk _ _ l _ _ => 1 + Tree.nodesL l
def Tree.nodesL : List Tree → Nat
  | [] => 0
  | x :: l => Tree.nodes x + Tree.nodesL l
end

/-- A number of copies, one after the other. -/
def Pow (L : List Int → Prop) : Nat → List Int → Prop
  | 0, w => w = []
  | n + 1, w => ∃ u v, w = u ++ v ∧ L u ∧ Pow L n v

def InSet (s : List (Int × Int)) (c : Int) : Prop := ∃ r, r ∈ s ∧ r.1 ≤ c ∧ c ≤ r.2

/-- Texts of one language, then of another. -/
def Cat (L M : List Int → Prop) : List Int → Prop := fun w => ∃ u v, w = u ++ v ∧ L u ∧ M v
def Eps : List Int → Prop := fun w => w = []

mutual
def Lang : Tree → List Int → Prop
  | .mk k s l a b, w =>
    if k = 1 then w = []
    else if k = 2 then ∃ c, w = [c] ∧ InSet s c
    else if k = 3 then LangJ l w
    else if k = 4 then LangC l w
    else if k = 5 then ∃ n : Nat, a ≤ (n : Int) ∧ (b < 0 ∨ (n : Int) ≤ b) ∧ LangP l n w
    else False
def LangJ : List Tree → List Int → Prop
  | [], w => w = []
  | x :: l, w => ∃ u v, w = u ++ v ∧ Lang x u ∧ LangJ l v
def LangC : List Tree → List Int → Prop
  | [], _ => False
  | x :: l, w => Lang x w ∨ LangC l w
def LangP : List Tree → Nat → List Int → Prop
  | [], _, _ => False
  | x :: _, n, w => Pow (fun u => Lang x u) n w
end

theorem cat_assoc (L M N : List Int → Prop) (w : List Int) : Cat (Cat L M) N w ↔ Cat L (Cat M N) w := by
  constructor
  · rintro ⟨_, v, rfl, ⟨a, b, rfl, h1, h2⟩, h3⟩; exact ⟨a, b ++ v, by simp, h1, b, v, rfl, h2, h3⟩
  · rintro ⟨a, _, rfl, h1, b, v, rfl, h2, h3⟩; exact ⟨a ++ b, v, by simp, ⟨a, b, rfl, h1, h2⟩, h3⟩
theorem cat_eps (L : List Int → Prop) (w : List Int) : Cat L Eps w ↔ L w := by
  constructor
  · rintro ⟨u, v, rfl, h1, rfl⟩; simpa using h1
  · intro h; exact ⟨w, [], by simp, h, rfl⟩
theorem eps_cat (L : List Int → Prop) (w : List Int) : Cat Eps L w ↔ L w := by
  constructor
  · rintro ⟨u, v, rfl, rfl, h1⟩; simpa using h1
  · intro h; exact ⟨[], w, by simp, rfl, h⟩
theorem cat_congr {L L' M M' : List Int → Prop} (h : ∀ w, L w ↔ L' w) (k : ∀ w, M w ↔ M' w) (w : List Int) : Cat L M w ↔ Cat L' M' w := by
  constructor
  · rintro ⟨u, v, rfl, h1, h2⟩; exact ⟨u, v, rfl, (h _).1 h1, (k _).1 h2⟩
  · rintro ⟨u, v, rfl, h1, h2⟩; exact ⟨u, v, rfl, (h _).2 h1, (k _).2 h2⟩

theorem pow_succ (L : List Int → Prop) (n : Nat) (w : List Int) : Pow L (n + 1) w ↔ Cat L (Pow L n) w := Iff.rfl
theorem pow_zero (L : List Int → Prop) (w : List Int) : Pow L 0 w ↔ Eps w := Iff.rfl
theorem pow_snoc (L : List Int → Prop) : ∀ (n : Nat) (w : List Int), Pow L (n + 1) w ↔ Cat (Pow L n) L w
  | 0, w => by
    rw [pow_succ]
    exact (cat_congr (fun _ => Iff.rfl) (fun _ => pow_zero L _) w).trans ((cat_eps L w).trans ((eps_cat L w).symm.trans (cat_congr (fun _ => (pow_zero L _).symm) (fun _ => Iff.rfl) w)))
  | n + 1, w => by
    rw [pow_succ]
    exact (cat_congr (fun _ => Iff.rfl) (fun _ => pow_snoc L n _) w).trans ((cat_assoc _ _ _ w).symm.trans (cat_congr (fun _ => (pow_succ L n _).symm) (fun _ => Iff.rfl) w))
theorem pow_add (L : List Int → Prop) (m : Nat) : ∀ (n : Nat) (w : List Int), Pow L (m + n) w ↔ Cat (Pow L m) (Pow L n) w
  | 0, w => ((cat_congr (fun _ => Iff.rfl) (fun _ => pow_zero L _) w).trans (cat_eps _ w)).symm
  | n + 1, w => by
    have := pow_snoc L (m + n) w
    rw [show m + (n + 1) = m + n + 1 by omega, this]
    exact (cat_congr (pow_add L m n) (fun _ => Iff.rfl) w).trans ((cat_assoc _ _ _ w).trans (cat_congr (fun _ => Iff.rfl) (fun _ => (pow_snoc L n _).symm) w))

theorem langJ_nil (w : List Int) : LangJ [] w ↔ Eps w := by simp only [LangJ, Eps]
theorem langJ_cons (x : Tree) (l : List Tree) (w : List Int) : LangJ (x :: l) w ↔ Cat (Lang x) (LangJ l) w := by simp only [LangJ, Cat]
theorem langJ_append (l : List Tree) : ∀ (m : List Tree) (w : List Int), LangJ (l ++ m) w ↔ Cat (LangJ l) (LangJ m) w := by
  induction l with
  | nil => intro m w; exact ((cat_congr langJ_nil (fun _ => Iff.rfl) w).trans (eps_cat _ w)).symm
  | cons x l ih =>
    intro m w
    rw [List.cons_append, langJ_cons]
    exact (cat_congr (fun _ => Iff.rfl) (ih m) w).trans ((cat_assoc _ _ _ w).symm.trans (cat_congr (fun _ => (langJ_cons x l _).symm) (fun _ => Iff.rfl) w))
theorem langC_iff (l : List Tree) (w : List Int) : LangC l w ↔ ∃ x, x ∈ l ∧ Lang x w := by
  induction l with
  | nil => simp [LangC]
  | cons x l ih => simp [LangC, ih]

/- places in a text -/

/-- The part of a text between two places. -/
def part (t : List Int) (i j : Nat) : List Int := (t.take j).drop i

/-- Where texts of a language can end that begin at some places. -/
def Post (t : List Int) (L : List Int → Prop) (p : Nat → Prop) : Nat → Prop := fun j => ∃ i, p i ∧ i ≤ j ∧ j ≤ t.length ∧ L (part t i j)

open Classical in
/-- Places as the program has them. -/
noncomputable def places (t : List Int) (p : Nat → Prop) : List Bool := (List.range (t.length + 1)).map fun j => decide (p j)

theorem places_length (t : List Int) (p : Nat → Prop) : (places t p).length = t.length + 1 := by simp [places]
theorem places_get {t : List Int} {p : Nat → Prop} {j : Nat} (h : j ≤ t.length) : ((places t p).getD j false = true) ↔ p j := by
  have h' : j < t.length + 1 := by omega
  simp [places, List.getD_eq_getElem?_getD, h']
theorem places_congr {t : List Int} {p q : Nat → Prop} (h : ∀ j, j ≤ t.length → (p j ↔ q j)) : places t p = places t q := by
  unfold places
  refine List.map_congr_left fun j hj => ?_
  rw [List.mem_range] at hj
  exact decide_eq_decide.2 (h j (by omega))
theorem places_of {t : List Int} {b : List Bool} (h : b.length = t.length + 1) : b = places t fun j => b.getD j false = true := by
  refine List.ext_getElem (by rw [places_length, h]) fun j h1 h2 => ?_
  simp [places, List.getD_eq_getElem?_getD, h1]

theorem part_split (t : List Int) {i k j : Nat} (h : i ≤ k) (h' : k ≤ j) (hj : j ≤ t.length) : part t i j = part t i k ++ part t k j := by
  unfold part
  have e1 : ((t.take j).drop i).take (k - i) = (t.take k).drop i := by
    rw [List.drop_take, List.take_take, List.drop_take, Nat.min_eq_left (by omega)]
  have e2 : ((t.take j).drop i).drop (k - i) = (t.take j).drop k := by
    rw [List.drop_drop, show i + (k - i) = k by omega]
  rw [← e1, ← e2, List.take_append_drop]
theorem part_length (t : List Int) {i j : Nat} (h : j ≤ t.length) : (part t i j).length = j - i := by simp [part]; omega

/-- Reading one language and then another is reading both. -/
theorem post_cat (t : List Int) (L M : List Int → Prop) (p : Nat → Prop) {j : Nat} (hj : j ≤ t.length) : Post t M (Post t L p) j ↔ Post t (Cat L M) p j := by
  constructor
  · rintro ⟨k, ⟨i, hp, h1, h2, h3⟩, h4, h5, h6⟩
    exact ⟨i, hp, Nat.le_trans h1 h4, h5, part t i k, part t k j, part_split t h1 h4 h5, h3, h6⟩
  · rintro ⟨i, hp, h1, h2, u, v, he, hu, hv⟩
    have hl := part_length t (i := i) h2
    rw [he, List.length_append] at hl
    have hk : i + u.length ≤ j := by omega
    have hs := part_split t (Nat.le_add_right i u.length) hk h2
    have hu' : (part t i (i + u.length)).length = u.length := by rw [part_length t (by omega)]; omega
    rw [hs] at he
    obtain ⟨e1, e2⟩ := List.append_inj he hu'
    exact ⟨i + u.length, ⟨i, hp, Nat.le_add_right _ _, by omega, by rw [e1]; exact hu⟩, hk, h2, by rw [e2]; exact hv⟩
theorem post_eps (t : List Int) (p : Nat → Prop) {j : Nat} (hj : j ≤ t.length) : Post t Eps p j ↔ p j := by
  constructor
  · rintro ⟨i, hp, h1, h2, h3⟩
    have hl := part_length t (i := i) h2
    rw [show part t i j = [] from h3] at hl
    simp at hl
    obtain rfl : i = j := by omega
    exact hp
  · intro hp; exact ⟨j, hp, Nat.le_refl _, hj, by simp only [Eps, part]; exact List.drop_of_length_le (by simp; omega)⟩
theorem post_congr {t : List Int} {L M : List Int → Prop} (h : ∀ w, L w ↔ M w) (p : Nat → Prop) (j : Nat) : Post t L p j ↔ Post t M p j := by
  constructor <;> rintro ⟨i, hp, h1, h2, h3⟩
  · exact ⟨i, hp, h1, h2, (h _).1 h3⟩
  · exact ⟨i, hp, h1, h2, (h _).2 h3⟩
theorem post_mono {t : List Int} {L : List Int → Prop} {p q : Nat → Prop} (h : ∀ i, i ≤ t.length → p i → q i) {j : Nat} (hj : Post t L p j) : Post t L q j := by
  obtain ⟨i, hp, h1, h2, h3⟩ := hj
  exact ⟨i, h i (by omega) hp, h1, h2, h3⟩
theorem post_le {t : List Int} {L : List Int → Prop} {p : Nat → Prop} {j : Nat} (h : Post t L p j) : j ≤ t.length := let ⟨_, _, _, h, _⟩ := h; h

theorem part_one (t : List Int) {i : Nat} (hi : i < t.length) : part t i (i + 1) = [t.getD i 0] := by
  have e : t.drop i = t.getD i 0 :: t.drop (i + 1) := by
    rw [List.drop_eq_getElem_cons hi, List.getD_eq_getElem?_getD, List.getElem?_eq_getElem hi]; rfl
  unfold part
  rw [List.drop_take, show i + 1 - i = 1 by omega, e]
  rfl

/-- A set: one character further. -/
theorem post_set (t : List Int) (s : List (Int × Int)) (p : Nat → Prop) (j : Nat) :
    Post t (fun w => ∃ c, w = [c] ∧ InSet s c) p j ↔ ∃ i, j = i + 1 ∧ i < t.length ∧ p i ∧ InSet s (t.getD i 0) := by
  constructor
  · rintro ⟨i, hp, h1, h2, c, hc, hs⟩
    have hl := part_length t (i := i) h2
    rw [hc] at hl
    simp at hl
    have hj : j = i + 1 := by omega
    subst hj
    refine ⟨i, rfl, by omega, hp, ?_⟩
    have : part t i (i + 1) = [t.getD i 0] := by
      have hi : i < t.length := by omega
      exact part_one t hi
    rw [this] at hc
    cases hc; exact hs
  · rintro ⟨i, rfl, hi, hp, hs⟩
    refine ⟨i, hp, by omega, by omega, t.getD i 0, ?_, hs⟩
    exact part_one t hi

/-- Copies from a number to another. -/
def Upto (L : List Int → Prop) (a k : Nat) : List Int → Prop := fun w => ∃ n, a ≤ n ∧ n ≤ k ∧ Pow L n w
def From (L : List Int → Prop) (a : Nat) : List Int → Prop := fun w => ∃ n, a ≤ n ∧ Pow L n w

/-- Where one copy more finds nothing new, no number of copies does. -/
theorem upto_stable (t : List Int) (L : List Int → Prop) (p : Nat → Prop) (a k : Nat) (hak : a ≤ k) (h : ∀ j, Post t (Pow L (k + 1)) p j → Post t (Upto L a k) p j) :
    ∀ n, k ≤ n → ∀ j, Post t (Upto L a n) p j → Post t (Upto L a k) p j := by
  have step : ∀ n, k < n → ∀ j, Post t (Pow L n) p j → Post t (Upto L a k) p j := by
    intro n hn
    induction n with
    | zero => omega
    | succ n ih =>
      intro j hj
      rcases Nat.lt_or_ge k n with hk | hk
      · have hjl := post_le hj
        have h1 : Post t L (Post t (Pow L n) p) j := (post_cat t _ _ p hjl).2 ((post_congr (fun w => pow_snoc L n w) p j).1 hj)
        have h2 : Post t L (Post t (Upto L a k) p) j := post_mono (fun i _ hi => ih hk i hi) h1
        have h3 := (post_cat t _ _ p hjl).1 h2
        obtain ⟨i, hp, i1, i2, u, v, he, ⟨m, m1, m2, hu⟩, hv⟩ := h3
        have h4 : Pow L (m + 1) (part t i j) := (pow_snoc L m _).2 ⟨u, v, he, hu, hv⟩
        rcases Nat.lt_or_ge m k with hm | hm
        · exact ⟨i, hp, i1, i2, m + 1, by omega, by omega, h4⟩
        · obtain rfl : m = k := by omega
          exact h j ⟨i, hp, i1, i2, h4⟩
      · obtain rfl : n = k := by omega
        exact h j hj
  intro n hn j hj
  obtain ⟨i, hp, i1, i2, m, m1, m2, hm⟩ := hj
  rcases Nat.lt_or_ge k m with hk | hk
  · exact step m hk j ⟨i, hp, i1, i2, hm⟩
  · exact ⟨i, hp, i1, i2, m, m1, hk, hm⟩
end Pat
