/- Part of a proof about the functions of this seat. -/
import Derived.Test.YtefpcfooahogkaaGreatDoorG09Base3z
import Derived.Test.YtefpcfooahogkaaGreatDoorG11De3z
/- Trees of patterns: which texts they match, and where these end. Plain: no program. -/
set_option linter.unusedVariables false
set_option linter.unusedSimpArgs false
namespace Pat

inductive Tree where
  | mk (kind : Int) (set : List (Int × Int)) (sub : List Tree) (min max : Int)
instance : Inhabited Tree := ⟨.mk 0 [] [] 0 0⟩

namespace Tree
def kind : Tree → Int | .mk k _ _ _ _ => k
def set : Tree → List (Int × Int) | .mk _ s _ _ _ => s
def sub : Tree → List Tree | .mk _ _ l _ _ => l
def min : Tree → Int | .mk _ _ _ a _ => a
def max : Tree → Int | .mk _ _ _ _ b => b
end Tree

mutual
theorem Tree.ind {p : Tree → Prop} (h : ∀ k s sub a b, (∀ x, x ∈ sub → p x) → p (.mk k s sub a b)) : ∀ n, p n
  | .mk k s sub a b => h k s sub a b (Tree.indL h sub)
theorem Tree.indL {p : Tree → Prop} (h : ∀ k s sub a b, (∀ x, x ∈ sub → p x) → p (.mk k s sub a b)) : ∀ (l : List Tree) (x : Tree), x ∈ l → p x
  | [], x, hx => by cases hx
  | y :: l, x, hx => by
    rcases List.mem_cons.1 hx with hx | hx
    · rw [hx]; exact Tree.ind h y
    · exact Tree.indL h l x hx
end

mutual
def Tree.nodes : Tree → Nat
  | .mk _ _ l _ _ => 1 + Tree.nodesL l
def Tree.nodesL : List Tree → Nat
  | [] => 0
  | x :: l => Tree.nodes x + Tree.nodesL l
end

/-- A number of copies, one after the other. -/
def Pow (L : List Int → Prop) : Nat → List Int → Prop
  | 0, w => w = []
  | n + 1, w => ∃ u v, w = u ++ v ∧ L u ∧ Pow L n v

def InSet (s : List (Int × Int)) (c : Int) : Prop := ∃ r, r ∈ s ∧ r.1 ≤ c ∧ c ≤ r.2

/-- Texts of one language, then of another. -/
def Cat (L M : List Int → Prop) : List Int → Prop := fun w => ∃ u v, w = u ++ v ∧ L u ∧ M v
def Eps : List Int → Prop := fun w => w = []

mutual
def Lang : Tree → List Int → Prop
  | .mk k s l a b, w =>
    if k = 1 then w = []
    else if k = 2 then ∃ c, w = [c] ∧ InSet s c
    else if k = 3 then LangJ l w
    else if k = 4 then LangC l w
    else if k = 5 then ∃ n : Nat, a ≤ (n : Int) ∧ (b < 0 ∨ (n : Int) ≤ b) ∧ LangP l n w
    else False
def LangJ : List Tree → List Int → Prop
  | [], w => w = []
  | x :: l, w => ∃ u v, w = u ++ v ∧ Lang x u ∧ LangJ l v
def LangC : List Tree → List Int → Prop
  | [], _ => False
  | x :: l, w => Lang x w ∨ LangC l w
def LangP : List Tree → Nat → List Int → Prop
  | [], _, _ => False
  | x :: _, n, w => Pow (fun u => Lang x u) n w
end

theorem cat_assoc (L M N : List Int → Prop) (w : List Int) : Cat (Cat L M) N w ↔ Cat L (Cat M N) w := by
  constructor
  · rintro ⟨_, v, rfl, ⟨a, b, rfl, h1, h2⟩, h3⟩; exact ⟨a, b ++ v, by simp, h1, b, v, rfl, h2, h3⟩
  · rintro ⟨a, _, rfl, h1, b, v, rfl, h2, h3⟩; exact ⟨a ++ b, v, by simp, ⟨a, b, rfl, h1, h2⟩, h3⟩
theorem cat_eps (L : List Int → Prop) (w : List Int) : Cat L Eps w ↔ L w := by
  constructor
  · rintro ⟨u, v, rfl, h1, rfl⟩; simpa using h1
  · intro h; exact ⟨w, [], by simp, h, rfl⟩
theorem eps_cat (L : List Int → Prop) (w : List Int) : Cat Eps L w ↔ L w := by
  constructor
  · rintro ⟨u, v, rfl, rfl, h1⟩; simpa using h1
  · intro h; exact ⟨[], w, by simp, rfl, h⟩
theorem cat_congr {L L' M M' : List Int → Prop} (h : ∀ w, L w ↔ L' w) (k : ∀ w, M w ↔ M' w) (w : List Int) : Cat L M w ↔ Cat L' M' w := by
  constructor
  · rintro ⟨u, v, rfl, h1, h2⟩; exact ⟨u, v, rfl, (h _).1 h1, (k _).1 h2⟩
  · rintro ⟨u, v, rfl, h1, h2⟩; exact ⟨u, v, rfl, (h _).2 h1, (k _).2 h2⟩

theorem pow_succ (L : List Int → Prop) (n : Nat) (w : List Int) : Pow L (n + 1) w ↔ Cat L (Pow L n) w := Iff.rfl
theorem pow_zero (L : List Int → Prop) (w : List Int) : Pow L 0 w ↔ Eps w := Iff.rfl
theorem pow_snoc (L : List Int → Prop) : ∀ (n : Nat) (w : List Int), Pow L (n + 1) w ↔ Cat (Pow L n) L w
  | 0, w => by
    rw [pow_succ]
    exact (cat_congr (fun _ => Iff.rfl) (fun _ => pow_zero L _) w).trans ((cat_eps L w).trans ((eps_cat L w).symm.trans (cat_congr (fun _ => (pow_zero L _).symm) (fun _ => Iff.rfl) w)))
  | n + 1, w => by
    rw [pow_succ]
    exact (cat_congr (fun _ => Iff.rfl) (fun _ => pow_snoc L n _) w).trans ((cat_assoc _ _ _ w).symm.trans (cat_congr (fun _ => (pow_succ L n _).symm) (fun _ => Iff.rfl) w))
theorem pow_add (L : List Int → Prop) (m : Nat) : ∀ (n : Nat) (w : List Int), Pow L (m + n) w ↔ Cat (Pow L m) (Pow L n) w
  | 0, w => ((cat_congr (fun _ => Iff.rfl) (fun _ => pow_zero L _) w).trans (cat_eps _ w)).symm
  | n + 1, w => by
    have := pow_snoc L (m + n) w
    rw [show m + (n + 1) = m + n + 1 by omega, this]
    exact (cat_congr (pow_add L m n) (fun _ => Iff.rfl) w).trans ((cat_assoc _ _ _ w).trans (cat_congr (fun _ => Iff.rfl) (fun _ => (pow_snoc L n _).symm) w))

theorem langJ_nil (w : List Int) : LangJ [] w ↔ Eps w := by simp only [LangJ, Eps]
theorem langJ_cons (x : Tree) (l : List Tree) (w : List Int) : LangJ (x :: l) w ↔ Cat (Lang x) (LangJ l) w := by simp only [LangJ, Cat]
theorem langJ_append (l : List Tree) : ∀ (m : List Tree) (w : List Int), LangJ (l ++ m) w ↔ Cat (LangJ l) (LangJ m) w := by
  induction l with
  | nil => intro m w; exact ((cat_congr langJ_nil (fun _ => Iff.rfl) w).trans (eps_cat _ w)).symm
  | cons x l ih =>
    intro m w
    rw [List.cons_append, langJ_cons]
    exact (cat_congr (fun _ => Iff.rfl) (ih m) w).trans ((cat_assoc _ _ _ w).symm.trans (cat_congr (fun _ => (langJ_cons x l _).symm) (fun _ => Iff.rfl) w))
theorem langC_iff (l : List Tree) (w : List Int) : LangC l w ↔ ∃ x, x ∈ l ∧ Lang x w := by
  induction l with
  | nil => simp [LangC]
  | cons x l ih => simp [LangC, ih]

/- places in a text -/

/-- The part of a text between two places. -/
def part (t : List Int) (i j : Nat) : List Int := (t.take j).drop i

/-- Where texts of a language can end that begin at some places. -/
def Post (t : List Int) (L : List Int → Prop) (p : Nat → Prop) : Nat → Prop := fun j => ∃ i, p i ∧ i ≤ j ∧ j ≤ t.length ∧ L (part t i j)

open Classical in
/-- Places as the program has them. -/
noncomputable def places (t : List Int) (p : Nat → Prop) : List Bool := (List.range (t.length + 1)).map fun j => decide (p j)

theorem places_length (t : List Int) (p : Nat → Prop) : (places t p).length = t.length + 1 := by simp [places]
theorem places_get {t : List Int} {p : Nat → Prop} {j : Nat} (h : j ≤ t.length) : ((places t p).getD j false = true) ↔ p j := by
  have h' : j < t.length + 1 := by omega
  simp [places, List.getD_eq_getElem?_getD, h']
theorem places_congr {t : List Int} {p q : Nat → Prop} (h : ∀ j, j ≤ t.length → (p j ↔ q j)) : places t p = places t q := by
  unfold places
  refine List.map_congr_left fun j hj => ?_
  rw [List.mem_range] at hj
  exact decide_eq_decide.2 (h j (by omega))
theorem places_of {t : List Int} {b : List Bool} (h : b.length = t.length + 1) : b = places t fun j => b.getD j false = true := by
  refine List.ext_getElem (by rw [places_length, h]) fun j h1 h2 => ?_
  simp [places, List.getD_eq_getElem?_getD, h1]

theorem part_split (t : List Int) {i k j : Nat} (h : i ≤ k) (h' : k ≤ j) (hj : j ≤ t.length) : part t i j = part t i k ++ part t k j := by
  unfold part
  have e1 : ((t.take j).drop i).take (k - i) = (t.take k).drop i := by
    rw [List.drop_take, List.take_take, List.drop_take, Nat.min_eq_left (by omega)]
  have e2 : ((t.take j).drop i).drop (k - i) = (t.take j).drop k := by
    rw [List.drop_drop, show i + (k - i) = k by omega]
  rw [← e1, ← e2, List.take_append_drop]
theorem part_length (t : List Int) {i j : Nat} (h : j ≤ t.length) : (part t i j).length = j - i := by simp [part]; omega

/-- Reading one language and then another is reading both. -/
theorem post_cat (t : List Int) (L M : List Int → Prop) (p : Nat → Prop) {j : Nat} (hj : j ≤ t.length) : Post t M (Post t L p) j ↔ Post t (Cat L M) p j := by
  constructor
  · rintro ⟨k, ⟨i, hp, h1, h2, h3⟩, h4, h5, h6⟩
    exact ⟨i, hp, Nat.le_trans h1 h4, h5, part t i k, part t k j, part_split t h1 h4 h5, h3, h6⟩
  · rintro ⟨i, hp, h1, h2, u, v, he, hu, hv⟩
    have hl := part_length t (i := i) h2
    rw [he, List.length_append] at hl
    have hk : i + u.length ≤ j := by omega
    have hs := part_split t (Nat.le_add_right i u.length) hk h2
    have hu' : (part t i (i + u.length)).length = u.length := by rw [part_length t (by omega)]; omega
    rw [hs] at he
    obtain ⟨e1, e2⟩ := List.append_inj he hu'
    exact ⟨i + u.length, ⟨i, hp, Nat.le_add_right _ _, by omega, by rw [e1]; exact hu⟩, hk, h2, by rw [e2]; exact hv⟩
theorem post_eps (t : List Int) (p : Nat → Prop) {j : Nat} (hj : j ≤ t.length) : Post t Eps p j ↔ p j := by
  constructor
  · rintro ⟨i, hp, h1, h2, h3⟩
    have hl := part_length t (i := i) h2
    rw [show part t i j = [] from h3] at hl
    simp at hl
    obtain rfl : i = j := by omega
    exact hp
  · intro hp; exact ⟨j, hp, Nat.le_refl _, hj, by simp only [Eps, part]; exact List.drop_of_length_le (by simp; omega)⟩
theorem post_congr {t : List Int} {L M : List Int → Prop} (h : ∀ w, L w ↔ M w) (p : Nat → Prop) (j : Nat) : Post t L p j ↔ Post t M p j := by
  constructor <;> rintro ⟨i, hp, h1, h2, h3⟩
  · exact ⟨i, hp, h1, h2, (h _).1 h3⟩
  · exact ⟨i, hp, h1, h2, (h _).2 h3⟩
theorem post_mono {t : List Int} {L : List Int → Prop} {p q : Nat → Prop} (h : ∀ i, i ≤ t.length → p i → q i) {j : Nat} (hj : Post t L p j) : Post t L q j := by
  obtain ⟨i, hp, h1, h2, h3⟩ := hj
  exact ⟨i, h i (by omega) hp, h1, h2, h3⟩
theorem post_le {t : List Int} {L : List Int → Prop} {p : Nat → Prop} {j : Nat} (h : Post t L p j) : j ≤ t.length := let ⟨_, _, _, h, _⟩ := h; h

theorem part_one (t : List Int) {i : Nat} (hi : i < t.length) : part t i (i + 1) = [t.getD i 0] := by
  have e : t.drop i = t.getD i 0 :: t.drop (i + 1) := by
    rw [List.drop_eq_getElem_cons hi, List.getD_eq_getElem?_getD, List.getElem?_eq_getElem hi]; rfl
  unfold part
  rw [List.drop_take, show i + 1 - i = 1 by omega, e]
  rfl

/-- A set: one character further. -/
theorem post_set (t : List Int) (s : List (Int × Int)) (p : Nat → Prop) (j : Nat) :
    Post t (fun w => ∃ c, w = [c] ∧ InSet s c) p j ↔ ∃ i, j = i + 1 ∧ i < t.length ∧ p i ∧ InSet s (t.getD i 0) := by
  constructor
  · rintro ⟨i, hp, h1, h2, c, hc, hs⟩
    have hl := part_length t (i := i) h2
    rw [hc] at hl
    simp at hl
    have hj : j = i + 1 := by omega
    subst hj
    refine ⟨i, rfl, by omega, hp, ?_⟩
    have : part t i (i + 1) = [t.getD i 0] := by
      have hi : i < t.length := by omega
      exact part_one t hi
    rw [this] at hc
    cases hc; exact hs
  · rintro ⟨i, rfl, hi, hp, hs⟩
    refine ⟨i, hp, by omega, by omega, t.getD i 0, ?_, hs⟩
    exact part_one t hi

/-- Copies from a number to another. -/
def Upto (L : List Int → Prop) (a k : Nat) : List Int → Prop := fun w => ∃ n, a ≤ n ∧ n ≤ k ∧ Pow L n w
def From (L : List Int → Prop) (a : Nat) : List Int → Prop := fun w => ∃ n, a ≤ n ∧ Pow L n w

/-- Where one copy more finds nothing new, no number of copies does. -/
theorem upto_stable (t : List Int) (L : List Int → Prop) (p : Nat → Prop) (a k : Nat) (hak : a ≤ k) (h : ∀ j, Post t (Pow L (k + 1)) p j → Post t (Upto L a k) p j) :
    ∀ n, k ≤ n → ∀ j, Post t (Upto L a n) p j → Post t (Upto L a k) p j := by
  have step : ∀ n, k < n → ∀ j, Post t (Pow L n) p j → Post t (Upto L a k) p j := by
    intro n hn
    induction n with
    | zero => omega
    | succ n ih =>
      intro j hj
      rcases Nat.lt_or_ge k n with hk | hk
      · have hjl := post_le hj
        have h1 : Post t L (Post t (Pow L n) p) j := (post_cat t _ _ p hjl).2 ((post_congr (fun w => pow_snoc L n w) p j).1 hj)
        have h2 : Post t L (Post t (Upto L a k) p) j := post_mono (fun i _ hi => ih hk i hi) h1
        have h3 := (post_cat t _ _ p hjl).1 h2
        obtain ⟨i, hp, i1, i2, u, v, he, ⟨m, m1, m2, hu⟩, hv⟩ := h3
        have h4 : Pow L (m + 1) (part t i j) := (pow_snoc L m _).2 ⟨u, v, he, hu, hv⟩
        rcases Nat.lt_or_ge m k with hm | hm
        · exact ⟨i, hp, i1, i2, m + 1, by omega, by omega, h4⟩
        · obtain rfl : m = k := by omega
          exact h j ⟨i, hp, i1, i2, h4⟩
      · obtain rfl : n = k := by omega
        exact h j hj
  intro n hn j hj
  obtain ⟨i, hp, i1, i2, m, m1, m2, hm⟩ := hj
  rcases Nat.lt_or_ge k m with hk | hk
  · exact step m hk j ⟨i, hp, i1, i2, hm⟩
  · exact ⟨i, hp, i1, i2, m, m1, hk, hm⟩
end Pat
set_option linter.unusedVariables false
set_option linter.unusedSimpArgs false
set_option maxRecDepth 100000
namespace Go.Proofs.YtefpcfooahogkaaGreatDoor
open Go Nv Pat

def rgD (r : Int × Int) : DV := .agg [.int .i32 r.1, .int .i32 r.2]
def setD (s : List (Int × Int)) : DV := .list 2 (s.map rgD)
@[go_sem] theorem one_setD (s : List (Int × Int)) : (AV.d (setD s)).one = true := nrfl rfl
mutual
def nodeD : Tree → DV
  | .mk k s l a b => .agg [.int .i64 k, setD s, .list 5 (nodesD l), .int .i64 a, .int .i64 b]
def nodesD : List Tree → List DV
  | [] => []
  | x :: l => nodeD x :: nodesD l
end
theorem nodesD_map : ∀ l : List Tree, nodesD l = l.map nodeD
  | [] => rfl
  | x :: l => by rw [nodesD, nodesD_map l]; rfl
def nodeC (n : Tree) : List DV := [.int .i64 n.kind, setD n.set, .list 5 (n.sub.map nodeD), .int .i64 n.min, .int .i64 n.max]
theorem nodeD_eq : ∀ n : Tree, nodeD n = .agg (nodeC n)
  | .mk k s l a b => by simp only [nodeD, nodeC, nodesD_map, Tree.kind, Tree.set, Tree.sub, Tree.min, Tree.max]
def nodeF (n : Tree) : List AV := [.d (.int .i64 n.kind), .d (setD n.set), .d (.list 5 (n.sub.map nodeD)), .d (.int .i64 n.min), .d (.int .i64 n.max)]
def nodeA (n : Tree) : AV := .agg (nodeF n)

theorem nodesL_append : ∀ l m : List Tree, Tree.nodesL (l ++ m) = Tree.nodesL l + Tree.nodesL m
  | [], m => by simp [Tree.nodesL]
  | x :: l, m => by simp only [List.cons_append, Tree.nodesL, nodesL_append l m]; omega
theorem take_succ' {α : Type} [Inhabited α] (l : List α) (k : Nat) (h : k < l.length) : l.take (k + 1) = l.take k ++ [l.getD k default] := by
  rw [List.take_succ_eq_append_getElem h]; simp [List.getD_eq_getElem?_getD, h]
theorem getD_mem {α : Type} [Inhabited α] (l : List α) (k : Nat) (h : k < l.length) : l.getD k default ∈ l := by
  rw [List.getD_eq_getElem?_getD, List.getElem?_eq_getElem h]; exact List.getElem_mem _
theorem nodesL_take (l : List Tree) (k : Nat) : Tree.nodesL (l.take k) ≤ Tree.nodesL l := by
  have := nodesL_append (l.take k) (l.drop k)
  rw [List.take_append_drop] at this
  omega
theorem length_nodesL : ∀ l : List Tree, l.length ≤ Tree.nodesL l
  | [] => Nat.le_refl _
  | x :: l => by
    have := length_nodesL l
    have h1 : 1 ≤ x.nodes := by cases x; simp only [Tree.nodes]; omega
    simp only [List.length_cons, Tree.nodesL]; omega
theorem nodes_mem : ∀ (l : List Tree) (x : Tree), x ∈ l → x.nodes ≤ Tree.nodesL l
  | y :: l, x, h => by
    rcases List.mem_cons.1 h with h | h
    · rw [h, Tree.nodesL]; omega
    · have := nodes_mem l x h
      rw [Tree.nodesL]; omega
theorem nodes_eq : ∀ n : Tree, n.nodes = 1 + Tree.nodesL n.sub
  | .mk k s l a b => by simp only [Tree.nodes, Tree.sub]
theorem nodes_pos (n : Tree) : 1 ≤ n.nodes := by rw [nodes_eq]; omega

/-- The number of nodes, as long as it is not greater than a limit. -/
def cnt (n : Tree) (lim : Nat) : Nat := min n.nodes (lim + 1)

theorem count25 : ∀ (n : Tree) (lim : Nat), lim ≤ 1000000 → PCall Tryz.prog 60 [nodeA n, .d (.int .i64 lim)] (.d (.int .i64 (cnt n lim))) := by
  intro n
  induction n using Tree.ind with
  | h k s sub a b ih =>
    intro lim hlim
    refine fn60.pure noHint (Nat.le_refl _) (by simp only [go_sem, nodeA, nodeF, setD]) (by simp only [go_sem]) ?_
    simp (disch := omega) only [go_sem, reduceIte, reduceCtorEq, Nat.reduceBEq, Nat.reduceEqDiff, Nat.reduceAdd, Nat.reduceLT, Nat.reduceLeDiff, Int.reduceNeg, Int.reduceAdd, Int.reduceLT, Int.reduceLE, Int.reduceEq, Int.reduceNe, nodeA, nodeF, Tree.kind, Tree.set, Tree.sub, Tree.min, Tree.max, setD]
    have hn : (Tree.mk k s sub a b).nodes = 1 + Tree.nodesL sub := nodes_eq _
    refine wL_ind (fun (j : Nat) fr σ => j ≤ sub.length ∧ fr 1 = .d (.int .i64 lim) ∧ fr 5 = .d (.int .i64 (min (1 + Tree.nodesL (sub.take j)) (lim + 1) : Nat)) ∧ fr 9 = .d (.list 5 (sub.map nodeD)) ∧ fr 10 = .d (.int .i64 sub.length) ∧ fr 11 = .d (.int .i64 j)) (fun j => sub.length - j) ?_ 0 ?_
    · rintro j fr σ ⟨hj, f1, f5, f9, f10, f11⟩ ih2
      obtain ⟨o, ho⟩ : ∃ o, o = min (1 + Tree.nodesL (sub.take j)) (lim + 1) := ⟨_, rfl⟩
      rw [← ho] at f5
      have h1 := nodesL_take sub j
      by_cases hlt : j < sub.length
      · by_cases hgt : lim < o
        · have hgt' : (lim : Int) < o := by omega
          have e : cnt (.mk k s sub a b) lim = o := by rw [cnt, hn]; omega
          simp (disch := omega) only [go_sem, reduceIte, reduceCtorEq, Nat.reduceBEq, Nat.reduceEqDiff, Nat.reduceAdd, Nat.reduceLT, Nat.reduceLeDiff, Int.reduceNeg, Int.reduceAdd, Int.reduceLT, Int.reduceLE, Int.reduceEq, Int.reduceNe, f1, f5, f9, f10, f11, hlt, nodeD_eq, nodeC, hgt', e]
        · have hgt' : ¬ (lim : Int) < o := by omega
          obtain ⟨x, hx⟩ : ∃ x, x = sub.getD j default := ⟨_, rfl⟩
          have hxm : x ∈ sub := by rw [hx]; exact getD_mem sub j hlt
          have e1 : (lim : Int) - o = ((lim - o : Nat) : Int) := by omega
          simp (disch := omega) only [go_sem, reduceIte, reduceCtorEq, Nat.reduceBEq, Nat.reduceEqDiff, Nat.reduceAdd, Nat.reduceLT, Nat.reduceLeDiff, Int.reduceNeg, Int.reduceAdd, Int.reduceLT, Int.reduceLE, Int.reduceEq, Int.reduceNe, f1, f5, f9, f10, f11, hlt, nodeD_eq, nodeC, hgt', ← hx, e1]
          refine (ih x hxm (lim - o) (by omega)).at ?_
          have hjl := length_nodesL (sub.take j)
          rw [List.length_take] at hjl
          have hc : cnt x (lim - o) ≤ lim - o + 1 := by rw [cnt]; omega
          have e2 : (o : Int) + cnt x (lim - o) = ((o + cnt x (lim - o) : Nat) : Int) := by omega
          have hj2 : j + 1 ≤ 1000001 := by omega
          clear hjl
          simp (disch := omega) only [go_sem, reduceIte, reduceCtorEq, Nat.reduceBEq, Nat.reduceEqDiff, Nat.reduceAdd, Nat.reduceLT, Nat.reduceLeDiff, Int.reduceNeg, Int.reduceAdd, Int.reduceLT, Int.reduceLE, Int.reduceEq, Int.reduceNe, f5, f11, e2]
          refine ih2 (j + 1) _ _ (by omega) ⟨by omega, ?_, ?_, ?_, ?_, ?_⟩
          · simp (disch := omega) only [go_sem, reduceIte, reduceCtorEq, Nat.reduceBEq, Nat.reduceEqDiff, Nat.reduceAdd, Nat.reduceLT, Nat.reduceLeDiff, Int.reduceNeg, Int.reduceAdd, Int.reduceLT, Int.reduceLE, Int.reduceEq, Int.reduceNe, f1]
          · rw [take_succ' sub j hlt, nodesL_append, ← hx]
            have e3 : min (1 + (Tree.nodesL (sub.take j) + Tree.nodesL [x])) (lim + 1) = o + cnt x (lim - o) := by simp only [Tree.nodesL, cnt]; omega
            rw [e3]; simp (disch := omega) only [go_sem, reduceIte, reduceCtorEq, Nat.reduceBEq, Nat.reduceEqDiff, Nat.reduceAdd, Nat.reduceLT, Nat.reduceLeDiff, Int.reduceNeg, Int.reduceAdd, Int.reduceLT, Int.reduceLE, Int.reduceEq, Int.reduceNe]
          · simp (disch := omega) only [go_sem, reduceIte, reduceCtorEq, Nat.reduceBEq, Nat.reduceEqDiff, Nat.reduceAdd, Nat.reduceLT, Nat.reduceLeDiff, Int.reduceNeg, Int.reduceAdd, Int.reduceLT, Int.reduceLE, Int.reduceEq, Int.reduceNe, f9]
          · simp (disch := omega) only [go_sem, reduceIte, reduceCtorEq, Nat.reduceBEq, Nat.reduceEqDiff, Nat.reduceAdd, Nat.reduceLT, Nat.reduceLeDiff, Int.reduceNeg, Int.reduceAdd, Int.reduceLT, Int.reduceLE, Int.reduceEq, Int.reduceNe, f10]
          · simp (disch := omega) only [go_sem, reduceIte, reduceCtorEq, Nat.reduceBEq, Nat.reduceEqDiff, Nat.reduceAdd, Nat.reduceLT, Nat.reduceLeDiff, Int.reduceNeg, Int.reduceAdd, Int.reduceLT, Int.reduceLE, Int.reduceEq, Int.reduceNe]
      · have e : cnt (.mk k s sub a b) lim = o := by rw [cnt, hn, ho, List.take_of_length_le (by omega)]
        simp (disch := omega) only [go_sem, reduceIte, reduceCtorEq, Nat.reduceBEq, Nat.reduceEqDiff, Nat.reduceAdd, Nat.reduceLT, Nat.reduceLeDiff, Int.reduceNeg, Int.reduceAdd, Int.reduceLT, Int.reduceLE, Int.reduceEq, Int.reduceNe, f1, f5, f9, f10, f11, hlt, e]
    · refine ⟨by omega, ?_, ?_, ?_, ?_, ?_⟩
      all_goals simp (disch := omega) only [go_sem, reduceIte, reduceCtorEq, Nat.reduceBEq, Nat.reduceEqDiff, Nat.reduceAdd, Nat.reduceLT, Nat.reduceLeDiff, Int.reduceNeg, Int.reduceAdd, Int.reduceLT, Int.reduceLE, Int.reduceEq, Int.reduceNe]
      have : min (1 + Tree.nodesL []) (lim + 1) = 1 := by simp only [Tree.nodesL]; omega
      rw [this]; rfl
end Go.Proofs.YtefpcfooahogkaaGreatDoor
set_option linter.unusedVariables false
set_option linter.unusedSimpArgs false
set_option maxRecDepth 100000
namespace Go.Proofs.YtefpcfooahogkaaGreatDoor
open Go Nv Pat

def charB (r : Int) : Bool := (decide (0 ≤ r) && decide (r ≤ 55295)) || (decide (57344 ≤ r) && decide (r ≤ 1114111))
theorem charB_iff (r : Int) : charB r = true ↔ (0 ≤ r ∧ r ≤ 55295) ∨ (57344 ≤ r ∧ r ≤ 1114111) := by simp [charB]

theorem char66 (r : Int) : PCall Tryz.prog 83 [.d (.int .i32 r)] (.d (.bool (charB r))) := by
  refine fn83.pure noHint (Nat.le_refl _) (by simp only [go_sem]) (by simp only [go_sem]) ?_
  simp (disch := omega) only [go_sem, reduceIte, reduceCtorEq, Nat.reduceBEq, Nat.reduceEqDiff, Nat.reduceAdd, Nat.reduceLT, Nat.reduceLeDiff, Int.reduceNeg, Int.reduceAdd, Int.reduceLT, Int.reduceLE, Int.reduceEq, Int.reduceNe]
  by_cases h1 : 0 ≤ r
  · by_cases h2 : r ≤ 55295
    · simp (disch := omega) only [go_sem, reduceIte, reduceCtorEq, Nat.reduceBEq, Nat.reduceEqDiff, Nat.reduceAdd, Nat.reduceLT, Nat.reduceLeDiff, Int.reduceNeg, Int.reduceAdd, Int.reduceLT, Int.reduceLE, Int.reduceEq, Int.reduceNe, h1, h2, charB]
    · by_cases h3 : 57344 ≤ r
      · simp (disch := omega) only [go_sem, reduceIte, reduceCtorEq, Nat.reduceBEq, Nat.reduceEqDiff, Nat.reduceAdd, Nat.reduceLT, Nat.reduceLeDiff, Int.reduceNeg, Int.reduceAdd, Int.reduceLT, Int.reduceLE, Int.reduceEq, Int.reduceNe, h1, h2, h3, charB]
      · simp (disch := omega) only [go_sem, reduceIte, reduceCtorEq, Nat.reduceBEq, Nat.reduceEqDiff, Nat.reduceAdd, Nat.reduceLT, Nat.reduceLeDiff, Int.reduceNeg, Int.reduceAdd, Int.reduceLT, Int.reduceLE, Int.reduceEq, Int.reduceNe, h1, h2, h3, charB]
  · by_cases h3 : 57344 ≤ r
    · omega
    · simp (disch := omega) only [go_sem, reduceIte, reduceCtorEq, Nat.reduceBEq, Nat.reduceEqDiff, Nat.reduceAdd, Nat.reduceLT, Nat.reduceLeDiff, Int.reduceNeg, Int.reduceAdd, Int.reduceLT, Int.reduceLE, Int.reduceEq, Int.reduceNe, h1, h3, charB]

def rgB (r : Int × Int) : Bool := charB r.1 && charB r.2 && decide (r.1 ≤ r.2) && (decide (r.1 < 55296) == decide (r.2 < 55296))
def properFrom : Option Int → List (Int × Int) → Bool
  | _, [] => true
  | none, r :: l => rgB r && properFrom (some r.2) l
  | some q, r :: l => rgB r && decide (2 ≤ r.1 - q) && properFrom (some r.2) l
def properB (s : List (Int × Int)) : Bool := properFrom none s
def prevOf (s : List (Int × Int)) (k : Nat) : Option Int := if k = 0 then none else some (s.getD (k - 1) default).2

theorem proper43 (s : List (Int × Int)) (hs : s.length ≤ 1000000) : PCall Tryz.prog 76 [.d (setD s)] (.d (.bool (properB s))) := by
  refine fn76.pure noHint (Nat.le_refl _) (by simp only [go_sem, setD]) (by simp only [go_sem]) ?_
  simp (disch := omega) only [go_sem, reduceIte, reduceCtorEq, Nat.reduceBEq, Nat.reduceEqDiff, Nat.reduceAdd, Nat.reduceLT, Nat.reduceLeDiff, Int.reduceNeg, Int.reduceAdd, Int.reduceLT, Int.reduceLE, Int.reduceEq, Int.reduceNe, setD]
  refine wL_ind (fun (k : Nat) fr σ => k ≤ s.length ∧ fr 0 = .d (.list 2 (s.map rgD)) ∧ fr 5 = .d (.list 2 (s.map rgD)) ∧ fr 6 = .d (.int .i64 s.length) ∧ fr 7 = .d (.int .i64 k) ∧
    properFrom (prevOf s k) (s.drop k) = properB s ∧ (0 < k → 0 ≤ (s.getD (k - 1) default).2 ∧ (s.getD (k - 1) default).2 ≤ 1114111)) (fun k => s.length - k) ?_ 0 ?_
  · rintro k fr σ ⟨hk, f0, f5, f6, f7, hp, hq⟩ ih
    by_cases hlt : k < s.length
    · obtain ⟨r, hr⟩ : ∃ r, r = s.getD k default := ⟨_, rfl⟩
      have hd : s.drop k = r :: s.drop (k + 1) := by rw [hr]; exact drop_getD s k hlt
      rw [hd] at hp
      have bad : rgB r = false → properB s = false := fun h => by
        rw [← hp]; cases prevOf s k <;> simp only [properFrom, h, Bool.false_and]
      simp (disch := omega) only [go_sem, reduceIte, reduceCtorEq, Nat.reduceBEq, Nat.reduceEqDiff, Nat.reduceAdd, Nat.reduceLT, Nat.reduceLeDiff, Int.reduceNeg, Int.reduceAdd, Int.reduceLT, Int.reduceLE, Int.reduceEq, Int.reduceNe, f0, f5, f6, f7, hlt, rgD, ← hr]
      refine (char66 r.1).at ?_
      by_cases c1 : charB r.1 = true
      · simp (disch := omega) only [go_sem, reduceIte, reduceCtorEq, Nat.reduceBEq, Nat.reduceEqDiff, Nat.reduceAdd, Nat.reduceLT, Nat.reduceLeDiff, Int.reduceNeg, Int.reduceAdd, Int.reduceLT, Int.reduceLE, Int.reduceEq, Int.reduceNe, c1]
        refine (char66 r.2).at ?_
        by_cases c2 : charB r.2 = true
        · simp (disch := omega) only [go_sem, reduceIte, reduceCtorEq, Nat.reduceBEq, Nat.reduceEqDiff, Nat.reduceAdd, Nat.reduceLT, Nat.reduceLeDiff, Int.reduceNeg, Int.reduceAdd, Int.reduceLT, Int.reduceLE, Int.reduceEq, Int.reduceNe, c2]
          by_cases c3 : r.2 < r.1
          · have e := bad (by simp only [rgB, Bool.and_eq_false_iff, decide_eq_false_iff_not]; exact .inl (.inr (by omega)))
            simp (disch := omega) only [go_sem, reduceIte, reduceCtorEq, Nat.reduceBEq, Nat.reduceEqDiff, Nat.reduceAdd, Nat.reduceLT, Nat.reduceLeDiff, Int.reduceNeg, Int.reduceAdd, Int.reduceLT, Int.reduceLE, Int.reduceEq, Int.reduceNe, c3, e]
          · by_cases c4 : decide (r.1 < 55296) = decide (r.2 < 55296)
            · have hg : rgB r = true := by simp only [rgB, c1, c2, c4, Bool.true_and, beq_self_eq_true, Bool.and_true, decide_eq_true_eq]; omega
              have hr1 := (charB_iff r.1).1 c1
              have hr2 := (charB_iff r.2).1 c2
              have prev : prevOf s (k + 1) = some r.2 := by simp [prevOf, hr]
              have prev' : (s.getD (k + 1 - 1) default).2 = r.2 := by rw [hr]; rfl
              by_cases hk0 : k = 0
              · subst hk0
                have hp' : properFrom (some r.2) (s.drop (0 + 1)) = properB s := by rw [← hp]; simp [prevOf, properFrom, hg]
                simp (disch := omega) only [go_sem, reduceIte, reduceCtorEq, Nat.reduceBEq, Nat.reduceEqDiff, Nat.reduceAdd, Nat.reduceLT, Nat.reduceLeDiff, Int.reduceNeg, Int.reduceAdd, Int.reduceLT, Int.reduceLE, Int.reduceEq, Int.reduceNe, c3, c4, beq_self_eq_true, Bool.not_true, f7]
                refine ih (0 + 1) _ _ (by omega) ⟨by omega, ?_, ?_, ?_, ?_, ?_, fun _ => ?_⟩
                · simp (disch := omega) only [go_sem, reduceIte, reduceCtorEq, Nat.reduceBEq, Nat.reduceEqDiff, Nat.reduceAdd, Nat.reduceLT, Nat.reduceLeDiff, Int.reduceNeg, Int.reduceAdd, Int.reduceLT, Int.reduceLE, Int.reduceEq, Int.reduceNe, f0]
                · simp (disch := omega) only [go_sem, reduceIte, reduceCtorEq, Nat.reduceBEq, Nat.reduceEqDiff, Nat.reduceAdd, Nat.reduceLT, Nat.reduceLeDiff, Int.reduceNeg, Int.reduceAdd, Int.reduceLT, Int.reduceLE, Int.reduceEq, Int.reduceNe, f5]
                · simp (disch := omega) only [go_sem, reduceIte, reduceCtorEq, Nat.reduceBEq, Nat.reduceEqDiff, Nat.reduceAdd, Nat.reduceLT, Nat.reduceLeDiff, Int.reduceNeg, Int.reduceAdd, Int.reduceLT, Int.reduceLE, Int.reduceEq, Int.reduceNe, f6]
                · simp (disch := omega) only [go_sem, reduceIte, reduceCtorEq, Nat.reduceBEq, Nat.reduceEqDiff, Nat.reduceAdd, Nat.reduceLT, Nat.reduceLeDiff, Int.reduceNeg, Int.reduceAdd, Int.reduceLT, Int.reduceLE, Int.reduceEq, Int.reduceNe]; try rfl
                · rw [prev]; exact hp'
                · rw [prev']; omega
              · have hk1 : (0 : Int) < k := by omega
                have hq' := hq (by omega)
                obtain ⟨q, hqe⟩ : ∃ q, q = (s.getD (k - 1) default).2 := ⟨_, rfl⟩
                rw [← hqe] at hq'
                have ek : (k : Int) - 1 = ((k - 1 : Nat) : Int) := by omega
                have hk2 : k - 1 < s.length := by omega
                have hpq : prevOf s k = some q := by simp [prevOf, hk0, hqe]
                rw [hpq] at hp
                by_cases c6 : r.1 - q < 2
                · have e : properB s = false := by rw [← hp]; simp [properFrom, hg]; omega
                  simp (disch := omega) only [go_sem, reduceIte, reduceCtorEq, Nat.reduceBEq, Nat.reduceEqDiff, Nat.reduceAdd, Nat.reduceLT, Nat.reduceLeDiff, Int.reduceNeg, Int.reduceAdd, Int.reduceLT, Int.reduceLE, Int.reduceEq, Int.reduceNe, c3, c4, beq_self_eq_true, Bool.not_true, hk1, f7, f0, ek, hk2, rgD, ← hqe, c6, e]
                · have hp' : properFrom (some r.2) (s.drop (k + 1)) = properB s := by rw [← hp]; simp [properFrom, hg]; omega
                  simp (disch := omega) only [go_sem, reduceIte, reduceCtorEq, Nat.reduceBEq, Nat.reduceEqDiff, Nat.reduceAdd, Nat.reduceLT, Nat.reduceLeDiff, Int.reduceNeg, Int.reduceAdd, Int.reduceLT, Int.reduceLE, Int.reduceEq, Int.reduceNe, c3, c4, beq_self_eq_true, Bool.not_true, hk1, f7, f0, ek, hk2, rgD, ← hqe, c6]
                  refine ih (k + 1) _ _ (by omega) ⟨by omega, ?_, ?_, ?_, ?_, ?_, fun _ => ?_⟩
                  · simp (disch := omega) only [go_sem, reduceIte, reduceCtorEq, Nat.reduceBEq, Nat.reduceEqDiff, Nat.reduceAdd, Nat.reduceLT, Nat.reduceLeDiff, Int.reduceNeg, Int.reduceAdd, Int.reduceLT, Int.reduceLE, Int.reduceEq, Int.reduceNe, f0]
                  · simp (disch := omega) only [go_sem, reduceIte, reduceCtorEq, Nat.reduceBEq, Nat.reduceEqDiff, Nat.reduceAdd, Nat.reduceLT, Nat.reduceLeDiff, Int.reduceNeg, Int.reduceAdd, Int.reduceLT, Int.reduceLE, Int.reduceEq, Int.reduceNe, f5]
                  · simp (disch := omega) only [go_sem, reduceIte, reduceCtorEq, Nat.reduceBEq, Nat.reduceEqDiff, Nat.reduceAdd, Nat.reduceLT, Nat.reduceLeDiff, Int.reduceNeg, Int.reduceAdd, Int.reduceLT, Int.reduceLE, Int.reduceEq, Int.reduceNe, f6]
                  · simp (disch := omega) only [go_sem, reduceIte, reduceCtorEq, Nat.reduceBEq, Nat.reduceEqDiff, Nat.reduceAdd, Nat.reduceLT, Nat.reduceLeDiff, Int.reduceNeg, Int.reduceAdd, Int.reduceLT, Int.reduceLE, Int.reduceEq, Int.reduceNe]
                  · rw [prev]; exact hp'
                  · rw [prev']; omega
            · have e := bad (by simp only [rgB]; rw [Bool.and_eq_false_iff]; exact .inr (by simpa using c4))
              have c4' : (decide (r.1 < 55296) == decide (r.2 < 55296)) = false := by simpa using c4
              simp (disch := omega) only [go_sem, reduceIte, reduceCtorEq, Nat.reduceBEq, Nat.reduceEqDiff, Nat.reduceAdd, Nat.reduceLT, Nat.reduceLeDiff, Int.reduceNeg, Int.reduceAdd, Int.reduceLT, Int.reduceLE, Int.reduceEq, Int.reduceNe, c3, c4', Bool.not_false, e]
        · have e := bad (by simp only [rgB, c2, Bool.and_false, Bool.false_and])
          simp (disch := omega) only [go_sem, reduceIte, reduceCtorEq, Nat.reduceBEq, Nat.reduceEqDiff, Nat.reduceAdd, Nat.reduceLT, Nat.reduceLeDiff, Int.reduceNeg, Int.reduceAdd, Int.reduceLT, Int.reduceLE, Int.reduceEq, Int.reduceNe, c2, e]
      · have e := bad (by simp only [rgB, c1, Bool.false_and])
        simp (disch := omega) only [go_sem, reduceIte, reduceCtorEq, Nat.reduceBEq, Nat.reduceEqDiff, Nat.reduceAdd, Nat.reduceLT, Nat.reduceLeDiff, Int.reduceNeg, Int.reduceAdd, Int.reduceLT, Int.reduceLE, Int.reduceEq, Int.reduceNe, c1, e]
    · have e2 : s.drop k = [] := List.drop_of_length_le (by omega)
      have e : properB s = true := by rw [← hp, e2]; cases prevOf s k <;> rfl
      simp (disch := omega) only [go_sem, reduceIte, reduceCtorEq, Nat.reduceBEq, Nat.reduceEqDiff, Nat.reduceAdd, Nat.reduceLT, Nat.reduceLeDiff, Int.reduceNeg, Int.reduceAdd, Int.reduceLT, Int.reduceLE, Int.reduceEq, Int.reduceNe, f0, f5, f6, f7, hlt, e]
  · refine ⟨by omega, ?_, ?_, ?_, ?_, ?_, by omega⟩
    · simp (disch := omega) only [go_sem, reduceIte, reduceCtorEq, Nat.reduceBEq, Nat.reduceEqDiff, Nat.reduceAdd, Nat.reduceLT, Nat.reduceLeDiff, Int.reduceNeg, Int.reduceAdd, Int.reduceLT, Int.reduceLE, Int.reduceEq, Int.reduceNe]
    · simp (disch := omega) only [go_sem, reduceIte, reduceCtorEq, Nat.reduceBEq, Nat.reduceEqDiff, Nat.reduceAdd, Nat.reduceLT, Nat.reduceLeDiff, Int.reduceNeg, Int.reduceAdd, Int.reduceLT, Int.reduceLE, Int.reduceEq, Int.reduceNe]
    · simp (disch := omega) only [go_sem, reduceIte, reduceCtorEq, Nat.reduceBEq, Nat.reduceEqDiff, Nat.reduceAdd, Nat.reduceLT, Nat.reduceLeDiff, Int.reduceNeg, Int.reduceAdd, Int.reduceLT, Int.reduceLE, Int.reduceEq, Int.reduceNe]
    · simp (disch := omega) only [go_sem, reduceIte, reduceCtorEq, Nat.reduceBEq, Nat.reduceEqDiff, Nat.reduceAdd, Nat.reduceLT, Nat.reduceLeDiff, Int.reduceNeg, Int.reduceAdd, Int.reduceLT, Int.reduceLE, Int.reduceEq, Int.reduceNe]
    · rfl
end Go.Proofs.YtefpcfooahogkaaGreatDoor
set_option linter.unusedVariables false
set_option linter.unusedSimpArgs false
set_option maxRecDepth 100000
namespace Go.Proofs.YtefpcfooahogkaaGreatDoor
open Go Nv Pat

/-- Whether the parts of a node are as its kind wants them. -/
def partsB (k : Int) (s : List (Int × Int)) (n : Int) (a b : Int) : Bool :=
  if k = 1 then decide (n = 0)
  else if k = 2 then decide (n = 0) && properB s
  else if k = 3 then decide (2 ≤ n)
  else if k = 4 then decide (2 ≤ n)
  else decide (n = 1) && decide (0 ≤ a) && decide (a ≤ 20) && (decide (b = -1) || (decide (a ≤ b) && decide (b ≤ 20)))
def kindB (k : Int) : Bool := decide (k = 1) || decide (k = 2) || decide (k = 3) || decide (k = 4) || decide (k = 5)
def badB (k : Int) (s : List (Int × Int)) (n : Int) (a b : Int) : Bool :=
  !partsB k s n a b || (decide (k ≠ 2) && decide (0 < (s.length : Int))) || (decide (k ≠ 5) && (decide (a ≠ 0) || decide (b ≠ 0)))
mutual
def chk : Tree → Int
  | .mk k s l a b => if kindB k then (if badB k s l.length a b then 1 else chkL l) else 9
def chkL : List Tree → Int
  | [] => 0
  | x :: l => if chk x = 0 then chkL l else chk x
end

/-- Trees whose sizes the program's numbers hold. -/
def Slim (n : Tree) : Prop := n.nodes ≤ 1000000
mutual
def Thin : Tree → Prop
  | .mk _ s l _ _ => s.length ≤ 1000000 ∧ ThinL l
def ThinL : List Tree → Prop
  | [] => True
  | x :: l => Thin x ∧ ThinL l
end
theorem thinL_mem : ∀ {l : List Tree} {x : Tree}, ThinL l → x ∈ l → Thin x
  | y :: l, x, h, hx => by
    rcases List.mem_cons.1 hx with e | hx
    · rw [e]; exact h.1
    · exact thinL_mem h.2 hx

def boxF (k : Int) (s : List (Int × Int)) (sub : List Tree) (a b : Int) : List AV := [.d (.int .i64 k), .d (setD s), .d (.list 5 (sub.map nodeD)), .d (.int .i64 a), .d (.int .i64 b)]

theorem check26 : ∀ n : Tree, n.nodes ≤ 1000000 → Thin n → PCall Tryz.prog 61 [nodeA n] (.d (.int .i64 (chk n))) := by
  intro n
  induction n using Tree.ind with
  | h k s sub a b ih =>
    intro hn ht
    have hsub : sub.length ≤ 1000000 := by
      have h1 := length_nodesL sub
      have h2 : (Tree.mk k s sub a b).nodes = 1 + Tree.nodesL sub := nodes_eq _
      omega
    have hs : s.length ≤ 1000000 := ht.1
    refine fn61.pure noHint (Nat.le_refl _) (by simp only [go_sem, nodeA, nodeF, setD]) (by simp only [go_sem]) ?_
    have c0 : chk (.mk k s sub a b) = if kindB k then (if badB k s sub.length a b then 1 else chkL sub) else 9 := by rw [chk]
    refine wW_cut (fun fr σ => fr 1 = .ptr 0 0 ∧ σ = [.box 52 (boxF k s sub a b)]) ?_ ?_
    · simp (disch := omega) only [go_sem, reduceIte, reduceCtorEq, Nat.reduceBEq, Nat.reduceEqDiff, Nat.reduceAdd, Nat.reduceLT, Nat.reduceLeDiff, Int.reduceNeg, Int.reduceAdd, Int.reduceLT, Int.reduceLE, Int.reduceEq, Int.reduceNe, nodeA, nodeF, Tree.kind, Tree.set, Tree.sub, Tree.min, Tree.max, boxF]
    rintro fr σ ⟨f1, rfl⟩
    refine wW_cut (fun fr σ => fr 1 = .ptr 0 0 ∧ σ = [.box 52 (boxF k s sub a b)]) ?_ ?_
    · simp (disch := omega) only [go_sem, reduceIte, reduceCtorEq, Nat.reduceBEq, Nat.reduceEqDiff, Nat.reduceAdd, Nat.reduceLT, Nat.reduceLeDiff, Int.reduceNeg, Int.reduceAdd, Int.reduceLT, Int.reduceLE, Int.reduceEq, Int.reduceNe, f1]
    rintro fr σ ⟨f1, rfl⟩
    refine wW_cut (fun fr σ => fr 1 = .ptr 0 0 ∧ fr 3 = .d (.bool (partsB k s sub.length a b)) ∧ kindB k = true ∧ σ = [.box 52 (boxF k s sub a b)]) ?_ ?_
    · by_cases k1 : k = 1
      · have e : partsB k s sub.length a b = decide ((sub.length : Int) = 0) := by simp only [partsB, if_pos k1]
        have e2 : kindB k = true := by simp [kindB, k1]
        rw [e, e2]
        subst k1
        simp (disch := omega) only [go_sem, reduceIte, reduceCtorEq, Nat.reduceBEq, Nat.reduceEqDiff, Nat.reduceAdd, Nat.reduceLT, Nat.reduceLeDiff, Int.reduceNeg, Int.reduceAdd, Int.reduceLT, Int.reduceLE, Int.reduceEq, Int.reduceNe, f1, boxF]
      by_cases k2 : k = 2
      · have e : partsB k s sub.length a b = (decide ((sub.length : Int) = 0) && properB s) := by simp only [partsB, if_neg k1, if_pos k2]
        have e2 : kindB k = true := by simp [kindB, k2]
        rw [e, e2]
        subst k2
        by_cases h0 : (sub.length : Int) = 0
        · simp (disch := omega) only [go_sem, reduceIte, reduceCtorEq, Nat.reduceBEq, Nat.reduceEqDiff, Nat.reduceAdd, Nat.reduceLT, Nat.reduceLeDiff, Int.reduceNeg, Int.reduceAdd, Int.reduceLT, Int.reduceLE, Int.reduceEq, Int.reduceNe, f1, boxF, h0]
          refine (proper43 s hs).at ?_
          simp (disch := omega) only [go_sem, reduceIte, reduceCtorEq, Nat.reduceBEq, Nat.reduceEqDiff, Nat.reduceAdd, Nat.reduceLT, Nat.reduceLeDiff, Int.reduceNeg, Int.reduceAdd, Int.reduceLT, Int.reduceLE, Int.reduceEq, Int.reduceNe, f1, h0]
        · simp (disch := omega) only [go_sem, reduceIte, reduceCtorEq, Nat.reduceBEq, Nat.reduceEqDiff, Nat.reduceAdd, Nat.reduceLT, Nat.reduceLeDiff, Int.reduceNeg, Int.reduceAdd, Int.reduceLT, Int.reduceLE, Int.reduceEq, Int.reduceNe, f1, boxF, h0]
      by_cases k34 : k = 3 ∨ k = 4
      · have e : partsB k s sub.length a b = decide (2 ≤ (sub.length : Int)) := by
          rcases k34 with h | h
          · simp only [partsB, if_neg k1, if_neg k2, if_pos h]
          · simp only [partsB, if_neg k1, if_neg k2, h]; rfl
        have e2 : kindB k = true := by rcases k34 with h | h <;> simp [kindB, h]
        rw [e, e2]
        rcases k34 with h | h <;> subst h <;> simp (disch := omega) only [go_sem, reduceIte, reduceCtorEq, Nat.reduceBEq, Nat.reduceEqDiff, Nat.reduceAdd, Nat.reduceLT, Nat.reduceLeDiff, Int.reduceNeg, Int.reduceAdd, Int.reduceLT, Int.reduceLE, Int.reduceEq, Int.reduceNe, f1, boxF]
      by_cases k5 : k = 5
      · have e2 : kindB k = true := by simp [kindB, k5]
        have e : partsB k s sub.length a b = (decide ((sub.length : Int) = 1) && decide (0 ≤ a) && decide (a ≤ 20) && (decide (b = -1) || (decide (a ≤ b) && decide (b ≤ 20)))) := by
          rw [k5]; rfl
        rw [e, e2]
        subst k5
        by_cases h1 : (sub.length : Int) = 1
        · by_cases h2 : 0 ≤ a
          · by_cases h3 : a ≤ 20
            · by_cases h4 : b = -1
              · simp (disch := omega) only [go_sem, reduceIte, reduceCtorEq, Nat.reduceBEq, Nat.reduceEqDiff, Nat.reduceAdd, Nat.reduceLT, Nat.reduceLeDiff, Int.reduceNeg, Int.reduceAdd, Int.reduceLT, Int.reduceLE, Int.reduceEq, Int.reduceNe, f1, boxF, h1, h2, h3, h4]
              · by_cases h5 : a ≤ b
                · simp (disch := omega) only [go_sem, reduceIte, reduceCtorEq, Nat.reduceBEq, Nat.reduceEqDiff, Nat.reduceAdd, Nat.reduceLT, Nat.reduceLeDiff, Int.reduceNeg, Int.reduceAdd, Int.reduceLT, Int.reduceLE, Int.reduceEq, Int.reduceNe, f1, boxF, h1, h2, h3, h4, h5]
                · simp (disch := omega) only [go_sem, reduceIte, reduceCtorEq, Nat.reduceBEq, Nat.reduceEqDiff, Nat.reduceAdd, Nat.reduceLT, Nat.reduceLeDiff, Int.reduceNeg, Int.reduceAdd, Int.reduceLT, Int.reduceLE, Int.reduceEq, Int.reduceNe, f1, boxF, h1, h2, h3, h4, h5]
            · simp (disch := omega) only [go_sem, reduceIte, reduceCtorEq, Nat.reduceBEq, Nat.reduceEqDiff, Nat.reduceAdd, Nat.reduceLT, Nat.reduceLeDiff, Int.reduceNeg, Int.reduceAdd, Int.reduceLT, Int.reduceLE, Int.reduceEq, Int.reduceNe, f1, boxF, h1, h2, h3]
          · simp (disch := omega) only [go_sem, reduceIte, reduceCtorEq, Nat.reduceBEq, Nat.reduceEqDiff, Nat.reduceAdd, Nat.reduceLT, Nat.reduceLeDiff, Int.reduceNeg, Int.reduceAdd, Int.reduceLT, Int.reduceLE, Int.reduceEq, Int.reduceNe, f1, boxF, h1, h2]
        · simp (disch := omega) only [go_sem, reduceIte, reduceCtorEq, Nat.reduceBEq, Nat.reduceEqDiff, Nat.reduceAdd, Nat.reduceLT, Nat.reduceLeDiff, Int.reduceNeg, Int.reduceAdd, Int.reduceLT, Int.reduceLE, Int.reduceEq, Int.reduceNe, f1, boxF, h1]
      · have k3 : ¬ k = 3 := fun h => k34 (.inl h)
        have k4 : ¬ k = 4 := fun h => k34 (.inr h)
        have e2 : kindB k = false := by simp [kindB, k1, k2, k3, k4, k5]
        have e : chk (.mk k s sub a b) = 9 := by rw [c0, e2]; rfl
        simp (disch := omega) only [go_sem, reduceIte, reduceCtorEq, Nat.reduceBEq, Nat.reduceEqDiff, Nat.reduceAdd, Nat.reduceLT, Nat.reduceLeDiff, Int.reduceNeg, Int.reduceAdd, Int.reduceLT, Int.reduceLE, Int.reduceEq, Int.reduceNe, f1, boxF, k1, k2, k3, k4, k5, e]
    rintro fr σ ⟨f1, f3, hkB, rfl⟩
    rw [if_pos hkB] at c0
    obtain ⟨z, hz⟩ : ∃ z, z = badB k s sub.length a b := ⟨_, rfl⟩
    rw [← hz] at c0
    refine wW_cut (fun fr σ => fr 1 = .ptr 0 0 ∧ z = false ∧ σ = [.box 52 (boxF k s sub a b)]) ?_ ?_
    · have one : z = true → chk (.mk k s sub a b) = 1 := fun h => by rw [c0, if_pos h]
      obtain ⟨q, hq⟩ : ∃ q, q = partsB k s sub.length a b := ⟨_, rfl⟩
      rw [← hq] at f3
      unfold badB at hz
      rw [← hq] at hz
      cases q
      · have e := one (by simp [hz])
        simp (disch := omega) only [go_sem, reduceIte, reduceCtorEq, Nat.reduceBEq, Nat.reduceEqDiff, Nat.reduceAdd, Nat.reduceLT, Nat.reduceLeDiff, Int.reduceNeg, Int.reduceAdd, Int.reduceLT, Int.reduceLE, Int.reduceEq, Int.reduceNe, f1, f3, e]
      by_cases k2 : k = 2
      · have k5 : ¬ k = 5 := by omega
        by_cases ha : a = 0
        · by_cases hb : b = 0
          · have e : z = false := by simp [hz, k2, ha, hb]
            simp (disch := omega) only [go_sem, reduceIte, reduceCtorEq, Nat.reduceBEq, Nat.reduceEqDiff, Nat.reduceAdd, Nat.reduceLT, Nat.reduceLeDiff, Int.reduceNeg, Int.reduceAdd, Int.reduceLT, Int.reduceLE, Int.reduceEq, Int.reduceNe, f1, f3, boxF, k2, ha, hb, e]
          · have e := one (by simp [hz, k5, hb])
            clear hz
            simp (disch := omega) only [go_sem, reduceIte, reduceCtorEq, Nat.reduceBEq, Nat.reduceEqDiff, Nat.reduceAdd, Nat.reduceLT, Nat.reduceLeDiff, Int.reduceNeg, Int.reduceAdd, Int.reduceLT, Int.reduceLE, Int.reduceEq, Int.reduceNe, f1, f3, boxF, k2, ha, hb]
            rw [← k2, ← ha, e]
        · have e := one (by simp [hz, k5, ha])
          simp (disch := omega) only [go_sem, reduceIte, reduceCtorEq, Nat.reduceBEq, Nat.reduceEqDiff, Nat.reduceAdd, Nat.reduceLT, Nat.reduceLeDiff, Int.reduceNeg, Int.reduceAdd, Int.reduceLT, Int.reduceLE, Int.reduceEq, Int.reduceNe, f1, f3, boxF, k2, ha]
          rw [← k2, e]
      · by_cases hl : (0 : Int) < s.length
        · have e := one (by rw [hz, decide_eq_true hl]; simp [k2])
          simp (disch := omega) only [go_sem, reduceIte, reduceCtorEq, Nat.reduceBEq, Nat.reduceEqDiff, Nat.reduceAdd, Nat.reduceLT, Nat.reduceLeDiff, Int.reduceNeg, Int.reduceAdd, Int.reduceLT, Int.reduceLE, Int.reduceEq, Int.reduceNe, f1, f3, boxF, k2, hl, setD, e]
        · rw [decide_eq_false hl] at hz
          by_cases k5 : k = 5
          · have e : z = false := by simp [hz, k5]
            simp (disch := omega) only [go_sem, reduceIte, reduceCtorEq, Nat.reduceBEq, Nat.reduceEqDiff, Nat.reduceAdd, Nat.reduceLT, Nat.reduceLeDiff, Int.reduceNeg, Int.reduceAdd, Int.reduceLT, Int.reduceLE, Int.reduceEq, Int.reduceNe, f1, f3, boxF, k2, hl, setD, k5, e]
          · by_cases ha : a = 0
            · by_cases hb : b = 0
              · have e : z = false := by simp [hz, ha, hb]
                simp (disch := omega) only [go_sem, reduceIte, reduceCtorEq, Nat.reduceBEq, Nat.reduceEqDiff, Nat.reduceAdd, Nat.reduceLT, Nat.reduceLeDiff, Int.reduceNeg, Int.reduceAdd, Int.reduceLT, Int.reduceLE, Int.reduceEq, Int.reduceNe, f1, f3, boxF, k2, hl, setD, k5, ha, hb, e]
              · have e := one (by simp [hz, k5, hb])
                simp (disch := omega) only [go_sem, reduceIte, reduceCtorEq, Nat.reduceBEq, Nat.reduceEqDiff, Nat.reduceAdd, Nat.reduceLT, Nat.reduceLeDiff, Int.reduceNeg, Int.reduceAdd, Int.reduceLT, Int.reduceLE, Int.reduceEq, Int.reduceNe, f1, f3, boxF, k2, hl, setD, k5, ha, hb]
                rw [← ha, e]
            · have e := one (by simp [hz, k5, ha])
              simp (disch := omega) only [go_sem, reduceIte, reduceCtorEq, Nat.reduceBEq, Nat.reduceEqDiff, Nat.reduceAdd, Nat.reduceLT, Nat.reduceLeDiff, Int.reduceNeg, Int.reduceAdd, Int.reduceLT, Int.reduceLE, Int.reduceEq, Int.reduceNe, f1, f3, boxF, k2, hl, setD, k5, ha, e]
    rintro fr σ ⟨f1, hbad, rfl⟩
    rw [hbad] at c0
    have c1 : chk (.mk k s sub a b) = chkL sub := c0
    have hnl : ∀ x, x ∈ sub → x.nodes ≤ 1000000 := fun x hx => by
      have h1 := nodes_mem sub x hx
      have h2 : (Tree.mk k s sub a b).nodes = 1 + Tree.nodesL sub := nodes_eq _
      omega
    simp (disch := omega) only [go_sem, reduceIte, reduceCtorEq, Nat.reduceBEq, Nat.reduceEqDiff, Nat.reduceAdd, Nat.reduceLT, Nat.reduceLeDiff, Int.reduceNeg, Int.reduceAdd, Int.reduceLT, Int.reduceLE, Int.reduceEq, Int.reduceNe, f1, boxF]
    refine wL_ind (fun (j : Nat) fr σ => j ≤ sub.length ∧ fr 95 = .d (.list 5 (sub.map nodeD)) ∧ fr 96 = .d (.int .i64 sub.length) ∧ fr 97 = .d (.int .i64 j) ∧ chkL (sub.drop j) = chk (.mk k s sub a b)) (fun j => sub.length - j) ?_ 0 ?_
    · rintro j fr σ ⟨hj, f95, f96, f97, hc⟩ ih2
      by_cases hlt : j < sub.length
      · obtain ⟨x, hx⟩ : ∃ x, x = sub.getD j default := ⟨_, rfl⟩
        have hxm : x ∈ sub := by rw [hx]; exact getD_mem sub j hlt
        have hd : sub.drop j = x :: sub.drop (j + 1) := by rw [hx]; exact drop_getD sub j hlt
        rw [hd] at hc
        simp (disch := omega) only [go_sem, reduceIte, reduceCtorEq, Nat.reduceBEq, Nat.reduceEqDiff, Nat.reduceAdd, Nat.reduceLT, Nat.reduceLeDiff, Int.reduceNeg, Int.reduceAdd, Int.reduceLT, Int.reduceLE, Int.reduceEq, Int.reduceNe, f95, f96, f97, hlt, nodeD_eq, nodeC, ← hx]
        refine (ih x hxm (hnl x hxm) (thinL_mem ht.2 hxm)).at ?_
        by_cases h0 : chk x = 0
        · have hc' : chkL (sub.drop (j + 1)) = chk (.mk k s sub a b) := by rw [← hc, chkL, if_pos h0]
          simp (disch := omega) only [go_sem, reduceIte, reduceCtorEq, Nat.reduceBEq, Nat.reduceEqDiff, Nat.reduceAdd, Nat.reduceLT, Nat.reduceLeDiff, Int.reduceNeg, Int.reduceAdd, Int.reduceLT, Int.reduceLE, Int.reduceEq, Int.reduceNe, h0, f97]
          refine ih2 (j + 1) _ _ (by omega) ⟨by omega, ?_, ?_, ?_, hc'⟩
          · simp (disch := omega) only [go_sem, reduceIte, reduceCtorEq, Nat.reduceBEq, Nat.reduceEqDiff, Nat.reduceAdd, Nat.reduceLT, Nat.reduceLeDiff, Int.reduceNeg, Int.reduceAdd, Int.reduceLT, Int.reduceLE, Int.reduceEq, Int.reduceNe, f95]
          · simp (disch := omega) only [go_sem, reduceIte, reduceCtorEq, Nat.reduceBEq, Nat.reduceEqDiff, Nat.reduceAdd, Nat.reduceLT, Nat.reduceLeDiff, Int.reduceNeg, Int.reduceAdd, Int.reduceLT, Int.reduceLE, Int.reduceEq, Int.reduceNe, f96]
          · simp (disch := omega) only [go_sem, reduceIte, reduceCtorEq, Nat.reduceBEq, Nat.reduceEqDiff, Nat.reduceAdd, Nat.reduceLT, Nat.reduceLeDiff, Int.reduceNeg, Int.reduceAdd, Int.reduceLT, Int.reduceLE, Int.reduceEq, Int.reduceNe]
        · have e : chk (.mk k s sub a b) = chk x := by rw [← hc, chkL, if_neg h0]
          simp (disch := omega) only [go_sem, reduceIte, reduceCtorEq, Nat.reduceBEq, Nat.reduceEqDiff, Nat.reduceAdd, Nat.reduceLT, Nat.reduceLeDiff, Int.reduceNeg, Int.reduceAdd, Int.reduceLT, Int.reduceLE, Int.reduceEq, Int.reduceNe, h0, e]
      · rw [List.drop_of_length_le (by omega)] at hc
        simp (disch := omega) only [go_sem, reduceIte, reduceCtorEq, Nat.reduceBEq, Nat.reduceEqDiff, Nat.reduceAdd, Nat.reduceLT, Nat.reduceLeDiff, Int.reduceNeg, Int.reduceAdd, Int.reduceLT, Int.reduceLE, Int.reduceEq, Int.reduceNe, f95, f96, f97, hlt]
        rw [← hc, chkL]
    · refine ⟨by omega, ?_, ?_, ?_, ?_⟩
      · simp (disch := omega) only [go_sem, reduceIte, reduceCtorEq, Nat.reduceBEq, Nat.reduceEqDiff, Nat.reduceAdd, Nat.reduceLT, Nat.reduceLeDiff, Int.reduceNeg, Int.reduceAdd, Int.reduceLT, Int.reduceLE, Int.reduceEq, Int.reduceNe]
      · simp (disch := omega) only [go_sem, reduceIte, reduceCtorEq, Nat.reduceBEq, Nat.reduceEqDiff, Nat.reduceAdd, Nat.reduceLT, Nat.reduceLeDiff, Int.reduceNeg, Int.reduceAdd, Int.reduceLT, Int.reduceLE, Int.reduceEq, Int.reduceNe]
      · simp (disch := omega) only [go_sem, reduceIte, reduceCtorEq, Nat.reduceBEq, Nat.reduceEqDiff, Nat.reduceAdd, Nat.reduceLT, Nat.reduceLeDiff, Int.reduceNeg, Int.reduceAdd, Int.reduceLT, Int.reduceLE, Int.reduceEq, Int.reduceNe]
      · rw [c1]; rfl
end Go.Proofs.YtefpcfooahogkaaGreatDoor
set_option linter.unusedVariables false
set_option linter.unusedSimpArgs false
set_option maxRecDepth 100000
namespace Go.Proofs.YtefpcfooahogkaaGreatDoor
open Go Nv Pat

def chkE (n : Tree) : Int := if 120 < n.nodes then 5 else chk n
theorem check13 (n : Tree) (h : Thin n) : PCall Tryz.prog 37 [nodeA n] (.d (.int .i64 (chkE n))) := by
  refine fn37.pure noHint (Nat.le_refl _) (by simp only [go_sem, nodeA, nodeF, setD]) (by simp only [go_sem]) ?_
  simp (disch := omega) only [go_sem, reduceIte, reduceCtorEq, Nat.reduceBEq, Nat.reduceEqDiff, Nat.reduceAdd, Nat.reduceLT, Nat.reduceLeDiff, Int.reduceNeg, Int.reduceAdd, Int.reduceLT, Int.reduceLE, Int.reduceEq, Int.reduceNe, nodeA, nodeF]
  refine (count25 n 120 (by omega)).at ?_
  by_cases h1 : 120 < n.nodes
  · have e : ((cnt n 120 : Nat) : Int) = 121 := by rw [cnt]; omega
    have e2 : chkE n = 5 := by rw [chkE, if_pos h1]
    simp (disch := omega) only [go_sem, reduceIte, reduceCtorEq, Nat.reduceBEq, Nat.reduceEqDiff, Nat.reduceAdd, Nat.reduceLT, Nat.reduceLeDiff, Int.reduceNeg, Int.reduceAdd, Int.reduceLT, Int.reduceLE, Int.reduceEq, Int.reduceNe, e, e2]
  · have e : ¬ (120 : Int) < ((cnt n 120 : Nat) : Int) := by rw [cnt]; omega
    have e2 : chkE n = chk n := by rw [chkE, if_neg h1]
    simp (disch := omega) only [go_sem, reduceIte, reduceCtorEq, Nat.reduceBEq, Nat.reduceEqDiff, Nat.reduceAdd, Nat.reduceLT, Nat.reduceLeDiff, Int.reduceNeg, Int.reduceAdd, Int.reduceLT, Int.reduceLE, Int.reduceEq, Int.reduceNe, e, e2, nodeF]
    refine (check26 n (by omega) h).at ?_
    simp (disch := omega) only [go_sem, reduceIte, reduceCtorEq, Nat.reduceBEq, Nat.reduceEqDiff, Nat.reduceAdd, Nat.reduceLT, Nat.reduceLeDiff, Int.reduceNeg, Int.reduceAdd, Int.reduceLT, Int.reduceLE, Int.reduceEq, Int.reduceNe, e2]

theorem chkL_mem : ∀ {l : List Tree}, chkL l = 0 → ∀ x, x ∈ l → chk x = 0
  | y :: l, h, x, hx => by
    rw [chkL] at h
    split at h
    · rename_i h0
      rcases List.mem_cons.1 hx with e | hx
      · rw [e]; exact h0
      · exact chkL_mem h x hx
    · rename_i h0; exact absurd h h0
theorem chk_ok {k : Int} {s : List (Int × Int)} {l : List Tree} {a b : Int} (h : chk (.mk k s l a b) = 0) : kindB k = true ∧ badB k s l.length a b = false ∧ chkL l = 0 := by
  rw [chk] at h
  split at h
  · rename_i h1
    split at h
    · cases h
    · rename_i h2
      exact ⟨h1, by simpa using h2, h⟩
  · cases h

theorem take_all {α : Type} (l : List α) (n : Nat) (h : l.length = n) : l.take n = l := List.take_of_length_le (by omega)
theorem chkE_ok {n : Tree} (h : chkE n = 0) : n.nodes ≤ 120 ∧ chk n = 0 := by
  unfold chkE at h
  split at h
  · cases h
  · exact ⟨by omega, h⟩
theorem chkL_of {l : List Tree} (h : ∀ x, x ∈ l → chk x = 0) : chkL l = 0 := by
  induction l with
  | nil => rfl
  | cons x l ih => rw [chkL, if_pos (h x (by simp))]; exact ih fun y hy => h y (by simp [hy])
theorem thinL_all {l : List Tree} (h : ∀ x, x ∈ l → Thin x) : ThinL l := by
  induction l with
  | nil => trivial
  | cons x l ih => exact ⟨h x (by simp), ih fun y hy => h y (by simp [hy])⟩


def runesD (l : List Int) : List DV := l.map (DV.int .i32)
@[go_sem] theorem runesD_length (l : List Int) : (runesD l).length = l.length := nrfl (by simp [runesD])
theorem stGet_app (l m : Nv.ST) (k : Nat) : stGet (l ++ m) (List.length l + k) = stGet m k := by
  simp [stGet, List.getD_eq_getElem?_getD, List.getElem?_append_right]
theorem stGet_app0 (l m : Nv.ST) : stGet (l ++ m) (List.length l) = stGet m 0 := stGet_app l m 0
theorem stSet_app (l m : Nv.ST) (k : Nat) (x : Blk) : stSet (l ++ m) (List.length l + k) x = l ++ stSet m k x := by
  simp [stSet, List.set_append_right]
theorem stSet_app0 (l m : Nv.ST) (x : Blk) : stSet (l ++ m) (List.length l) x = l ++ stSet m 0 x := by
  simp [stSet, List.set_append_right]
theorem stGet_one (a b : Blk) (l : Nv.ST) : stGet (a :: b :: l) 1 = b := rfl
theorem stSet_one (a b x : Blk) (l : Nv.ST) : stSet (a :: b :: l) 1 x = a :: x :: l := rfl

def bt (b : UInt8) : Int := (b.toNat : Int)
end Go.Proofs.YtefpcfooahogkaaGreatDoor
