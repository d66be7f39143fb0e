/- Part of a proof about the functions of this seat. -/
import Derived.Test.YtjgbdlaecpkmhaaGreatDoorG15NvS
import Derived.Test.YtjgbdlaecpkmhaaGreatDoorG13Rsf
import Derived.Test.YtjgbdlaecpkmhaaGreatDoorG11Base34
set_option linter.unusedVariables false
set_option linter.unusedSimpArgs false
set_option maxRecDepth 100000
namespace Go.Proofs.YtjgbdlaecpkmhaaGreatDoor
open Go Nv

/- The program's name. -/
theorem letters_eq : Rul.letters = [97, 98, 99, 100, 101, 102, 103, 104, 105, 106, 107, 108, 109, 110, 111, 112, 113, 114, 115, 116, 117, 118, 119, 120, 121, 122] := rfl
theorem signs_eq : Rul.signs = [97, 98, 99, 100, 101, 102, 103, 104, 105, 106, 107, 108, 109, 110, 111, 112, 113, 114, 115, 116, 117, 118, 119, 120, 121, 122, 48, 49, 50, 51, 52, 53, 54, 55, 56, 57, 45] := rfl
theorem name11 (s : List UInt8) (hs : s.length ≤ 9223372036854775807) : PCall Tryz.prog 26 [.d (.str s)] (.d (.bool (Rul.nameB s))) := by
  refine fn26.pure noHint (Nat.le_refl _) (by simp only [go_sem]) (by simp only [go_sem]) ?_
  cases s with
  | nil =>
    simp (disch := omega) only [go_sem, reduceIte, reduceDIte, reduceCtorEq, Nat.reduceBEq, Nat.reduceEqDiff, Nat.reduceAdd, Nat.reduceSub, Nat.reduceMul, Nat.reduceLT, Nat.reduceLeDiff, Nat.reduceBNe, Int.reduceNeg, Int.reduceAdd, Int.reduceSub, Int.reduceMul, Int.reduceLT, Int.reduceLE, Int.reduceGT, Int.reduceGE, Int.reduceEq, Int.reduceNe, Int.reduceToNat, Int.reduceTMod, Int.reduceTDiv]
    rfl
  | cons c s =>
    have hne : ¬ (c :: s = []) := by simp
    by_cases hl : 16 < (c :: s).length
    · have hl' : (16 : Int) < (((s.length + 1 : Nat)) : Int) := by simp at hl; omega
      have e : Rul.nameB (c :: s) = false := by unfold Rul.nameB; rw [decide_eq_false (by omega)]; rfl
      simp (disch := omega) only [go_sem, reduceIte, reduceDIte, reduceCtorEq, Nat.reduceBEq, Nat.reduceEqDiff, Nat.reduceAdd, Nat.reduceSub, Nat.reduceMul, Nat.reduceLT, Nat.reduceLeDiff, Nat.reduceBNe, Int.reduceNeg, Int.reduceAdd, Int.reduceSub, Int.reduceMul, Int.reduceLT, Int.reduceLE, Int.reduceGT, Int.reduceGE, Int.reduceEq, Int.reduceNe, Int.reduceToNat, Int.reduceTMod, Int.reduceTDiv, hne, hl', e]
    · have hl' : ¬ (16 : Int) < (((s.length + 1 : Nat)) : Int) := by simp at hl; omega
      simp (disch := omega) only [go_sem, reduceIte, reduceDIte, reduceCtorEq, Nat.reduceBEq, Nat.reduceEqDiff, Nat.reduceAdd, Nat.reduceSub, Nat.reduceMul, Nat.reduceLT, Nat.reduceLeDiff, Nat.reduceBNe, Int.reduceNeg, Int.reduceAdd, Int.reduceSub, Int.reduceMul, Int.reduceLT, Int.reduceLE, Int.reduceGT, Int.reduceGE, Int.reduceEq, Int.reduceNe, Int.reduceToNat, Int.reduceTMod, Int.reduceTDiv, hne, hl']
      refine ⟨by omega, ?_⟩
      refine (contains_one _ c).at ?_
      by_cases hc : 0 ≤ Lib.indexByte Rul.letters c
      · have hc' := hc
        rw [letters_eq] at hc'
        simp (disch := omega) only [go_sem, reduceIte, reduceDIte, reduceCtorEq, Nat.reduceBEq, Nat.reduceEqDiff, Nat.reduceAdd, Nat.reduceSub, Nat.reduceMul, Nat.reduceLT, Nat.reduceLeDiff, Nat.reduceBNe, Int.reduceNeg, Int.reduceAdd, Int.reduceSub, Int.reduceMul, Int.reduceLT, Int.reduceLE, Int.reduceGT, Int.reduceGE, Int.reduceEq, Int.reduceNe, Int.reduceToNat, Int.reduceTMod, Int.reduceTDiv, hc']
        obtain ⟨w, hw⟩ : ∃ w, w = c :: s := ⟨_, rfl⟩
        have hwl : w.length = s.length + 1 := by rw [hw]; rfl
        rw [← hw, ← hwl]
        refine wL_ind (fun (j : Nat) fr σ => j ≤ w.length ∧ fr 0 = .d (.str w) ∧ fr 18 = .d (.int .i64 w.length) ∧ fr 19 = .d (.int .i64 j) ∧ (w.take j).all (Rul.isIn Rul.signs) = true) (fun j => w.length - j) ?_ 0 ?_
        · rintro j fr σ ⟨hj, f0, f18, f19, hall⟩ ih
          by_cases hlt : j < w.length
          · obtain ⟨x, hx⟩ : ∃ x, x = w.getD j 0 := ⟨_, rfl⟩
            have hsl : (w.take (j + 1)).drop j = [x] := by
              rw [hx, List.drop_take, show j + 1 - j = 1 by omega, List.drop_eq_getElem_cons hlt, List.take_succ_cons, List.take_zero, List.getD_eq_getElem?_getD, List.getElem?_eq_getElem hlt]; rfl
            have htk : w.take (j + 1) = w.take j ++ [x] := by rw [List.take_succ_eq_append_getElem hlt, hx, List.getD_eq_getElem?_getD, List.getElem?_eq_getElem hlt]; rfl
            simp (disch := omega) only [go_sem, reduceIte, reduceDIte, reduceCtorEq, Nat.reduceBEq, Nat.reduceEqDiff, Nat.reduceAdd, Nat.reduceSub, Nat.reduceMul, Nat.reduceLT, Nat.reduceLeDiff, Nat.reduceBNe, Int.reduceNeg, Int.reduceAdd, Int.reduceSub, Int.reduceMul, Int.reduceLT, Int.reduceLE, Int.reduceGT, Int.reduceGE, Int.reduceEq, Int.reduceNe, Int.reduceToNat, Int.reduceTMod, Int.reduceTDiv, f0, f18, f19, hlt, hsl]
            refine ⟨by omega, ?_⟩
            refine (contains_one _ x).at ?_
            by_cases hi : 0 ≤ Lib.indexByte Rul.signs x
            · have hi' := hi
              rw [signs_eq] at hi'
              simp (disch := omega) only [go_sem, reduceIte, reduceDIte, reduceCtorEq, Nat.reduceBEq, Nat.reduceEqDiff, Nat.reduceAdd, Nat.reduceSub, Nat.reduceMul, Nat.reduceLT, Nat.reduceLeDiff, Nat.reduceBNe, Int.reduceNeg, Int.reduceAdd, Int.reduceSub, Int.reduceMul, Int.reduceLT, Int.reduceLE, Int.reduceGT, Int.reduceGE, Int.reduceEq, Int.reduceNe, Int.reduceToNat, Int.reduceTMod, Int.reduceTDiv, hi', f19]
              refine ih (j + 1) _ _ (by omega) ⟨by omega, ?_, ?_, ?_, ?_⟩
              · simp (disch := omega) only [go_sem, reduceIte, reduceDIte, reduceCtorEq, Nat.reduceBEq, Nat.reduceEqDiff, Nat.reduceAdd, Nat.reduceSub, Nat.reduceMul, Nat.reduceLT, Nat.reduceLeDiff, Nat.reduceBNe, Int.reduceNeg, Int.reduceAdd, Int.reduceSub, Int.reduceMul, Int.reduceLT, Int.reduceLE, Int.reduceGT, Int.reduceGE, Int.reduceEq, Int.reduceNe, Int.reduceToNat, Int.reduceTMod, Int.reduceTDiv, f0]
              · simp (disch := omega) only [go_sem, reduceIte, reduceDIte, reduceCtorEq, Nat.reduceBEq, Nat.reduceEqDiff, Nat.reduceAdd, Nat.reduceSub, Nat.reduceMul, Nat.reduceLT, Nat.reduceLeDiff, Nat.reduceBNe, Int.reduceNeg, Int.reduceAdd, Int.reduceSub, Int.reduceMul, Int.reduceLT, Int.reduceLE, Int.reduceGT, Int.reduceGE, Int.reduceEq, Int.reduceNe, Int.reduceToNat, Int.reduceTMod, Int.reduceTDiv, f18]
              · simp (disch := omega) only [go_sem, reduceIte, reduceDIte, reduceCtorEq, Nat.reduceBEq, Nat.reduceEqDiff, Nat.reduceAdd, Nat.reduceSub, Nat.reduceMul, Nat.reduceLT, Nat.reduceLeDiff, Nat.reduceBNe, Int.reduceNeg, Int.reduceAdd, Int.reduceSub, Int.reduceMul, Int.reduceLT, Int.reduceLE, Int.reduceGT, Int.reduceGE, Int.reduceEq, Int.reduceNe, Int.reduceToNat, Int.reduceTMod, Int.reduceTDiv, f19]
              · rw [htk, List.all_append, hall]; simp [Rul.isIn, hi]
            · have hi' := hi
              rw [signs_eq] at hi'
              have e : Rul.nameB w = false := by
                rw [hw, Rul.nameB]
                have : w.all (Rul.isIn Rul.signs) = false := by
                  rw [Bool.eq_false_iff]
                  intro h
                  have := List.all_eq_true.1 h x (by rw [hx, List.getD_eq_getElem?_getD, List.getElem?_eq_getElem hlt]; exact List.getElem_mem hlt)
                  exact hi (by simpa [Rul.isIn] using this)
                rw [← hw, this]; simp
              simp (disch := omega) only [go_sem, reduceIte, reduceDIte, reduceCtorEq, Nat.reduceBEq, Nat.reduceEqDiff, Nat.reduceAdd, Nat.reduceSub, Nat.reduceMul, Nat.reduceLT, Nat.reduceLeDiff, Nat.reduceBNe, Int.reduceNeg, Int.reduceAdd, Int.reduceSub, Int.reduceMul, Int.reduceLT, Int.reduceLE, Int.reduceGT, Int.reduceGE, Int.reduceEq, Int.reduceNe, Int.reduceToNat, Int.reduceTMod, Int.reduceTDiv, hi', e]
          · have e : Rul.nameB w = true := by
              rw [List.take_of_length_le (by omega)] at hall
              have h1 : Rul.isIn Rul.letters c = true := by unfold Rul.isIn; exact decide_eq_true hc
              rw [hw, Rul.nameB, ← hw, hall, decide_eq_true (by omega), h1]; rfl
            simp (disch := omega) only [go_sem, reduceIte, reduceDIte, reduceCtorEq, Nat.reduceBEq, Nat.reduceEqDiff, Nat.reduceAdd, Nat.reduceSub, Nat.reduceMul, Nat.reduceLT, Nat.reduceLeDiff, Nat.reduceBNe, Int.reduceNeg, Int.reduceAdd, Int.reduceSub, Int.reduceMul, Int.reduceLT, Int.reduceLE, Int.reduceGT, Int.reduceGE, Int.reduceEq, Int.reduceNe, Int.reduceToNat, Int.reduceTMod, Int.reduceTDiv, f18, f19, hlt, e]
        · refine ⟨by omega, ?_, ?_, ?_, rfl⟩ <;> simp (disch := omega) only [go_sem, reduceIte, reduceDIte, reduceCtorEq, Nat.reduceBEq, Nat.reduceEqDiff, Nat.reduceAdd, Nat.reduceSub, Nat.reduceMul, Nat.reduceLT, Nat.reduceLeDiff, Nat.reduceBNe, Int.reduceNeg, Int.reduceAdd, Int.reduceSub, Int.reduceMul, Int.reduceLT, Int.reduceLE, Int.reduceGT, Int.reduceGE, Int.reduceEq, Int.reduceNe, Int.reduceToNat, Int.reduceTMod, Int.reduceTDiv]
      · have hc' := hc
        rw [letters_eq] at hc'
        have e : Rul.nameB (c :: s) = false := by
          have h1 : Rul.isIn Rul.letters c = false := by unfold Rul.isIn; exact decide_eq_false hc
          simp only [Rul.nameB, h1]; simp
        simp (disch := omega) only [go_sem, reduceIte, reduceDIte, reduceCtorEq, Nat.reduceBEq, Nat.reduceEqDiff, Nat.reduceAdd, Nat.reduceSub, Nat.reduceMul, Nat.reduceLT, Nat.reduceLeDiff, Nat.reduceBNe, Int.reduceNeg, Int.reduceAdd, Int.reduceSub, Int.reduceMul, Int.reduceLT, Int.reduceLE, Int.reduceGT, Int.reduceGE, Int.reduceEq, Int.reduceNe, Int.reduceToNat, Int.reduceTMod, Int.reduceTDiv, hc', e]
end Go.Proofs.YtjgbdlaecpkmhaaGreatDoor
/- Trees of patterns: which texts they match, and where these end. Plain: no program. -/
set_option linter.unusedVariables false
set_option linter.unusedSimpArgs false
namespace Pat

inductive Tree where
  | mk (kind : Int) (set : List (Int × Int)) (sub : List Tree) (min max : Int)
instance : Inhabited Tree := ⟨.mk 0 [] [] 0 0⟩

namespace Tree
def kind : Tree → Int | .mk k _ _ _ _ => k
def set : Tree → List (Int × Int) | .mk _ s _ _ _ => s
def sub : Tree → List Tree | .mk _ _ l _ _ => l
def min : Tree → Int | .mk _ _ _ a _ => a
def max : Tree → Int | .mk _ _ _ _ b => b
end Tree

mutual
theorem Tree.ind {p : Tree → Prop} (h : ∀ k s sub a b, (∀ x, x ∈ sub → p x) → p (.mk k s sub a b)) : ∀ n, p n
  | .mk k s sub a b => h k s sub a b (Tree.indL h sub)
theorem Tree.indL {p : Tree → Prop} (h : ∀ k s sub a b, (∀ x, x ∈ sub → p x) → p (.mk k s sub a b)) : ∀ (l : List Tree) (x : Tree), x ∈ l → p x
  | [], x, hx => by cases hx
  | y :: l, x, hx => by
    rcases List.mem_cons.1 hx with hx | hx
    · rw [hx]; exact Tree.ind h y
    · exact Tree.indL h l x hx
end

mutual
def Tree.nodes : Tree → Nat
  | .mk _ _ l _ _ => 1 + Tree.nodesL l
def Tree.nodesL : List Tree → Nat
  | [] => 0
  | x :: l => Tree.nodes x + Tree.nodesL l
end

/-- A number of copies, one after the other. -/
def Pow (L : List Int → Prop) : Nat → List Int → Prop
  | 0, w => w = []
  | n + 1, w => ∃ u v, w = u ++ v ∧ L u ∧ Pow L n v

def InSet (s : List (Int × Int)) (c : Int) : Prop := ∃ r, r ∈ s ∧ r.1 ≤ c ∧ c ≤ r.2

/-- Texts of one language, then of another. -/
def Cat (L M : List Int → Prop) : List Int → Prop := fun w => ∃ u v, w = u ++ v ∧ L u ∧ M v
def Eps : List Int → Prop := fun w => w = []

mutual
def Lang : Tree → List Int → Prop
  | .mk k s l a b, w =>
    if k = 1 then w = []
    else if k = 2 then ∃ c, w = [c] ∧ InSet s c
    else if k = 3 then LangJ l w
    else if k = 4 then LangC l w
    else if k = 5 then ∃ n : Nat, a ≤ (n : Int) ∧ (b < 0 ∨ (n : Int) ≤ b) ∧ LangP l n w
    else False
def LangJ : List Tree → List Int → Prop
  | [], w => w = []
  | x :: l, w => ∃ u v, w = u ++ v ∧ Lang x u ∧ LangJ l v
def LangC : List Tree → List Int → Prop
  | [], _ => False
  | x :: l, w => Lang x w ∨ LangC l w
def LangP : List Tree → Nat → List Int → Prop
  | [], _, _ => False
  | x :: _, n, w => Pow (fun u => Lang x u) n w
end

theorem cat_assoc (L M N : List Int → Prop) (w : List Int) : Cat (Cat L M) N w ↔ Cat L (Cat M N) w := by
  constructor
  · rintro ⟨_, v, rfl, ⟨a, b, rfl, h1, h2⟩, h3⟩; exact ⟨a, b ++ v, by simp, h1, b, v, rfl, h2, h3⟩
  · rintro ⟨a, _, rfl, h1, b, v, rfl, h2, h3⟩; exact ⟨a ++ b, v, by simp, ⟨a, b, rfl, h1, h2⟩, h3⟩
theorem cat_eps (L : List Int → Prop) (w : List Int) : Cat L Eps w ↔ L w := by
  constructor
  · rintro ⟨u, v, rfl, h1, rfl⟩; simpa using h1
  · intro h; exact ⟨w, [], by simp, h, rfl⟩
theorem eps_cat (L : List Int → Prop) (w : List Int) : Cat Eps L w ↔ L w := by
  constructor
  · rintro ⟨u, v, rfl, rfl, h1⟩; simpa using h1
  · intro h; exact ⟨[], w, by simp, rfl, h⟩
theorem cat_congr {L L' M M' : List Int → Prop} (h : ∀ w, L w ↔ L' w) (k : ∀ w, M w ↔ M' w) (w : List Int) : Cat L M w ↔ Cat L' M' w := by
  constructor
  · rintro ⟨u, v, rfl, h1, h2⟩; exact ⟨u, v, rfl, (h _).1 h1, (k _).1 h2⟩
  · rintro ⟨u, v, rfl, h1, h2⟩; exact ⟨u, v, rfl, (h _).2 h1, (k _).2 h2⟩

theorem pow_succ (L : List Int → Prop) (n : Nat) (w : List Int) : Pow L (n + 1) w ↔ Cat L (Pow L n) w := Iff.rfl
theorem pow_zero (L : List Int → Prop) (w : List Int) : Pow L 0 w ↔ Eps w := Iff.rfl
theorem pow_snoc (L : List Int → Prop) : ∀ (n : Nat) (w : List Int), Pow L (n + 1) w ↔ Cat (Pow L n) L w
  | 0, w => by
    rw [pow_succ]
    exact (cat_congr (fun _ => Iff.rfl) (fun _ => pow_zero L _) w).trans ((cat_eps L w).trans ((eps_cat L w).symm.trans (cat_congr (fun _ => (pow_zero L _).symm) (fun _ => Iff.rfl) w)))
  | n + 1, w => by
    rw [pow_succ]
    exact (cat_congr (fun _ => Iff.rfl) (fun _ => pow_snoc L n _) w).trans ((cat_assoc _ _ _ w).symm.trans (cat_congr (fun _ => (pow_succ L n _).symm) (fun _ => Iff.rfl) w))
theorem pow_add (L : List Int → Prop) (m : Nat) : ∀ (n : Nat) (w : List Int), Pow L (m + n) w ↔ Cat (Pow L m) (Pow L n) w
  | 0, w => ((cat_congr (fun _ => Iff.rfl) (fun _ => pow_zero L _) w).trans (cat_eps _ w)).symm
  | n + 1, w => by
    have := pow_snoc L (m + n) w
    rw [show m + (n + 1) = m + n + 1 by omega, this]
    exact (cat_congr (pow_add L m n) (fun _ => Iff.rfl) w).trans ((cat_assoc _ _ _ w).trans (cat_congr (fun _ => Iff.rfl) (fun _ => (pow_snoc L n _).symm) w))

theorem langJ_nil (w : List Int) : LangJ [] w ↔ Eps w := by simp only [LangJ, Eps]
theorem langJ_cons (x : Tree) (l : List Tree) (w : List Int) : LangJ (x :: l) w ↔ Cat (Lang x) (LangJ l) w := by simp only [LangJ, Cat]
theorem langJ_append (l : List Tree) : ∀ (m : List Tree) (w : List Int), LangJ (l ++ m) w ↔ Cat (LangJ l) (LangJ m) w := by
  induction l with
  | nil => intro m w; exact ((cat_congr langJ_nil (fun _ => Iff.rfl) w).trans (eps_cat _ w)).symm
  | cons x l ih =>
    intro m w
    rw [List.cons_append, langJ_cons]
    exact (cat_congr (fun _ => Iff.rfl) (ih m) w).trans ((cat_assoc _ _ _ w).symm.trans (cat_congr (fun _ => (langJ_cons x l _).symm) (fun _ => Iff.rfl) w))
theorem langC_iff (l : List Tree) (w : List Int) : LangC l w ↔ ∃ x, x ∈ l ∧ Lang x w := by
  induction l with
  | nil => simp [LangC]
  | cons x l ih => simp [LangC, ih]

/- places in a text -/

/-- The part of a text between two places. -/
def part (t : List Int) (i j : Nat) : List Int := (t.take j).drop i

/-- Where texts of a language can end that begin at some places. -/
def Post (t : List Int) (L : List Int → Prop) (p : Nat → Prop) : Nat → Prop := fun j => ∃ i, p i ∧ i ≤ j ∧ j ≤ t.length ∧ L (part t i j)

open Classical in
/-- Places as the program has them. -/
noncomputable def places (t : List Int) (p : Nat → Prop) : List Bool := (List.range (t.length + 1)).map fun j => decide (p j)

theorem places_length (t : List Int) (p : Nat → Prop) : (places t p).length = t.length + 1 := by simp [places]
theorem places_get {t : List Int} {p : Nat → Prop} {j : Nat} (h : j ≤ t.length) : ((places t p).getD j false = true) ↔ p j := by
  have h' : j < t.length + 1 := by omega
  simp [places, List.getD_eq_getElem?_getD, h']
theorem places_congr {t : List Int} {p q : Nat → Prop} (h : ∀ j, j ≤ t.length → (p j ↔ q j)) : places t p = places t q := by
  unfold places
  refine List.map_congr_left fun j hj => ?_
  rw [List.mem_range] at hj
  exact decide_eq_decide.2 (h j (by omega))
theorem places_of {t : List Int} {b : List Bool} (h : b.length = t.length + 1) : b = places t fun j => b.getD j false = true := by
  refine List.ext_getElem (by rw [places_length, h]) fun j h1 h2 => ?_
  simp [places, List.getD_eq_getElem?_getD, h1]

theorem part_split (t : List Int) {i k j : Nat} (h : i ≤ k) (h' : k ≤ j) (hj : j ≤ t.length) : part t i j = part t i k ++ part t k j := by
  unfold part
  have e1 : ((t.take j).drop i).take (k - i) = (t.take k).drop i := by
    rw [List.drop_take, List.take_take, List.drop_take, Nat.min_eq_left (by omega)]
  have e2 : ((t.take j).drop i).drop (k - i) = (t.take j).drop k := by
    rw [List.drop_drop, show i + (k - i) = k by omega]
  rw [← e1, ← e2, List.take_append_drop]
theorem part_length (t : List Int) {i j : Nat} (h : j ≤ t.length) : (part t i j).length = j - i := by simp [part]; omega

/-- Reading one language and then another is reading both. -/
theorem post_cat (t : List Int) (L M : List Int → Prop) (p : Nat → Prop) {j : Nat} (hj : j ≤ t.length) : Post t M (Post t L p) j ↔ Post t (Cat L M) p j := by
  constructor
  · rintro ⟨k, ⟨i, hp, h1, h2, h3⟩, h4, h5, h6⟩
    exact ⟨i, hp, Nat.le_trans h1 h4, h5, part t i k, part t k j, part_split t h1 h4 h5, h3, h6⟩
  · rintro ⟨i, hp, h1, h2, u, v, he, hu, hv⟩
    have hl := part_length t (i := i) h2
    rw [he, List.length_append] at hl
    have hk : i + u.length ≤ j := by omega
    have hs := part_split t (Nat.le_add_right i u.length) hk h2
    have hu' : (part t i (i + u.length)).length = u.length := by rw [part_length t (by omega)]; omega
    rw [hs] at he
    obtain ⟨e1, e2⟩ := List.append_inj he hu'
    exact ⟨i + u.length, ⟨i, hp, Nat.le_add_right _ _, by omega, by rw [e1]; exact hu⟩, hk, h2, by rw [e2]; exact hv⟩
theorem post_eps (t : List Int) (p : Nat → Prop) {j : Nat} (hj : j ≤ t.length) : Post t Eps p j ↔ p j := by
  constructor
  · rintro ⟨i, hp, h1, h2, h3⟩
    have hl := part_length t (i := i) h2
    rw [show part t i j = [] from h3] at hl
    simp at hl
    obtain rfl : i = j := by omega
    exact hp
  · intro hp; exact ⟨j, hp, Nat.le_refl _, hj, by simp only [Eps, part]; exact List.drop_of_length_le (by simp; omega)⟩
theorem post_congr {t : List Int} {L M : List Int → Prop} (h : ∀ w, L w ↔ M w) (p : Nat → Prop) (j : Nat) : Post t L p j ↔ Post t M p j := by
  constructor <;> rintro ⟨i, hp, h1, h2, h3⟩
  · exact ⟨i, hp, h1, h2, (h _).1 h3⟩
  · exact ⟨i, hp, h1, h2, (h _).2 h3⟩
theorem post_mono {t : List Int} {L : List Int → Prop} {p q : Nat → Prop} (h : ∀ i, i ≤ t.length → p i → q i) {j : Nat} (hj : Post t L p j) : Post t L q j := by
  obtain ⟨i, hp, h1, h2, h3⟩ := hj
  exact ⟨i, h i (by omega) hp, h1, h2, h3⟩
theorem post_le {t : List Int} {L : List Int → Prop} {p : Nat → Prop} {j : Nat} (h : Post t L p j) : j ≤ t.length := let ⟨_, _, _, h, _⟩ := h; h

theorem part_one (t : List Int) {i : Nat} (hi : i < t.length) : part t i (i + 1) = [t.getD i 0] := by
  have e : t.drop i = t.getD i 0 :: t.drop (i + 1) := by
    rw [List.drop_eq_getElem_cons hi, List.getD_eq_getElem?_getD, List.getElem?_eq_getElem hi]; rfl
  unfold part
  rw [List.drop_take, show i + 1 - i = 1 by omega, e]
  rfl

/-- A set: one character further. -/
theorem post_set (t : List Int) (s : List (Int × Int)) (p : Nat → Prop) (j : Nat) :
    Post t (fun w => ∃ c, w = [c] ∧ InSet s c) p j ↔ ∃ i, j = i + 1 ∧ i < t.length ∧ p i ∧ InSet s (t.getD i 0) := by
  constructor
  · rintro ⟨i, hp, h1, h2, c, hc, hs⟩
    have hl := part_length t (i := i) h2
    rw [hc] at hl
    simp at hl
    have hj : j = i + 1 := by omega
    subst hj
    refine ⟨i, rfl, by omega, hp, ?_⟩
    have : part t i (i + 1) = [t.getD i 0] := by
      have hi : i < t.length := by omega
      exact part_one t hi
    rw [this] at hc
    cases hc; exact hs
  · rintro ⟨i, rfl, hi, hp, hs⟩
    refine ⟨i, hp, by omega, by omega, t.getD i 0, ?_, hs⟩
    exact part_one t hi

/-- Copies from a number to another. -/
def Upto (L : List Int → Prop) (a k : Nat) : List Int → Prop := fun w => ∃ n, a ≤ n ∧ n ≤ k ∧ Pow L n w
def From (L : List Int → Prop) (a : Nat) : List Int → Prop := fun w => ∃ n, a ≤ n ∧ Pow L n w

/-- Where one copy more finds nothing new, no number of copies does. -/
theorem upto_stable (t : List Int) (L : List Int → Prop) (p : Nat → Prop) (a k : Nat) (hak : a ≤ k) (h : ∀ j, Post t (Pow L (k + 1)) p j → Post t (Upto L a k) p j) :
    ∀ n, k ≤ n → ∀ j, Post t (Upto L a n) p j → Post t (Upto L a k) p j := by
  have step : ∀ n, k < n → ∀ j, Post t (Pow L n) p j → Post t (Upto L a k) p j := by
    intro n hn
    induction n with
    | zero => omega
    | succ n ih =>
      intro j hj
      rcases Nat.lt_or_ge k n with hk | hk
      · have hjl := post_le hj
        have h1 : Post t L (Post t (Pow L n) p) j := (post_cat t _ _ p hjl).2 ((post_congr (fun w => pow_snoc L n w) p j).1 hj)
        have h2 : Post t L (Post t (Upto L a k) p) j := post_mono (fun i _ hi => ih hk i hi) h1
        have h3 := (post_cat t _ _ p hjl).1 h2
        obtain ⟨i, hp, i1, i2, u, v, he, ⟨m, m1, m2, hu⟩, hv⟩ := h3
        have h4 : Pow L (m + 1) (part t i j) := (pow_snoc L m _).2 ⟨u, v, he, hu, hv⟩
        rcases Nat.lt_or_ge m k with hm | hm
        · exact ⟨i, hp, i1, i2, m + 1, by omega, by omega, h4⟩
        · obtain rfl : m = k := by omega
          exact h j ⟨i, hp, i1, i2, h4⟩
      · obtain rfl : n = k := by omega
        exact h j hj
  intro n hn j hj
  obtain ⟨i, hp, i1, i2, m, m1, m2, hm⟩ := hj
  rcases Nat.lt_or_ge k m with hk | hk
  · exact step m hk j ⟨i, hp, i1, i2, hm⟩
  · exact ⟨i, hp, i1, i2, m, m1, hk, hm⟩
end Pat
set_option linter.unusedVariables false
set_option linter.unusedSimpArgs false
set_option maxRecDepth 100000
namespace Go.Proofs.YtjgbdlaecpkmhaaGreatDoor
open Go Nv Pat

def rgD (r : Int × Int) : DV := .agg [.int .i32 r.1, .int .i32 r.2]
def setD (s : List (Int × Int)) : DV := .list 2 (s.map rgD)
@[go_sem] theorem one_setD (s : List (Int × Int)) : (AV.d (setD s)).one = true := nrfl rfl
mutual
def nodeD : Tree → DV
  | .mk k s l a b => .agg [.int .i64 k, setD s, .list 5 (nodesD l), .int .i64 a, .int .i64 b]
def nodesD : List Tree → List DV
  | [] => []
  | x :: l => nodeD x :: nodesD l
end
theorem nodesD_map : ∀ l : List Tree, nodesD l = l.map nodeD
  | [] => rfl
  | x :: l => by rw [nodesD, nodesD_map l]; rfl
def nodeC (n : Tree) : List DV := [.int .i64 n.kind, setD n.set, .list 5 (n.sub.map nodeD), .int .i64 n.min, .int .i64 n.max]
theorem nodeD_eq : ∀ n : Tree, nodeD n = .agg (nodeC n)
  | .mk k s l a b => by simp only [nodeD, nodeC, nodesD_map, Tree.kind, Tree.set, Tree.sub, Tree.min, Tree.max]
def nodeF (n : Tree) : List AV := [.d (.int .i64 n.kind), .d (setD n.set), .d (.list 5 (n.sub.map nodeD)), .d (.int .i64 n.min), .d (.int .i64 n.max)]
def nodeA (n : Tree) : AV := .agg (nodeF n)

theorem nodesL_append : ∀ l m : List Tree, Tree.nodesL (l ++ m) = Tree.nodesL l + Tree.nodesL m
  | [], m => by simp [Tree.nodesL]
  | x :: l, m => by simp only [List.cons_append, Tree.nodesL, nodesL_append l m]; omega
theorem take_succ' {α : Type} [Inhabited α] (l : List α) (k : Nat) (h : k < l.length) : l.take (k + 1) = l.take k ++ [l.getD k default] := by
  rw [List.take_succ_eq_append_getElem h]; simp [List.getD_eq_getElem?_getD, h]
theorem getD_mem {α : Type} [Inhabited α] (l : List α) (k : Nat) (h : k < l.length) : l.getD k default ∈ l := by
  rw [List.getD_eq_getElem?_getD, List.getElem?_eq_getElem h]; exact List.getElem_mem _
theorem nodesL_take (l : List Tree) (k : Nat) : Tree.nodesL (l.take k) ≤ Tree.nodesL l := by
  have := nodesL_append (l.take k) (l.drop k)
  rw [List.take_append_drop] at this
  omega
theorem length_nodesL : ∀ l : List Tree, l.length ≤ Tree.nodesL l
  | [] => Nat.le_refl _
  | x :: l => by
    have := length_nodesL l
    have h1 : 1 ≤ x.nodes := by cases x; simp only [Tree.nodes]; omega
    simp only [List.length_cons, Tree.nodesL]; omega
theorem nodes_mem : ∀ (l : List Tree) (x : Tree), x ∈ l → x.nodes ≤ Tree.nodesL l
  | y :: l, x, h => by
    rcases List.mem_cons.1 h with h | h
    · rw [h, Tree.nodesL]; omega
    · have := nodes_mem l x h
      rw [Tree.nodesL]; omega
theorem nodes_eq : ∀ n : Tree, n.nodes = 1 + Tree.nodesL n.sub
  | .mk k s l a b => by simp only [Tree.nodes, Tree.sub]
theorem nodes_pos (n : Tree) : 1 ≤ n.nodes := by rw [nodes_eq]; omega

/-- The number of nodes, as long as it is not greater than a limit. -/
def cnt (n : Tree) (lim : Nat) : Nat := min n.nodes (lim + 1)

end Go.Proofs.YtjgbdlaecpkmhaaGreatDoor
set_option linter.unusedVariables false
set_option linter.unusedSimpArgs false
set_option maxRecDepth 100000
namespace Go.Proofs.YtjgbdlaecpkmhaaGreatDoor
open Go Nv Pat

def charB (r : Int) : Bool := (decide (0 ≤ r) && decide (r ≤ 55295)) || (decide (57344 ≤ r) && decide (r ≤ 1114111))
theorem charB_iff (r : Int) : charB r = true ↔ (0 ≤ r ∧ r ≤ 55295) ∨ (57344 ≤ r ∧ r ≤ 1114111) := by simp [charB]

def rgB (r : Int × Int) : Bool := charB r.1 && charB r.2 && decide (r.1 ≤ r.2) && (decide (r.1 < 55296) == decide (r.2 < 55296))
def properFrom : Option Int → List (Int × Int) → Bool
  | _, [] => true
  | none, r :: l => rgB r && properFrom (some r.2) l
  | some q, r :: l => rgB r && decide (2 ≤ r.1 - q) && properFrom (some r.2) l
def properB (s : List (Int × Int)) : Bool := properFrom none s
def prevOf (s : List (Int × Int)) (k : Nat) : Option Int := if k = 0 then none else some (s.getD (k - 1) default).2

end Go.Proofs.YtjgbdlaecpkmhaaGreatDoor
set_option linter.unusedVariables false
set_option linter.unusedSimpArgs false
set_option maxRecDepth 100000
namespace Go.Proofs.YtjgbdlaecpkmhaaGreatDoor
open Go Nv Pat

/-- Whether the parts of a node are as its kind wants them. -/
def partsB (k : Int) (s : List (Int × Int)) (n : Int) (a b : Int) : Bool :=
  if k = 1 then decide (n = 0)
  else if k = 2 then decide (n = 0) && properB s
  else if k = 3 then decide (2 ≤ n)
  else if k = 4 then decide (2 ≤ n)
  else decide (n = 1) && decide (0 ≤ a) && decide (a ≤ 20) && (decide (b = -1) || (decide (a ≤ b) && decide (b ≤ 20)))
def kindB (k : Int) : Bool := decide (k = 1) || decide (k = 2) || decide (k = 3) || decide (k = 4) || decide (k = 5)
def badB (k : Int) (s : List (Int × Int)) (n : Int) (a b : Int) : Bool :=
  !partsB k s n a b || (decide (k ≠ 2) && decide (0 < (s.length : Int))) || (decide (k ≠ 5) && (decide (a ≠ 0) || decide (b ≠ 0)))
mutual
def chk : Tree → Int
  | .mk k s l a b => if kindB k then (if badB k s l.length a b then 1 else chkL l) else 9
def chkL : List Tree → Int
  | [] => 0
  | x :: l => if chk x = 0 then chkL l else chk x
end

/-- Trees whose sizes the program's numbers hold. -/
def Slim (n : Tree) : Prop := n.nodes ≤ 1000000
mutual
def Thin : Tree → Prop
  | .mk _ s l _ _ => s.length ≤ 1000000 ∧ ThinL l
def ThinL : List Tree → Prop
  | [] => True
  | x :: l => Thin x ∧ ThinL l
end
theorem thinL_mem : ∀ {l : List Tree} {x : Tree}, ThinL l → x ∈ l → Thin x
  | y :: l, x, h, hx => by
    rcases List.mem_cons.1 hx with e | hx
    · rw [e]; exact h.1
    · exact thinL_mem h.2 hx

def boxF (k : Int) (s : List (Int × Int)) (sub : List Tree) (a b : Int) : List AV := [.d (.int .i64 k), .d (setD s), .d (.list 5 (sub.map nodeD)), .d (.int .i64 a), .d (.int .i64 b)]

end Go.Proofs.YtjgbdlaecpkmhaaGreatDoor
set_option linter.unusedVariables false
set_option linter.unusedSimpArgs false
set_option maxRecDepth 100000
namespace Go.Proofs.YtjgbdlaecpkmhaaGreatDoor
open Go Nv Pat

def chkE (n : Tree) : Int := if 120 < n.nodes then 5 else chk n
theorem chkL_mem : ∀ {l : List Tree}, chkL l = 0 → ∀ x, x ∈ l → chk x = 0
  | y :: l, h, x, hx => by
    rw [chkL] at h
    split at h
    · rename_i h0
      rcases List.mem_cons.1 hx with e | hx
      · rw [e]; exact h0
      · exact chkL_mem h x hx
    · rename_i h0; exact absurd h h0
theorem chk_ok {k : Int} {s : List (Int × Int)} {l : List Tree} {a b : Int} (h : chk (.mk k s l a b) = 0) : kindB k = true ∧ badB k s l.length a b = false ∧ chkL l = 0 := by
  rw [chk] at h
  split at h
  · rename_i h1
    split at h
    · cases h
    · rename_i h2
      exact ⟨h1, by simpa using h2, h⟩
  · cases h

theorem take_all {α : Type} (l : List α) (n : Nat) (h : l.length = n) : l.take n = l := List.take_of_length_le (by omega)
theorem chkE_ok {n : Tree} (h : chkE n = 0) : n.nodes ≤ 120 ∧ chk n = 0 := by
  unfold chkE at h
  split at h
  · cases h
  · exact ⟨by omega, h⟩
theorem chkL_of {l : List Tree} (h : ∀ x, x ∈ l → chk x = 0) : chkL l = 0 := by
  induction l with
  | nil => rfl
  | cons x l ih => rw [chkL, if_pos (h x (by simp))]; exact ih fun y hy => h y (by simp [hy])
theorem thinL_all {l : List Tree} (h : ∀ x, x ∈ l → Thin x) : ThinL l := by
  induction l with
  | nil => trivial
  | cons x l ih => exact ⟨h x (by simp), ih fun y hy => h y (by simp [hy])⟩


def runesD (l : List Int) : List DV := l.map (DV.int .i32)
@[go_sem] theorem runesD_length (l : List Int) : (runesD l).length = l.length := nrfl (by simp [runesD])
theorem stGet_app (l m : Nv.ST) (k : Nat) : stGet (l ++ m) (List.length l + k) = stGet m k := by
  simp [stGet, List.getD_eq_getElem?_getD, List.getElem?_append_right]
theorem stGet_app0 (l m : Nv.ST) : stGet (l ++ m) (List.length l) = stGet m 0 := stGet_app l m 0
theorem stSet_app (l m : Nv.ST) (k : Nat) (x : Blk) : stSet (l ++ m) (List.length l + k) x = l ++ stSet m k x := by
  simp [stSet, List.set_append_right]
theorem stSet_app0 (l m : Nv.ST) (x : Blk) : stSet (l ++ m) (List.length l) x = l ++ stSet m 0 x := by
  simp [stSet, List.set_append_right]
theorem stGet_one (a b : Blk) (l : Nv.ST) : stGet (a :: b :: l) 1 = b := rfl
theorem stSet_one (a b x : Blk) (l : Nv.ST) : stSet (a :: b :: l) 1 x = a :: x :: l := rfl

def bt (b : UInt8) : Int := (b.toNat : Int)
end Go.Proofs.YtjgbdlaecpkmhaaGreatDoor
/- Patterns as texts of characters: how they are read, and how they are written. Plain: no program. -/

set_option linter.unusedVariables false
set_option linter.unusedSimpArgs false
namespace Pat

def allS : List (Int × Int) := [(0, 55295), (57344, 1114111)]
def isCh (r : Int) : Bool := (decide (0 ≤ r) && decide (r ≤ 55295)) || (decide (57344 ≤ r) && decide (r ≤ 1114111))
def clip1 (a b : Int) (q : Int × Int) : List (Int × Int) := if max a q.1 ≤ min b q.2 then [(max a q.1, min b q.2)] else []
def clipS (a b : Int) : List (Int × Int) := clip1 a b (0, 55295) ++ clip1 a b (57344, 1114111)
/-- One range more, at the end. -/
def joinR (out : List (Int × Int)) (r : Int × Int) : List (Int × Int) :=
  if 0 < out.length ∧ r.1 ≤ (out.getD (out.length - 1) default).2 + 1 then out.set (out.length - 1) ((out.getD (out.length - 1) default).1, max (out.getD (out.length - 1) default).2 r.2)
  else out ++ [r]
def compL : Int → List (Int × Int) → List (Int × Int)
  | low, [] => clipS low 1114111
  | low, r :: l => clipS low (r.1 - 1) ++ compL (r.2 + 1) l
def compS (l : List (Int × Int)) : List (Int × Int) := compL 0 l

/-- The characters that stand behind a backslash: outside of classes, and in them. -/
def spec : List Int := [92, 40, 41, 91, 93, 123, 125, 124, 42, 43, 63, 46]
def insd : List Int := [92, 93, 94, 45]

def digit (c : Int) : Bool := decide (48 ≤ c) && decide (c ≤ 57)
def numL : List Int → Int → Int × List Int
  | [], n => (n, [])
  | c :: t, n => if digit c then numL t (min (10 * n + (c - 48)) 1000) else (n, c :: t)
def numP (l : List Int) : Option (Int × List Int) :=
  if (numL l 0).2.length = l.length ∨ (l.headD 0 = 48 ∧ (numL l 0).2.length + 1 < l.length) ∨ 20 < (numL l 0).1 then none else some (numL l 0)
def oneP : List Int → Option (Int × List Int)
  | [] => none
  | c :: t => some (c, t)
def letP : List Int → Option (Int × List Int)
  | [] => none
  | c :: t => if c = 92 then oneP t else if c = 93 ∨ c = 94 ∨ c = 45 then none else some (c, t)
/-- A letter, or two with a sign between them. -/
def itemP (l : List Int) : Option ((Int × Int) × List Int) :=
  match letP l with
  | none => none
  | some x => if x.2.headD (-1) = 45 then (letP x.2.tail).map fun y => ((x.1, y.1), y.2) else some ((x.1, x.1), x.2)
def clsP : Nat → List (Int × Int) → List Int → Option (List (Int × Int) × List Int)
  | 0, _, _ => none
  | f + 1, acc, l =>
    if acc ≠ [] ∧ l.headD (-1) = 93 then some (acc, l.tail)
    else match itemP l with
      | none => none
      | some (q, r) => if q.2 < q.1 then none else clsP f (acc ++ clipS q.1 q.2) r

section
variable (sort : List (Int × Int) → List (Int × Int))
def normS (l : List (Int × Int)) : List (Int × Int) := (sort l).foldl joinR []
def classP (l : List Int) : Option (List (Int × Int) × List Int) :=
  if l.headD (-1) = 94 then (clsP (l.length + 1) [] l.tail).map fun x => (compS (normS sort x.1), x.2)
  else (clsP (l.length + 1) [] l).map fun x => (normS sort x.1, x.2)

def setT (s : List (Int × Int)) : Tree := .mk 2 s [] 0 0
def rep5 (x : Tree) (a b : Int) : Tree := .mk 5 [] [x] a b
def mkJoin : List Tree → Tree
  | [] => .mk 1 [] [] 0 0
  | [x] => x
  | l => .mk 3 [] l 0 0
def mkChoice : List Tree → Tree
  | [x] => x
  | l => .mk 4 [] l 0 0

variable (ch : List Int → Option (Tree × List Int))
def atomP : List Int → Option (Tree × List Int)
  | [] => none
  | c :: t =>
    if c = 40 then (match ch t with
      | none => none
      | some (n, r) => if r.headD (-1) = 41 then some (n, r.tail) else none)
    else if c = 46 then some (setT allS, t)
    else if c = 91 then (classP sort t).map fun x => (setT x.1, x.2)
    else if c = 92 then (match t with | [] => none | d :: t => some (setT [(d, d)], t))
    else if c ∈ spec then none
    else some (setT [(c, c)], t)
/-- What stands between the braces of a repetition. -/
def bndP (l : List Int) : Option ((Int × Int) × List Int) :=
  match numP l with
  | none => none
  | some (a, r) =>
    match (if r.headD (-1) = 44 then (if r.tail.headD (-1) = 125 then some (-1, r.tail) else numP r.tail) else some (a, r)) with
    | none => none
    | some (b, r) => if r.headD (-1) = 125 ∧ ¬ (0 ≤ b ∧ b < a) then some ((a, b), r.tail) else none
def repP (l : List Int) : Option (Tree × List Int) :=
  match atomP sort ch l with
  | none => none
  | some (x, r) =>
    if r.headD (-1) = 42 then some (rep5 x 0 (-1), r.tail)
    else if r.headD (-1) = 43 then some (rep5 x 1 (-1), r.tail)
    else if r.headD (-1) = 63 then some (rep5 x 0 1, r.tail)
    else if r.headD (-1) = 123 then (bndP r.tail).map fun y => (rep5 x y.1.1 y.1.2, y.2)
    else some (x, r)
def joinL : Nat → List Int → Option (List Tree × List Int)
  | 0, _ => none
  | f + 1, l =>
    if l.headD (-1) < 0 ∨ l.headD (-1) = 124 ∨ l.headD (-1) = 41 then some ([], l)
    else match repP sort ch l with
      | none => none
      | some (x, r) => (joinL f r).map fun y => (x :: y.1, y.2)
def joinP (l : List Int) : Option (Tree × List Int) := (joinL sort ch (l.length + 1) l).map fun y => (mkJoin y.1, y.2)
def choiceL : Nat → List Int → Option (List Tree × List Int)
  | 0, _ => none
  | f + 1, l =>
    match joinP sort ch l with
    | none => none
    | some (x, r) => if r.headD (-1) = 124 then (choiceL f r.tail).map fun y => (x :: y.1, y.2) else some ([x], r)
def choiceP (l : List Int) : Option (Tree × List Int) := (choiceL sort ch (l.length + 1) l).map fun y => (mkChoice y.1, y.2)
end
def chP (sort : List (Int × Int) → List (Int × Int)) : Nat → List Int → Option (Tree × List Int)
  | 0 => fun _ => none
  | f + 1 => choiceP sort (chP sort f)
/-- The tree of a pattern, if it is one. -/
def parseC (sort : List (Int × Int) → List (Int × Int)) (l : List Int) : Option Tree :=
  match chP sort (l.length + 1) l with
  | some (n, []) => some n
  | _ => none

/- writing -/
def escC (c : Int) (sp : List Int) : List Int := if c ∈ sp then [92, c] else [c]
def itemC (r : Int × Int) : List Int := escC r.1 insd ++ if r.1 < r.2 then 45 :: escC r.2 insd else []
def itemsC (l : List (Int × Int)) : List Int := l.flatMap itemC
def setC (s : List (Int × Int)) : List Int :=
  if s = allS then [46] else if s = [] then [91, 94] ++ itemsC allS ++ [93]
  else if s.length = 1 ∧ (s.headD default).1 = (s.headD default).2 then escC (s.headD default).1 spec
  else 91 :: itemsC s ++ [93]
def numC (n : Int) : List Int := if n < 10 then [48 + n] else [48 + n / 10, 48 + n % 10]
def sufC (a b : Int) : List Int :=
  if a = 0 ∧ b = -1 then [42] else if a = 1 ∧ b = -1 then [43] else if a = 0 ∧ b = 1 then [63]
  else if a = b then 123 :: numC a ++ [125] else if b = -1 then 123 :: numC a ++ [44, 125] else 123 :: numC a ++ 44 :: numC b ++ [125]
def encl (k e : Int) : Bool :=
  if k = 3 then decide (e = 3) || decide (e = 4) || decide (e = 1) else if k = 4 then decide (e = 4) else !decide (e = 2)
def paren (b : Bool) (l : List Int) : List Int := if b then 40 :: l ++ [41] else l
def sepC : List (List Int) → List Int
  | [] => []
  | [x] => x
  | x :: l => x ++ 124 :: sepC l
mutual
def fmtC : Tree → List Int
  | .mk k s l a b => if k = 2 then setC s else if k = 4 then sepC (fmtL k l) else if k = 5 then (fmtL k l).headD [] ++ sufC a b else (fmtL k l).flatten
def fmtL : Int → List Tree → List (List Int)
  | _, [] => []
  | k, x :: l => paren (encl k x.kind) (fmtC x) :: fmtL k l
end
end Pat
