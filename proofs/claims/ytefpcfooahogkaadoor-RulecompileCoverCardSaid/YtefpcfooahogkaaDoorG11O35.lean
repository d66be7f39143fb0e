/- Part of a proof about the functions of this seat. -/
import Derived.Test.YtefpcfooahogkaaDoorG10Rul
import Derived.Test.YtefpcfooahogkaaDoorG09Base35
/- A nil slice seen avl a list without elements: contracts at data that says less. -/

set_option linter.unusedVariables false
set_option linter.unusedSimpArgs false
namespace Nv
open Go

def WkD (x y : DV) : Prop := x = y ∨ (x = .nilslice ∧ ∃ e, y = .list e [])

inductive WkA : AV → AV → Prop
  | refl (a : AV) : WkA a a
  | nil (e : Nat) : WkA (.d .nilslice) (.d (.list e []))
  | rows {xs ys : List DV} : xs.length = ys.length → (∀ i, i < xs.length → WkD (xs.getD i default) (ys.getD i default)) → WkA (.d (.list 1 xs)) (.d (.list 1 ys))
  | agg {cs ds : List AV} : cs.length = ds.length → (∀ i, i < cs.length → WkA (cs.getD i .any) (ds.getD i .any)) → WkA (.agg cs) (.agg ds)

section
variable {P : Program} {ρ : RHO} {σ : ST} {I : Nat → Prop} {w : World}

theorem VD.wkd {x y : DV} {v : Value} (h : WkD x y) (hv : VD I w x v) : VD I w y v := by
  rcases h with rfl | ⟨rfl, e, rfl⟩
  · exact hv
  · cases hv; exact .listNil _ _

theorem V.wk {a b : AV} (h : WkA a b) : ∀ {v : Value}, V ρ σ I w a v → V ρ σ I w b v := by
  induction h with
  | refl a => exact fun hv => hv
  | nil e => intro v hv; exact .d (VD.wkd (.inr ⟨rfl, e, rfl⟩) hv.d_inv)
  | @rows xs ys hl hx =>
    intro v hv
    cases hv.d_inv with
    | listNil _ p =>
      obtain rfl : ys = [] := List.length_eq_zero_iff.1 (by simpa using hl.symm)
      exact .d (.listNil _ _)
    | @list _ _ b off n cap us q1 q2 q0 q3 q4 =>
      have hy0 : ∀ i, i < ys.length → Uni 1 (ys.getD i default) := by
        intro i hi
        rcases hx i (by omega) with h | ⟨h, e, h'⟩
        · rw [← h]
          refine q0 _ ?_
          rw [List.getD_eq_getElem?_getD, List.getElem?_eq_getElem (by omega)]
          exact List.getElem_mem _
        · rw [h']; exact ⟨rfl, by simp [DV.isAgg]⟩
      have hy : ∀ y, y ∈ ys → Uni 1 y := by
        intro y hm
        obtain ⟨i, hi, rfl⟩ := List.getElem_of_mem hm
        have := hy0 i hi
        rwa [List.getD_eq_getElem?_getD, List.getElem?_eq_getElem hi] at this
      have key : ∀ (j : Nat) (c : DV), (flat ys)[j]? = some c → ∃ c', (flat xs)[j]? = some c' ∧ WkD c' c := by
        intro j c hj
        have hjl : j < (flat ys).length := by
          rcases Nat.lt_or_ge j (flat ys).length with h | h
          · exact h
          · rw [List.getElem?_eq_none h] at hj; cases hj
        rw [flat_len hy, Nat.mul_one] at hjl
        have e1 := flat_get hy (i := j) (o := 0) hjl (by omega)
        have e2 := flat_get q0 (i := j) (o := 0) (by omega) (by omega)
        rw [Nat.mul_one, Nat.add_zero] at e1 e2
        rw [hj] at e1
        rcases hx j (by omega) with h | ⟨h, e, h'⟩
        · rw [h, ← e1] at e2
          exact ⟨c, e2, .inl rfl⟩
        · rw [h'] at e1
          rw [h] at e2
          simp only [DV.cells, List.getElem?_cons_zero, Option.some.injEq] at e1 e2
          exact ⟨_, e2, .inr ⟨rfl, e, e1⟩⟩
      refine .d (.list us (by omega) q2 hy (fun j c hj => ?_) (fun j c hj => ?_))
      · obtain ⟨c', h1, h2⟩ := key j c hj
        exact q3 j c' h1
      · obtain ⟨c', h1, h2⟩ := key j c hj
        exact VD.wkd h2 (q4 j c' h1)
  | @agg cs ds hl _ ih =>
    intro v hv
    cases hv with | agg k1 k2 =>
    refine .agg (by omega) (fun j c hj => ?_)
    have hjl : j < ds.length := by
      rcases Nat.lt_or_ge j ds.length with h | h
      · exact h
      · rw [List.getElem?_eq_none h] at hj; cases hj
    have h1 : cs[j]? = some (cs.getD j .any) := by rw [List.getD_eq_getElem?_getD, List.getElem?_eq_getElem (by omega)]; rfl
    have := ih j (by omega) (k2 j _ h1)
    rwa [List.getD_eq_getElem?_getD, hj] at this

theorem PCall.wk {f : FuncId} {args args' : List AV} {r : AV} (h : PCall P f args' r) (hl : args.length = args'.length) (ha : ∀ i, i < args.length → WkA (args.getD i .any) (args'.getD i .any)) : PCall P f args r := by
  intro σ ρ I w vs hr hv
  refine h σ ρ I w vs hr ⟨by rw [← hl]; exact hv.1, fun j a hj => ?_⟩
  have hjl : j < args'.length := by
    rcases Nat.lt_or_ge j args'.length with h | h
    · exact h
    · rw [List.getElem?_eq_none h] at hj; cases hj
  have h1 : args[j]? = some (args.getD j .any) := by rw [List.getD_eq_getElem?_getD, List.getElem?_eq_getElem (by omega)]; rfl
  have := V.wk (ha j (by omega)) (hv.2 j _ h1)
  rwa [List.getD_eq_getElem?_getD, hj] at this
end
end Nv
set_option linter.unusedVariables false
set_option linter.unusedSimpArgs false
set_option maxRecDepth 100000
namespace Go.Proofs.YtefpcfooahogkaaDoor
open Go Nv

/- The program's name. -/
theorem letters_eq : Rul.letters = [97, 98, 99, 100, 101, 102, 103, 104, 105, 106, 107, 108, 109, 110, 111, 112, 113, 114, 115, 116, 117, 118, 119, 120, 121, 122] := rfl
theorem signs_eq : Rul.signs = [97, 98, 99, 100, 101, 102, 103, 104, 105, 106, 107, 108, 109, 110, 111, 112, 113, 114, 115, 116, 117, 118, 119, 120, 121, 122, 48, 49, 50, 51, 52, 53, 54, 55, 56, 57, 45] := rfl
theorem name11 (s : List UInt8) (hs : s.length ≤ 9223372036854775807) : PCall Tryd.prog 11 [.d (.str s)] (.d (.bool (Rul.nameB s))) := by
  refine fn11.pure noHint (Nat.le_refl _) (by simp only [go_sem]) (by simp only [go_sem]) ?_
  cases s with
  | nil =>
    simp (disch := omega) only [go_sem, reduceIte, reduceDIte, reduceCtorEq, Nat.reduceBEq, Nat.reduceEqDiff, Nat.reduceAdd, Nat.reduceSub, Nat.reduceMul, Nat.reduceLT, Nat.reduceLeDiff, Nat.reduceBNe, Int.reduceNeg, Int.reduceAdd, Int.reduceSub, Int.reduceMul, Int.reduceLT, Int.reduceLE, Int.reduceGT, Int.reduceGE, Int.reduceEq, Int.reduceNe, Int.reduceToNat, Int.reduceTMod, Int.reduceTDiv]
    rfl
  | cons c s =>
    have hne : ¬ (c :: s = []) := by simp
    by_cases hl : 16 < (c :: s).length
    · have hl' : (16 : Int) < (((s.length + 1 : Nat)) : Int) := by simp at hl; omega
      have e : Rul.nameB (c :: s) = false := by unfold Rul.nameB; rw [decide_eq_false (by omega)]; rfl
      simp (disch := omega) only [go_sem, reduceIte, reduceDIte, reduceCtorEq, Nat.reduceBEq, Nat.reduceEqDiff, Nat.reduceAdd, Nat.reduceSub, Nat.reduceMul, Nat.reduceLT, Nat.reduceLeDiff, Nat.reduceBNe, Int.reduceNeg, Int.reduceAdd, Int.reduceSub, Int.reduceMul, Int.reduceLT, Int.reduceLE, Int.reduceGT, Int.reduceGE, Int.reduceEq, Int.reduceNe, Int.reduceToNat, Int.reduceTMod, Int.reduceTDiv, hne, hl', e]
    · have hl' : ¬ (16 : Int) < (((s.length + 1 : Nat)) : Int) := by simp at hl; omega
      simp (disch := omega) only [go_sem, reduceIte, reduceDIte, reduceCtorEq, Nat.reduceBEq, Nat.reduceEqDiff, Nat.reduceAdd, Nat.reduceSub, Nat.reduceMul, Nat.reduceLT, Nat.reduceLeDiff, Nat.reduceBNe, Int.reduceNeg, Int.reduceAdd, Int.reduceSub, Int.reduceMul, Int.reduceLT, Int.reduceLE, Int.reduceGT, Int.reduceGE, Int.reduceEq, Int.reduceNe, Int.reduceToNat, Int.reduceTMod, Int.reduceTDiv, hne, hl']
      refine ⟨by omega, ?_⟩
      refine (contains_one _ c).at ?_
      by_cases hc : 0 ≤ Lib.indexByte Rul.letters c
      · have hc' := hc
        rw [letters_eq] at hc'
        simp (disch := omega) only [go_sem, reduceIte, reduceDIte, reduceCtorEq, Nat.reduceBEq, Nat.reduceEqDiff, Nat.reduceAdd, Nat.reduceSub, Nat.reduceMul, Nat.reduceLT, Nat.reduceLeDiff, Nat.reduceBNe, Int.reduceNeg, Int.reduceAdd, Int.reduceSub, Int.reduceMul, Int.reduceLT, Int.reduceLE, Int.reduceGT, Int.reduceGE, Int.reduceEq, Int.reduceNe, Int.reduceToNat, Int.reduceTMod, Int.reduceTDiv, hc']
        obtain ⟨w, hw⟩ : ∃ w, w = c :: s := ⟨_, rfl⟩
        have hwl : w.length = s.length + 1 := by rw [hw]; rfl
        rw [← hw, ← hwl]
        refine wL_ind (fun (j : Nat) fr σ => j ≤ w.length ∧ fr 0 = .d (.str w) ∧ fr 18 = .d (.int .i64 w.length) ∧ fr 19 = .d (.int .i64 j) ∧ (w.take j).all (Rul.isIn Rul.signs) = true) (fun j => w.length - j) ?_ 0 ?_
        · rintro j fr σ ⟨hj, f0, f18, f19, hall⟩ ih
          by_cases hlt : j < w.length
          · obtain ⟨x, hx⟩ : ∃ x, x = w.getD j 0 := ⟨_, rfl⟩
            have hsl : (w.take (j + 1)).drop j = [x] := by
              rw [hx, List.drop_take, show j + 1 - j = 1 by omega, List.drop_eq_getElem_cons hlt, List.take_succ_cons, List.take_zero, List.getD_eq_getElem?_getD, List.getElem?_eq_getElem hlt]; rfl
            have htk : w.take (j + 1) = w.take j ++ [x] := by rw [List.take_succ_eq_append_getElem hlt, hx, List.getD_eq_getElem?_getD, List.getElem?_eq_getElem hlt]; rfl
            simp (disch := omega) only [go_sem, reduceIte, reduceDIte, reduceCtorEq, Nat.reduceBEq, Nat.reduceEqDiff, Nat.reduceAdd, Nat.reduceSub, Nat.reduceMul, Nat.reduceLT, Nat.reduceLeDiff, Nat.reduceBNe, Int.reduceNeg, Int.reduceAdd, Int.reduceSub, Int.reduceMul, Int.reduceLT, Int.reduceLE, Int.reduceGT, Int.reduceGE, Int.reduceEq, Int.reduceNe, Int.reduceToNat, Int.reduceTMod, Int.reduceTDiv, f0, f18, f19, hlt, hsl]
            refine ⟨by omega, ?_⟩
            refine (contains_one _ x).at ?_
            by_cases hi : 0 ≤ Lib.indexByte Rul.signs x
            · have hi' := hi
              rw [signs_eq] at hi'
              simp (disch := omega) only [go_sem, reduceIte, reduceDIte, reduceCtorEq, Nat.reduceBEq, Nat.reduceEqDiff, Nat.reduceAdd, Nat.reduceSub, Nat.reduceMul, Nat.reduceLT, Nat.reduceLeDiff, Nat.reduceBNe, Int.reduceNeg, Int.reduceAdd, Int.reduceSub, Int.reduceMul, Int.reduceLT, Int.reduceLE, Int.reduceGT, Int.reduceGE, Int.reduceEq, Int.reduceNe, Int.reduceToNat, Int.reduceTMod, Int.reduceTDiv, hi', f19]
              refine ih (j + 1) _ _ (by omega) ⟨by omega, ?_, ?_, ?_, ?_⟩
              · simp (disch := omega) only [go_sem, reduceIte, reduceDIte, reduceCtorEq, Nat.reduceBEq, Nat.reduceEqDiff, Nat.reduceAdd, Nat.reduceSub, Nat.reduceMul, Nat.reduceLT, Nat.reduceLeDiff, Nat.reduceBNe, Int.reduceNeg, Int.reduceAdd, Int.reduceSub, Int.reduceMul, Int.reduceLT, Int.reduceLE, Int.reduceGT, Int.reduceGE, Int.reduceEq, Int.reduceNe, Int.reduceToNat, Int.reduceTMod, Int.reduceTDiv, f0]
              · simp (disch := omega) only [go_sem, reduceIte, reduceDIte, reduceCtorEq, Nat.reduceBEq, Nat.reduceEqDiff, Nat.reduceAdd, Nat.reduceSub, Nat.reduceMul, Nat.reduceLT, Nat.reduceLeDiff, Nat.reduceBNe, Int.reduceNeg, Int.reduceAdd, Int.reduceSub, Int.reduceMul, Int.reduceLT, Int.reduceLE, Int.reduceGT, Int.reduceGE, Int.reduceEq, Int.reduceNe, Int.reduceToNat, Int.reduceTMod, Int.reduceTDiv, f18]
              · simp (disch := omega) only [go_sem, reduceIte, reduceDIte, reduceCtorEq, Nat.reduceBEq, Nat.reduceEqDiff, Nat.reduceAdd, Nat.reduceSub, Nat.reduceMul, Nat.reduceLT, Nat.reduceLeDiff, Nat.reduceBNe, Int.reduceNeg, Int.reduceAdd, Int.reduceSub, Int.reduceMul, Int.reduceLT, Int.reduceLE, Int.reduceGT, Int.reduceGE, Int.reduceEq, Int.reduceNe, Int.reduceToNat, Int.reduceTMod, Int.reduceTDiv, f19]
              · rw [htk, List.all_append, hall]; simp [Rul.isIn, hi]
            · have hi' := hi
              rw [signs_eq] at hi'
              have e : Rul.nameB w = false := by
                rw [hw, Rul.nameB]
                have : w.all (Rul.isIn Rul.signs) = false := by
                  rw [Bool.eq_false_iff]
                  intro h
                  have := List.all_eq_true.1 h x (by rw [hx, List.getD_eq_getElem?_getD, List.getElem?_eq_getElem hlt]; exact List.getElem_mem hlt)
                  exact hi (by simpa [Rul.isIn] using this)
                rw [← hw, this]; simp
              simp (disch := omega) only [go_sem, reduceIte, reduceDIte, reduceCtorEq, Nat.reduceBEq, Nat.reduceEqDiff, Nat.reduceAdd, Nat.reduceSub, Nat.reduceMul, Nat.reduceLT, Nat.reduceLeDiff, Nat.reduceBNe, Int.reduceNeg, Int.reduceAdd, Int.reduceSub, Int.reduceMul, Int.reduceLT, Int.reduceLE, Int.reduceGT, Int.reduceGE, Int.reduceEq, Int.reduceNe, Int.reduceToNat, Int.reduceTMod, Int.reduceTDiv, hi', e]
          · have e : Rul.nameB w = true := by
              rw [List.take_of_length_le (by omega)] at hall
              have h1 : Rul.isIn Rul.letters c = true := by unfold Rul.isIn; exact decide_eq_true hc
              rw [hw, Rul.nameB, ← hw, hall, decide_eq_true (by omega), h1]; rfl
            simp (disch := omega) only [go_sem, reduceIte, reduceDIte, reduceCtorEq, Nat.reduceBEq, Nat.reduceEqDiff, Nat.reduceAdd, Nat.reduceSub, Nat.reduceMul, Nat.reduceLT, Nat.reduceLeDiff, Nat.reduceBNe, Int.reduceNeg, Int.reduceAdd, Int.reduceSub, Int.reduceMul, Int.reduceLT, Int.reduceLE, Int.reduceGT, Int.reduceGE, Int.reduceEq, Int.reduceNe, Int.reduceToNat, Int.reduceTMod, Int.reduceTDiv, f18, f19, hlt, e]
        · refine ⟨by omega, ?_, ?_, ?_, rfl⟩ <;> simp (disch := omega) only [go_sem, reduceIte, reduceDIte, reduceCtorEq, Nat.reduceBEq, Nat.reduceEqDiff, Nat.reduceAdd, Nat.reduceSub, Nat.reduceMul, Nat.reduceLT, Nat.reduceLeDiff, Nat.reduceBNe, Int.reduceNeg, Int.reduceAdd, Int.reduceSub, Int.reduceMul, Int.reduceLT, Int.reduceLE, Int.reduceGT, Int.reduceGE, Int.reduceEq, Int.reduceNe, Int.reduceToNat, Int.reduceTMod, Int.reduceTDiv]
      · have hc' := hc
        rw [letters_eq] at hc'
        have e : Rul.nameB (c :: s) = false := by
          have h1 : Rul.isIn Rul.letters c = false := by unfold Rul.isIn; exact decide_eq_false hc
          simp only [Rul.nameB, h1]; simp
        simp (disch := omega) only [go_sem, reduceIte, reduceDIte, reduceCtorEq, Nat.reduceBEq, Nat.reduceEqDiff, Nat.reduceAdd, Nat.reduceSub, Nat.reduceMul, Nat.reduceLT, Nat.reduceLeDiff, Nat.reduceBNe, Int.reduceNeg, Int.reduceAdd, Int.reduceSub, Int.reduceMul, Int.reduceLT, Int.reduceLE, Int.reduceGT, Int.reduceGE, Int.reduceEq, Int.reduceNe, Int.reduceToNat, Int.reduceTMod, Int.reduceTDiv, hc', e]
end Go.Proofs.YtefpcfooahogkaaDoor
/- Trees of patterns: which texts they match, and where these end. Plain: no program. -/
set_option linter.unusedVariables false
set_option linter.unusedSimpArgs false
namespace Pat

inductive Tree where
  | mk (kind : Int) (set : List (Int × Int)) (sub : List Tree) (min max : Int)
instance : Inhabited Tree := ⟨.mk 0 [] [] 0 0⟩

namespace Tree
def kind : Tree → Int | .mk k _ _ _ _ => k
def set : Tree → List (Int × Int) | .mk _ s _ _ _ => s
def sub : Tree → List Tree | .mk _ _ l _ _ => l
def min : Tree → Int | .mk _ _ _ a _ => a
def max : Tree → Int | .mk _ _ _ _ b => b
end Tree

mutual
theorem Tree.ind {p : Tree → Prop} (h : ∀ k s sub a b, (∀ x, x ∈ sub → p x) → p (.mk k s sub a b)) : ∀ n, p n
  | .mk k s sub a b => h k s sub a b (Tree.indL h sub)
theorem Tree.indL {p : Tree → Prop} (h : ∀ k s sub a b, (∀ x, x ∈ sub → p x) → p (.mk k s sub a b)) : ∀ (l : List Tree) (x : Tree), x ∈ l → p x
  | [], x, hx => by cases hx
  | y :: l, x, hx => by
    rcases List.mem_cons.1 hx with hx | hx
    · rw [hx]; exact Tree.ind h y
    · exact Tree.indL h l x hx
end

mutual
def Tree.nodes : Tree → Nat
  | .mk _ _ l _ _ => 1 + Tree.nodesL l
def Tree.nodesL : List Tree → Nat
  | [] => 0
  | x :: l => Tree.nodes x + Tree.nodesL l
end

/-- A number of copies, one after the other. -/
def Pow (L : List Int → Prop) : Nat → List Int → Prop
  | 0, w => w = []
  | n + 1, w => ∃ u v, w = u ++ v ∧ L u ∧ Pow L n v

def InSet (s : List (Int × Int)) (c : Int) : Prop := ∃ r, r ∈ s ∧ r.1 ≤ c ∧ c ≤ r.2

/-- Texts of one language, then of another. -/
def Cat (L M : List Int → Prop) : List Int → Prop := fun w => ∃ u v, w = u ++ v ∧ L u ∧ M v
def Eps : List Int → Prop := fun w => w = []

mutual
def Lang : Tree → List Int → Prop
  | .mk k s l a b, w =>
    if k = 1 then w = []
    else if k = 2 then ∃ c, w = [c] ∧ InSet s c
    else if k = 3 then LangJ l w
    else if k = 4 then LangC l w
    else if k = 5 then ∃ n : Nat, a ≤ (n : Int) ∧ (b < 0 ∨ (n : Int) ≤ b) ∧ LangP l n w
    else False
def LangJ : List Tree → List Int → Prop
  | [], w => w = []
  | x :: l, w => ∃ u v, w = u ++ v ∧ Lang x u ∧ LangJ l v
def LangC : List Tree → List Int → Prop
  | [], _ => False
  | x :: l, w => Lang x w ∨ LangC l w
def LangP : List Tree → Nat → List Int → Prop
  | [], _, _ => False
  | x :: _, n, w => Pow (fun u => Lang x u) n w
end

theorem cat_assoc (L M N : List Int → Prop) (w : List Int) : Cat (Cat L M) N w ↔ Cat L (Cat M N) w := by
  constructor
  · rintro ⟨_, v, rfl, ⟨a, b, rfl, h1, h2⟩, h3⟩; exact ⟨a, b ++ v, by simp, h1, b, v, rfl, h2, h3⟩
  · rintro ⟨a, _, rfl, h1, b, v, rfl, h2, h3⟩; exact ⟨a ++ b, v, by simp, ⟨a, b, rfl, h1, h2⟩, h3⟩
theorem cat_eps (L : List Int → Prop) (w : List Int) : Cat L Eps w ↔ L w := by
  constructor
  · rintro ⟨u, v, rfl, h1, rfl⟩; simpa using h1
  · intro h; exact ⟨w, [], by simp, h, rfl⟩
theorem eps_cat (L : List Int → Prop) (w : List Int) : Cat Eps L w ↔ L w := by
  constructor
  · rintro ⟨u, v, rfl, rfl, h1⟩; simpa using h1
  · intro h; exact ⟨[], w, by simp, rfl, h⟩
theorem cat_congr {L L' M M' : List Int → Prop} (h : ∀ w, L w ↔ L' w) (k : ∀ w, M w ↔ M' w) (w : List Int) : Cat L M w ↔ Cat L' M' w := by
  constructor
  · rintro ⟨u, v, rfl, h1, h2⟩; exact ⟨u, v, rfl, (h _).1 h1, (k _).1 h2⟩
  · rintro ⟨u, v, rfl, h1, h2⟩; exact ⟨u, v, rfl, (h _).2 h1, (k _).2 h2⟩

theorem pow_succ (L : List Int → Prop) (n : Nat) (w : List Int) : Pow L (n + 1) w ↔ Cat L (Pow L n) w := Iff.rfl
theorem pow_zero (L : List Int → Prop) (w : List Int) : Pow L 0 w ↔ Eps w := Iff.rfl
theorem pow_snoc (L : List Int → Prop) : ∀ (n : Nat) (w : List Int), Pow L (n + 1) w ↔ Cat (Pow L n) L w
  | 0, w => by
    rw [pow_succ]
    exact (cat_congr (fun _ => Iff.rfl) (fun _ => pow_zero L _) w).trans ((cat_eps L w).trans ((eps_cat L w).symm.trans (cat_congr (fun _ => (pow_zero L _).symm) (fun _ => Iff.rfl) w)))
  | n + 1, w => by
    rw [pow_succ]
    exact (cat_congr (fun _ => Iff.rfl) (fun _ => pow_snoc L n _) w).trans ((cat_assoc _ _ _ w).symm.trans (cat_congr (fun _ => (pow_succ L n _).symm) (fun _ => Iff.rfl) w))
theorem pow_add (L : List Int → Prop) (m : Nat) : ∀ (n : Nat) (w : List Int), Pow L (m + n) w ↔ Cat (Pow L m) (Pow L n) w
  | 0, w => ((cat_congr (fun _ => Iff.rfl) (fun _ => pow_zero L _) w).trans (cat_eps _ w)).symm
  | n + 1, w => by
    have := pow_snoc L (m + n) w
    rw [show m + (n + 1) = m + n + 1 by omega, this]
    exact (cat_congr (pow_add L m n) (fun _ => Iff.rfl) w).trans ((cat_assoc _ _ _ w).trans (cat_congr (fun _ => Iff.rfl) (fun _ => (pow_snoc L n _).symm) w))

theorem langJ_nil (w : List Int) : LangJ [] w ↔ Eps w := by simp only [LangJ, Eps]
theorem langJ_cons (x : Tree) (l : List Tree) (w : List Int) : LangJ (x :: l) w ↔ Cat (Lang x) (LangJ l) w := by simp only [LangJ, Cat]
theorem langJ_append (l : List Tree) : ∀ (m : List Tree) (w : List Int), LangJ (l ++ m) w ↔ Cat (LangJ l) (LangJ m) w := by
  induction l with
  | nil => intro m w; exact ((cat_congr langJ_nil (fun _ => Iff.rfl) w).trans (eps_cat _ w)).symm
  | cons x l ih =>
    intro m w
    rw [List.cons_append, langJ_cons]
    exact (cat_congr (fun _ => Iff.rfl) (ih m) w).trans ((cat_assoc _ _ _ w).symm.trans (cat_congr (fun _ => (langJ_cons x l _).symm) (fun _ => Iff.rfl) w))
theorem langC_iff (l : List Tree) (w : List Int) : LangC l w ↔ ∃ x, x ∈ l ∧ Lang x w := by
  induction l with
  | nil => simp [LangC]
  | cons x l ih => simp [LangC, ih]

/- places in a text -/

/-- The part of a text between two places. -/
def part (t : List Int) (i j : Nat) : List Int := (t.take j).drop i

/-- Where texts of a language can end that begin at some places. -/
def Post (t : List Int) (L : List Int → Prop) (p : Nat → Prop) : Nat → Prop := fun j => ∃ i, p i ∧ i ≤ j ∧ j ≤ t.length ∧ L (part t i j)

open Classical in
/-- Places as the program has them. -/
noncomputable def places (t : List Int) (p : Nat → Prop) : List Bool := (List.range (t.length + 1)).map fun j => decide (p j)

theorem places_length (t : List Int) (p : Nat → Prop) : (places t p).length = t.length + 1 := by simp [places]
theorem places_get {t : List Int} {p : Nat → Prop} {j : Nat} (h : j ≤ t.length) : ((places t p).getD j false = true) ↔ p j := by
  have h' : j < t.length + 1 := by omega
  simp [places, List.getD_eq_getElem?_getD, h']
theorem places_congr {t : List Int} {p q : Nat → Prop} (h : ∀ j, j ≤ t.length → (p j ↔ q j)) : places t p = places t q := by
  unfold places
  refine List.map_congr_left fun j hj => ?_
  rw [List.mem_range] at hj
  exact decide_eq_decide.2 (h j (by omega))
theorem places_of {t : List Int} {b : List Bool} (h : b.length = t.length + 1) : b = places t fun j => b.getD j false = true := by
  refine List.ext_getElem (by rw [places_length, h]) fun j h1 h2 => ?_
  simp [places, List.getD_eq_getElem?_getD, h1]

theorem part_split (t : List Int) {i k j : Nat} (h : i ≤ k) (h' : k ≤ j) (hj : j ≤ t.length) : part t i j = part t i k ++ part t k j := by
  unfold part
  have e1 : ((t.take j).drop i).take (k - i) = (t.take k).drop i := by
    rw [List.drop_take, List.take_take, List.drop_take, Nat.min_eq_left (by omega)]
  have e2 : ((t.take j).drop i).drop (k - i) = (t.take j).drop k := by
    rw [List.drop_drop, show i + (k - i) = k by omega]
  rw [← e1, ← e2, List.take_append_drop]
theorem part_length (t : List Int) {i j : Nat} (h : j ≤ t.length) : (part t i j).length = j - i := by simp [part]; omega

/-- Reading one language and then another is reading both. -/
theorem post_cat (t : List Int) (L M : List Int → Prop) (p : Nat → Prop) {j : Nat} (hj : j ≤ t.length) : Post t M (Post t L p) j ↔ Post t (Cat L M) p j := by
  constructor
  · rintro ⟨k, ⟨i, hp, h1, h2, h3⟩, h4, h5, h6⟩
    exact ⟨i, hp, Nat.le_trans h1 h4, h5, part t i k, part t k j, part_split t h1 h4 h5, h3, h6⟩
  · rintro ⟨i, hp, h1, h2, u, v, he, hu, hv⟩
    have hl := part_length t (i := i) h2
    rw [he, List.length_append] at hl
    have hk : i + u.length ≤ j := by omega
    have hs := part_split t (Nat.le_add_right i u.length) hk h2
    have hu' : (part t i (i + u.length)).length = u.length := by rw [part_length t (by omega)]; omega
    rw [hs] at he
    obtain ⟨e1, e2⟩ := List.append_inj he hu'
    exact ⟨i + u.length, ⟨i, hp, Nat.le_add_right _ _, by omega, by rw [e1]; exact hu⟩, hk, h2, by rw [e2]; exact hv⟩
theorem post_eps (t : List Int) (p : Nat → Prop) {j : Nat} (hj : j ≤ t.length) : Post t Eps p j ↔ p j := by
  constructor
  · rintro ⟨i, hp, h1, h2, h3⟩
    have hl := part_length t (i := i) h2
    rw [show part t i j = [] from h3] at hl
    simp at hl
    obtain rfl : i = j := by omega
    exact hp
  · intro hp; exact ⟨j, hp, Nat.le_refl _, hj, by simp only [Eps, part]; exact List.drop_of_length_le (by simp; omega)⟩
theorem post_congr {t : List Int} {L M : List Int → Prop} (h : ∀ w, L w ↔ M w) (p : Nat → Prop) (j : Nat) : Post t L p j ↔ Post t M p j := by
  constructor <;> rintro ⟨i, hp, h1, h2, h3⟩
  · exact ⟨i, hp, h1, h2, (h _).1 h3⟩
  · exact ⟨i, hp, h1, h2, (h _).2 h3⟩
theorem post_mono {t : List Int} {L : List Int → Prop} {p q : Nat → Prop} (h : ∀ i, i ≤ t.length → p i → q i) {j : Nat} (hj : Post t L p j) : Post t L q j := by
  obtain ⟨i, hp, h1, h2, h3⟩ := hj
  exact ⟨i, h i (by omega) hp, h1, h2, h3⟩
theorem post_le {t : List Int} {L : List Int → Prop} {p : Nat → Prop} {j : Nat} (h : Post t L p j) : j ≤ t.length := let ⟨_, _, _, h, _⟩ := h; h

theorem part_one (t : List Int) {i : Nat} (hi : i < t.length) : part t i (i + 1) = [t.getD i 0] := by
  have e : t.drop i = t.getD i 0 :: t.drop (i + 1) := by
    rw [List.drop_eq_getElem_cons hi, List.getD_eq_getElem?_getD, List.getElem?_eq_getElem hi]; rfl
  unfold part
  rw [List.drop_take, show i + 1 - i = 1 by omega, e]
  rfl

/-- A set: one character further. -/
theorem post_set (t : List Int) (s : List (Int × Int)) (p : Nat → Prop) (j : Nat) :
    Post t (fun w => ∃ c, w = [c] ∧ InSet s c) p j ↔ ∃ i, j = i + 1 ∧ i < t.length ∧ p i ∧ InSet s (t.getD i 0) := by
  constructor
  · rintro ⟨i, hp, h1, h2, c, hc, hs⟩
    have hl := part_length t (i := i) h2
    rw [hc] at hl
    simp at hl
    have hj : j = i + 1 := by omega
    subst hj
    refine ⟨i, rfl, by omega, hp, ?_⟩
    have : part t i (i + 1) = [t.getD i 0] := by
      have hi : i < t.length := by omega
      exact part_one t hi
    rw [this] at hc
    cases hc; exact hs
  · rintro ⟨i, rfl, hi, hp, hs⟩
    refine ⟨i, hp, by omega, by omega, t.getD i 0, ?_, hs⟩
    exact part_one t hi

/-- Copies from a number to another. -/
def Upto (L : List Int → Prop) (a k : Nat) : List Int → Prop := fun w => ∃ n, a ≤ n ∧ n ≤ k ∧ Pow L n w
def From (L : List Int → Prop) (a : Nat) : List Int → Prop := fun w => ∃ n, a ≤ n ∧ Pow L n w

/-- Where one copy more finds nothing new, no number of copies does. -/
theorem upto_stable (t : List Int) (L : List Int → Prop) (p : Nat → Prop) (a k : Nat) (hak : a ≤ k) (h : ∀ j, Post t (Pow L (k + 1)) p j → Post t (Upto L a k) p j) :
    ∀ n, k ≤ n → ∀ j, Post t (Upto L a n) p j → Post t (Upto L a k) p j := by
  have step : ∀ n, k < n → ∀ j, Post t (Pow L n) p j → Post t (Upto L a k) p j := by
    intro n hn
    induction n with
    | zero => omega
    | succ n ih =>
      intro j hj
      rcases Nat.lt_or_ge k n with hk | hk
      · have hjl := post_le hj
        have h1 : Post t L (Post t (Pow L n) p) j := (post_cat t _ _ p hjl).2 ((post_congr (fun w => pow_snoc L n w) p j).1 hj)
        have h2 : Post t L (Post t (Upto L a k) p) j := post_mono (fun i _ hi => ih hk i hi) h1
        have h3 := (post_cat t _ _ p hjl).1 h2
        obtain ⟨i, hp, i1, i2, u, v, he, ⟨m, m1, m2, hu⟩, hv⟩ := h3
        have h4 : Pow L (m + 1) (part t i j) := (pow_snoc L m _).2 ⟨u, v, he, hu, hv⟩
        rcases Nat.lt_or_ge m k with hm | hm
        · exact ⟨i, hp, i1, i2, m + 1, by omega, by omega, h4⟩
        · obtain rfl : m = k := by omega
          exact h j ⟨i, hp, i1, i2, h4⟩
      · obtain rfl : n = k := by omega
        exact h j hj
  intro n hn j hj
  obtain ⟨i, hp, i1, i2, m, m1, m2, hm⟩ := hj
  rcases Nat.lt_or_ge k m with hk | hk
  · exact step m hk j ⟨i, hp, i1, i2, hm⟩
  · exact ⟨i, hp, i1, i2, m, m1, hk, hm⟩
end Pat
set_option linter.unusedVariables false
set_option linter.unusedSimpArgs false
set_option maxRecDepth 100000
namespace Go.Proofs.YtefpcfooahogkaaDoor
open Go Nv Pat

def rgD (r : Int × Int) : DV := .agg [.int .i32 r.1, .int .i32 r.2]
def setD (s : List (Int × Int)) : DV := .list 2 (s.map rgD)
@[go_sem] theorem one_setD (s : List (Int × Int)) : (AV.d (setD s)).one = true := nrfl rfl
mutual
def nodeD : Tree → DV
  | .mk k s l a b => .agg [.int .i64 k, setD s, .list 5 (nodesD l), .int .i64 a, .int .i64 b]
def nodesD : List Tree → List DV
  | [] => []
  | x :: l => nodeD x :: nodesD l
end
theorem nodesD_map : ∀ l : List Tree, nodesD l = l.map nodeD
  | [] => rfl
  | x :: l => by rw [nodesD, nodesD_map l]; rfl
def nodeC (n : Tree) : List DV := [.int .i64 n.kind, setD n.set, .list 5 (n.sub.map nodeD), .int .i64 n.min, .int .i64 n.max]
theorem nodeD_eq : ∀ n : Tree, nodeD n = .agg (nodeC n)
  | .mk k s l a b => by simp only [nodeD, nodeC, nodesD_map, Tree.kind, Tree.set, Tree.sub, Tree.min, Tree.max]
def nodeF (n : Tree) : List AV := [.d (.int .i64 n.kind), .d (setD n.set), .d (.list 5 (n.sub.map nodeD)), .d (.int .i64 n.min), .d (.int .i64 n.max)]
def nodeA (n : Tree) : AV := .agg (nodeF n)

theorem nodesL_append : ∀ l m : List Tree, Tree.nodesL (l ++ m) = Tree.nodesL l + Tree.nodesL m
  | [], m => by simp [Tree.nodesL]
  | x :: l, m => by simp only [List.cons_append, Tree.nodesL, nodesL_append l m]; omega
theorem take_succ' {α : Type} [Inhabited α] (l : List α) (k : Nat) (h : k < l.length) : l.take (k + 1) = l.take k ++ [l.getD k default] := by
  rw [List.take_succ_eq_append_getElem h]; simp [List.getD_eq_getElem?_getD, h]
theorem getD_mem {α : Type} [Inhabited α] (l : List α) (k : Nat) (h : k < l.length) : l.getD k default ∈ l := by
  rw [List.getD_eq_getElem?_getD, List.getElem?_eq_getElem h]; exact List.getElem_mem _
theorem nodesL_take (l : List Tree) (k : Nat) : Tree.nodesL (l.take k) ≤ Tree.nodesL l := by
  have := nodesL_append (l.take k) (l.drop k)
  rw [List.take_append_drop] at this
  omega
theorem length_nodesL : ∀ l : List Tree, l.length ≤ Tree.nodesL l
  | [] => Nat.le_refl _
  | x :: l => by
    have := length_nodesL l
    have h1 : 1 ≤ x.nodes := by cases x; simp only [Tree.nodes]; omega
    simp only [List.length_cons, Tree.nodesL]; omega
theorem nodes_mem : ∀ (l : List Tree) (x : Tree), x ∈ l → x.nodes ≤ Tree.nodesL l
  | y :: l, x, h => by
    rcases List.mem_cons.1 h with h | h
    · rw [h, Tree.nodesL]; omega
    · have := nodes_mem l x h
      rw [Tree.nodesL]; omega
theorem nodes_eq : ∀ n : Tree, n.nodes = 1 + Tree.nodesL n.sub
  | .mk k s l a b => by simp only [Tree.nodes, Tree.sub]
theorem nodes_pos (n : Tree) : 1 ≤ n.nodes := by rw [nodes_eq]; omega

/-- The number of nodes, as long as it is not greater than a limit. -/
def cnt (n : Tree) (lim : Nat) : Nat := min n.nodes (lim + 1)

theorem count25 : ∀ (n : Tree) (lim : Nat), lim ≤ 1000000 → PCall Tryd.prog 44 [nodeA n, .d (.int .i64 lim)] (.d (.int .i64 (cnt n lim))) := by
  intro n
  induction n using Tree.ind with
  | h k s sub a b ih =>
    intro lim hlim
    refine fn44.pure noHint (Nat.le_refl _) (by simp only [go_sem, nodeA, nodeF, setD]) (by simp only [go_sem]) ?_
    simp (disch := omega) only [go_sem, reduceIte, reduceDIte, reduceCtorEq, Nat.reduceBEq, Nat.reduceEqDiff, Nat.reduceAdd, Nat.reduceSub, Nat.reduceMul, Nat.reduceLT, Nat.reduceLeDiff, Nat.reduceBNe, Int.reduceNeg, Int.reduceAdd, Int.reduceSub, Int.reduceMul, Int.reduceLT, Int.reduceLE, Int.reduceGT, Int.reduceGE, Int.reduceEq, Int.reduceNe, Int.reduceToNat, Int.reduceTMod, Int.reduceTDiv, nodeA, nodeF, Tree.kind, Tree.set, Tree.sub, Tree.min, Tree.max, setD]
    have hn : (Tree.mk k s sub a b).nodes = 1 + Tree.nodesL sub := nodes_eq _
    refine wL_ind (fun (j : Nat) fr σ => j ≤ sub.length ∧ fr 1 = .d (.int .i64 lim) ∧ fr 5 = .d (.int .i64 (min (1 + Tree.nodesL (sub.take j)) (lim + 1) : Nat)) ∧ fr 9 = .d (.list 5 (sub.map nodeD)) ∧ fr 10 = .d (.int .i64 sub.length) ∧ fr 11 = .d (.int .i64 j)) (fun j => sub.length - j) ?_ 0 ?_
    · rintro j fr σ ⟨hj, f1, f5, f9, f10, f11⟩ ih2
      obtain ⟨o, ho⟩ : ∃ o, o = min (1 + Tree.nodesL (sub.take j)) (lim + 1) := ⟨_, rfl⟩
      rw [← ho] at f5
      have h1 := nodesL_take sub j
      by_cases hlt : j < sub.length
      · by_cases hgt : lim < o
        · have hgt' : (lim : Int) < o := by omega
          have e : cnt (.mk k s sub a b) lim = o := by rw [cnt, hn]; omega
          simp (disch := omega) only [go_sem, reduceIte, reduceDIte, reduceCtorEq, Nat.reduceBEq, Nat.reduceEqDiff, Nat.reduceAdd, Nat.reduceSub, Nat.reduceMul, Nat.reduceLT, Nat.reduceLeDiff, Nat.reduceBNe, Int.reduceNeg, Int.reduceAdd, Int.reduceSub, Int.reduceMul, Int.reduceLT, Int.reduceLE, Int.reduceGT, Int.reduceGE, Int.reduceEq, Int.reduceNe, Int.reduceToNat, Int.reduceTMod, Int.reduceTDiv, f1, f5, f9, f10, f11, hlt, nodeD_eq, nodeC, hgt', e]
        · have hgt' : ¬ (lim : Int) < o := by omega
          obtain ⟨x, hx⟩ : ∃ x, x = sub.getD j default := ⟨_, rfl⟩
          have hxm : x ∈ sub := by rw [hx]; exact getD_mem sub j hlt
          have e1 : (lim : Int) - o = ((lim - o : Nat) : Int) := by omega
          simp (disch := omega) only [go_sem, reduceIte, reduceDIte, reduceCtorEq, Nat.reduceBEq, Nat.reduceEqDiff, Nat.reduceAdd, Nat.reduceSub, Nat.reduceMul, Nat.reduceLT, Nat.reduceLeDiff, Nat.reduceBNe, Int.reduceNeg, Int.reduceAdd, Int.reduceSub, Int.reduceMul, Int.reduceLT, Int.reduceLE, Int.reduceGT, Int.reduceGE, Int.reduceEq, Int.reduceNe, Int.reduceToNat, Int.reduceTMod, Int.reduceTDiv, f1, f5, f9, f10, f11, hlt, nodeD_eq, nodeC, hgt', ← hx, e1]
          refine (ih x hxm (lim - o) (by omega)).at ?_
          have hjl := length_nodesL (sub.take j)
          rw [List.length_take] at hjl
          have hc : cnt x (lim - o) ≤ lim - o + 1 := by rw [cnt]; omega
          have e2 : (o : Int) + cnt x (lim - o) = ((o + cnt x (lim - o) : Nat) : Int) := by omega
          have hj2 : j + 1 ≤ 1000001 := by omega
          clear hjl
          simp (disch := omega) only [go_sem, reduceIte, reduceDIte, reduceCtorEq, Nat.reduceBEq, Nat.reduceEqDiff, Nat.reduceAdd, Nat.reduceSub, Nat.reduceMul, Nat.reduceLT, Nat.reduceLeDiff, Nat.reduceBNe, Int.reduceNeg, Int.reduceAdd, Int.reduceSub, Int.reduceMul, Int.reduceLT, Int.reduceLE, Int.reduceGT, Int.reduceGE, Int.reduceEq, Int.reduceNe, Int.reduceToNat, Int.reduceTMod, Int.reduceTDiv, f5, f11, e2]
          refine ih2 (j + 1) _ _ (by omega) ⟨by omega, ?_, ?_, ?_, ?_, ?_⟩
          · simp (disch := omega) only [go_sem, reduceIte, reduceDIte, reduceCtorEq, Nat.reduceBEq, Nat.reduceEqDiff, Nat.reduceAdd, Nat.reduceSub, Nat.reduceMul, Nat.reduceLT, Nat.reduceLeDiff, Nat.reduceBNe, Int.reduceNeg, Int.reduceAdd, Int.reduceSub, Int.reduceMul, Int.reduceLT, Int.reduceLE, Int.reduceGT, Int.reduceGE, Int.reduceEq, Int.reduceNe, Int.reduceToNat, Int.reduceTMod, Int.reduceTDiv, f1]
          · rw [take_succ' sub j hlt, nodesL_append, ← hx]
            have e3 : min (1 + (Tree.nodesL (sub.take j) + Tree.nodesL [x])) (lim + 1) = o + cnt x (lim - o) := by simp only [Tree.nodesL, cnt]; omega
            rw [e3]; simp (disch := omega) only [go_sem, reduceIte, reduceDIte, reduceCtorEq, Nat.reduceBEq, Nat.reduceEqDiff, Nat.reduceAdd, Nat.reduceSub, Nat.reduceMul, Nat.reduceLT, Nat.reduceLeDiff, Nat.reduceBNe, Int.reduceNeg, Int.reduceAdd, Int.reduceSub, Int.reduceMul, Int.reduceLT, Int.reduceLE, Int.reduceGT, Int.reduceGE, Int.reduceEq, Int.reduceNe, Int.reduceToNat, Int.reduceTMod, Int.reduceTDiv]
          · simp (disch := omega) only [go_sem, reduceIte, reduceDIte, reduceCtorEq, Nat.reduceBEq, Nat.reduceEqDiff, Nat.reduceAdd, Nat.reduceSub, Nat.reduceMul, Nat.reduceLT, Nat.reduceLeDiff, Nat.reduceBNe, Int.reduceNeg, Int.reduceAdd, Int.reduceSub, Int.reduceMul, Int.reduceLT, Int.reduceLE, Int.reduceGT, Int.reduceGE, Int.reduceEq, Int.reduceNe, Int.reduceToNat, Int.reduceTMod, Int.reduceTDiv, f9]
          · simp (disch := omega) only [go_sem, reduceIte, reduceDIte, reduceCtorEq, Nat.reduceBEq, Nat.reduceEqDiff, Nat.reduceAdd, Nat.reduceSub, Nat.reduceMul, Nat.reduceLT, Nat.reduceLeDiff, Nat.reduceBNe, Int.reduceNeg, Int.reduceAdd, Int.reduceSub, Int.reduceMul, Int.reduceLT, Int.reduceLE, Int.reduceGT, Int.reduceGE, Int.reduceEq, Int.reduceNe, Int.reduceToNat, Int.reduceTMod, Int.reduceTDiv, f10]
          · simp (disch := omega) only [go_sem, reduceIte, reduceDIte, reduceCtorEq, Nat.reduceBEq, Nat.reduceEqDiff, Nat.reduceAdd, Nat.reduceSub, Nat.reduceMul, Nat.reduceLT, Nat.reduceLeDiff, Nat.reduceBNe, Int.reduceNeg, Int.reduceAdd, Int.reduceSub, Int.reduceMul, Int.reduceLT, Int.reduceLE, Int.reduceGT, Int.reduceGE, Int.reduceEq, Int.reduceNe, Int.reduceToNat, Int.reduceTMod, Int.reduceTDiv]
      · have e : cnt (.mk k s sub a b) lim = o := by rw [cnt, hn, ho, List.take_of_length_le (by omega)]
        simp (disch := omega) only [go_sem, reduceIte, reduceDIte, reduceCtorEq, Nat.reduceBEq, Nat.reduceEqDiff, Nat.reduceAdd, Nat.reduceSub, Nat.reduceMul, Nat.reduceLT, Nat.reduceLeDiff, Nat.reduceBNe, Int.reduceNeg, Int.reduceAdd, Int.reduceSub, Int.reduceMul, Int.reduceLT, Int.reduceLE, Int.reduceGT, Int.reduceGE, Int.reduceEq, Int.reduceNe, Int.reduceToNat, Int.reduceTMod, Int.reduceTDiv, f1, f5, f9, f10, f11, hlt, e]
    · refine ⟨by omega, ?_, ?_, ?_, ?_, ?_⟩
      all_goals simp (disch := omega) only [go_sem, reduceIte, reduceDIte, reduceCtorEq, Nat.reduceBEq, Nat.reduceEqDiff, Nat.reduceAdd, Nat.reduceSub, Nat.reduceMul, Nat.reduceLT, Nat.reduceLeDiff, Nat.reduceBNe, Int.reduceNeg, Int.reduceAdd, Int.reduceSub, Int.reduceMul, Int.reduceLT, Int.reduceLE, Int.reduceGT, Int.reduceGE, Int.reduceEq, Int.reduceNe, Int.reduceToNat, Int.reduceTMod, Int.reduceTDiv]
      have : min (1 + Tree.nodesL []) (lim + 1) = 1 := by simp only [Tree.nodesL]; omega
      rw [this]; rfl
end Go.Proofs.YtefpcfooahogkaaDoor
set_option linter.unusedVariables false
set_option linter.unusedSimpArgs false
set_option maxRecDepth 100000
namespace Go.Proofs.YtefpcfooahogkaaDoor
open Go Nv Pat

def charB (r : Int) : Bool := (decide (0 ≤ r) && decide (r ≤ 55295)) || (decide (57344 ≤ r) && decide (r ≤ 1114111))
theorem charB_iff (r : Int) : charB r = true ↔ (0 ≤ r ∧ r ≤ 55295) ∨ (57344 ≤ r ∧ r ≤ 1114111) := by simp [charB]

theorem char66 (r : Int) : PCall Tryd.prog 70 [.d (.int .i32 r)] (.d (.bool (charB r))) := by
  refine fn70.pure noHint (Nat.le_refl _) (by simp only [go_sem]) (by simp only [go_sem]) ?_
  simp (disch := omega) only [go_sem, reduceIte, reduceDIte, reduceCtorEq, Nat.reduceBEq, Nat.reduceEqDiff, Nat.reduceAdd, Nat.reduceSub, Nat.reduceMul, Nat.reduceLT, Nat.reduceLeDiff, Nat.reduceBNe, Int.reduceNeg, Int.reduceAdd, Int.reduceSub, Int.reduceMul, Int.reduceLT, Int.reduceLE, Int.reduceGT, Int.reduceGE, Int.reduceEq, Int.reduceNe, Int.reduceToNat, Int.reduceTMod, Int.reduceTDiv]
  by_cases h1 : 0 ≤ r
  · by_cases h2 : r ≤ 55295
    · simp (disch := omega) only [go_sem, reduceIte, reduceDIte, reduceCtorEq, Nat.reduceBEq, Nat.reduceEqDiff, Nat.reduceAdd, Nat.reduceSub, Nat.reduceMul, Nat.reduceLT, Nat.reduceLeDiff, Nat.reduceBNe, Int.reduceNeg, Int.reduceAdd, Int.reduceSub, Int.reduceMul, Int.reduceLT, Int.reduceLE, Int.reduceGT, Int.reduceGE, Int.reduceEq, Int.reduceNe, Int.reduceToNat, Int.reduceTMod, Int.reduceTDiv, h1, h2, charB]
    · by_cases h3 : 57344 ≤ r
      · simp (disch := omega) only [go_sem, reduceIte, reduceDIte, reduceCtorEq, Nat.reduceBEq, Nat.reduceEqDiff, Nat.reduceAdd, Nat.reduceSub, Nat.reduceMul, Nat.reduceLT, Nat.reduceLeDiff, Nat.reduceBNe, Int.reduceNeg, Int.reduceAdd, Int.reduceSub, Int.reduceMul, Int.reduceLT, Int.reduceLE, Int.reduceGT, Int.reduceGE, Int.reduceEq, Int.reduceNe, Int.reduceToNat, Int.reduceTMod, Int.reduceTDiv, h1, h2, h3, charB]
      · simp (disch := omega) only [go_sem, reduceIte, reduceDIte, reduceCtorEq, Nat.reduceBEq, Nat.reduceEqDiff, Nat.reduceAdd, Nat.reduceSub, Nat.reduceMul, Nat.reduceLT, Nat.reduceLeDiff, Nat.reduceBNe, Int.reduceNeg, Int.reduceAdd, Int.reduceSub, Int.reduceMul, Int.reduceLT, Int.reduceLE, Int.reduceGT, Int.reduceGE, Int.reduceEq, Int.reduceNe, Int.reduceToNat, Int.reduceTMod, Int.reduceTDiv, h1, h2, h3, charB]
  · by_cases h3 : 57344 ≤ r
    · omega
    · simp (disch := omega) only [go_sem, reduceIte, reduceDIte, reduceCtorEq, Nat.reduceBEq, Nat.reduceEqDiff, Nat.reduceAdd, Nat.reduceSub, Nat.reduceMul, Nat.reduceLT, Nat.reduceLeDiff, Nat.reduceBNe, Int.reduceNeg, Int.reduceAdd, Int.reduceSub, Int.reduceMul, Int.reduceLT, Int.reduceLE, Int.reduceGT, Int.reduceGE, Int.reduceEq, Int.reduceNe, Int.reduceToNat, Int.reduceTMod, Int.reduceTDiv, h1, h3, charB]

def rgB (r : Int × Int) : Bool := charB r.1 && charB r.2 && decide (r.1 ≤ r.2) && (decide (r.1 < 55296) == decide (r.2 < 55296))
def properFrom : Option Int → List (Int × Int) → Bool
  | _, [] => true
  | none, r :: l => rgB r && properFrom (some r.2) l
  | some q, r :: l => rgB r && decide (2 ≤ r.1 - q) && properFrom (some r.2) l
def properB (s : List (Int × Int)) : Bool := properFrom none s
def prevOf (s : List (Int × Int)) (k : Nat) : Option Int := if k = 0 then none else some (s.getD (k - 1) default).2

theorem proper43 (s : List (Int × Int)) (hs : s.length ≤ 1000000) : PCall Tryd.prog 60 [.d (setD s)] (.d (.bool (properB s))) := by
  refine fn60.pure noHint (Nat.le_refl _) (by simp only [go_sem, setD]) (by simp only [go_sem]) ?_
  simp (disch := omega) only [go_sem, reduceIte, reduceDIte, reduceCtorEq, Nat.reduceBEq, Nat.reduceEqDiff, Nat.reduceAdd, Nat.reduceSub, Nat.reduceMul, Nat.reduceLT, Nat.reduceLeDiff, Nat.reduceBNe, Int.reduceNeg, Int.reduceAdd, Int.reduceSub, Int.reduceMul, Int.reduceLT, Int.reduceLE, Int.reduceGT, Int.reduceGE, Int.reduceEq, Int.reduceNe, Int.reduceToNat, Int.reduceTMod, Int.reduceTDiv, setD]
  refine wL_ind (fun (k : Nat) fr σ => k ≤ s.length ∧ fr 0 = .d (.list 2 (s.map rgD)) ∧ fr 5 = .d (.list 2 (s.map rgD)) ∧ fr 6 = .d (.int .i64 s.length) ∧ fr 7 = .d (.int .i64 k) ∧
    properFrom (prevOf s k) (s.drop k) = properB s ∧ (0 < k → 0 ≤ (s.getD (k - 1) default).2 ∧ (s.getD (k - 1) default).2 ≤ 1114111)) (fun k => s.length - k) ?_ 0 ?_
  · rintro k fr σ ⟨hk, f0, f5, f6, f7, hp, hq⟩ ih
    by_cases hlt : k < s.length
    · obtain ⟨r, hr⟩ : ∃ r, r = s.getD k default := ⟨_, rfl⟩
      have hd : s.drop k = r :: s.drop (k + 1) := by rw [hr]; exact drop_getD s k hlt
      rw [hd] at hp
      have bad : rgB r = false → properB s = false := fun h => by
        rw [← hp]; cases prevOf s k <;> simp only [properFrom, h, Bool.false_and]
      simp (disch := omega) only [go_sem, reduceIte, reduceDIte, reduceCtorEq, Nat.reduceBEq, Nat.reduceEqDiff, Nat.reduceAdd, Nat.reduceSub, Nat.reduceMul, Nat.reduceLT, Nat.reduceLeDiff, Nat.reduceBNe, Int.reduceNeg, Int.reduceAdd, Int.reduceSub, Int.reduceMul, Int.reduceLT, Int.reduceLE, Int.reduceGT, Int.reduceGE, Int.reduceEq, Int.reduceNe, Int.reduceToNat, Int.reduceTMod, Int.reduceTDiv, f0, f5, f6, f7, hlt, rgD, ← hr]
      refine (char66 r.1).at ?_
      by_cases c1 : charB r.1 = true
      · simp (disch := omega) only [go_sem, reduceIte, reduceDIte, reduceCtorEq, Nat.reduceBEq, Nat.reduceEqDiff, Nat.reduceAdd, Nat.reduceSub, Nat.reduceMul, Nat.reduceLT, Nat.reduceLeDiff, Nat.reduceBNe, Int.reduceNeg, Int.reduceAdd, Int.reduceSub, Int.reduceMul, Int.reduceLT, Int.reduceLE, Int.reduceGT, Int.reduceGE, Int.reduceEq, Int.reduceNe, Int.reduceToNat, Int.reduceTMod, Int.reduceTDiv, c1]
        refine (char66 r.2).at ?_
        by_cases c2 : charB r.2 = true
        · simp (disch := omega) only [go_sem, reduceIte, reduceDIte, reduceCtorEq, Nat.reduceBEq, Nat.reduceEqDiff, Nat.reduceAdd, Nat.reduceSub, Nat.reduceMul, Nat.reduceLT, Nat.reduceLeDiff, Nat.reduceBNe, Int.reduceNeg, Int.reduceAdd, Int.reduceSub, Int.reduceMul, Int.reduceLT, Int.reduceLE, Int.reduceGT, Int.reduceGE, Int.reduceEq, Int.reduceNe, Int.reduceToNat, Int.reduceTMod, Int.reduceTDiv, c2]
          by_cases c3 : r.2 < r.1
          · have e := bad (by simp only [rgB, Bool.and_eq_false_iff, decide_eq_false_iff_not]; exact .inl (.inr (by omega)))
            simp (disch := omega) only [go_sem, reduceIte, reduceDIte, reduceCtorEq, Nat.reduceBEq, Nat.reduceEqDiff, Nat.reduceAdd, Nat.reduceSub, Nat.reduceMul, Nat.reduceLT, Nat.reduceLeDiff, Nat.reduceBNe, Int.reduceNeg, Int.reduceAdd, Int.reduceSub, Int.reduceMul, Int.reduceLT, Int.reduceLE, Int.reduceGT, Int.reduceGE, Int.reduceEq, Int.reduceNe, Int.reduceToNat, Int.reduceTMod, Int.reduceTDiv, c3, e]
          · by_cases c4 : decide (r.1 < 55296) = decide (r.2 < 55296)
            · have hg : rgB r = true := by simp only [rgB, c1, c2, c4, Bool.true_and, beq_self_eq_true, Bool.and_true, decide_eq_true_eq]; omega
              have hr1 := (charB_iff r.1).1 c1
              have hr2 := (charB_iff r.2).1 c2
              have prev : prevOf s (k + 1) = some r.2 := by simp [prevOf, hr]
              have prev' : (s.getD (k + 1 - 1) default).2 = r.2 := by rw [hr]; rfl
              by_cases hk0 : k = 0
              · subst hk0
                have hp' : properFrom (some r.2) (s.drop (0 + 1)) = properB s := by rw [← hp]; simp [prevOf, properFrom, hg]
                simp (disch := omega) only [go_sem, reduceIte, reduceDIte, reduceCtorEq, Nat.reduceBEq, Nat.reduceEqDiff, Nat.reduceAdd, Nat.reduceSub, Nat.reduceMul, Nat.reduceLT, Nat.reduceLeDiff, Nat.reduceBNe, Int.reduceNeg, Int.reduceAdd, Int.reduceSub, Int.reduceMul, Int.reduceLT, Int.reduceLE, Int.reduceGT, Int.reduceGE, Int.reduceEq, Int.reduceNe, Int.reduceToNat, Int.reduceTMod, Int.reduceTDiv, c3, c4, beq_self_eq_true, Bool.not_true, f7]
                refine ih (0 + 1) _ _ (by omega) ⟨by omega, ?_, ?_, ?_, ?_, ?_, fun _ => ?_⟩
                · simp (disch := omega) only [go_sem, reduceIte, reduceDIte, reduceCtorEq, Nat.reduceBEq, Nat.reduceEqDiff, Nat.reduceAdd, Nat.reduceSub, Nat.reduceMul, Nat.reduceLT, Nat.reduceLeDiff, Nat.reduceBNe, Int.reduceNeg, Int.reduceAdd, Int.reduceSub, Int.reduceMul, Int.reduceLT, Int.reduceLE, Int.reduceGT, Int.reduceGE, Int.reduceEq, Int.reduceNe, Int.reduceToNat, Int.reduceTMod, Int.reduceTDiv, f0]
                · simp (disch := omega) only [go_sem, reduceIte, reduceDIte, reduceCtorEq, Nat.reduceBEq, Nat.reduceEqDiff, Nat.reduceAdd, Nat.reduceSub, Nat.reduceMul, Nat.reduceLT, Nat.reduceLeDiff, Nat.reduceBNe, Int.reduceNeg, Int.reduceAdd, Int.reduceSub, Int.reduceMul, Int.reduceLT, Int.reduceLE, Int.reduceGT, Int.reduceGE, Int.reduceEq, Int.reduceNe, Int.reduceToNat, Int.reduceTMod, Int.reduceTDiv, f5]
                · simp (disch := omega) only [go_sem, reduceIte, reduceDIte, reduceCtorEq, Nat.reduceBEq, Nat.reduceEqDiff, Nat.reduceAdd, Nat.reduceSub, Nat.reduceMul, Nat.reduceLT, Nat.reduceLeDiff, Nat.reduceBNe, Int.reduceNeg, Int.reduceAdd, Int.reduceSub, Int.reduceMul, Int.reduceLT, Int.reduceLE, Int.reduceGT, Int.reduceGE, Int.reduceEq, Int.reduceNe, Int.reduceToNat, Int.reduceTMod, Int.reduceTDiv, f6]
                · simp (disch := omega) only [go_sem, reduceIte, reduceDIte, reduceCtorEq, Nat.reduceBEq, Nat.reduceEqDiff, Nat.reduceAdd, Nat.reduceSub, Nat.reduceMul, Nat.reduceLT, Nat.reduceLeDiff, Nat.reduceBNe, Int.reduceNeg, Int.reduceAdd, Int.reduceSub, Int.reduceMul, Int.reduceLT, Int.reduceLE, Int.reduceGT, Int.reduceGE, Int.reduceEq, Int.reduceNe, Int.reduceToNat, Int.reduceTMod, Int.reduceTDiv]; try rfl
                · rw [prev]; exact hp'
                · rw [prev']; omega
              · have hk1 : (0 : Int) < k := by omega
                have hq' := hq (by omega)
                obtain ⟨q, hqe⟩ : ∃ q, q = (s.getD (k - 1) default).2 := ⟨_, rfl⟩
                rw [← hqe] at hq'
                have ek : (k : Int) - 1 = ((k - 1 : Nat) : Int) := by omega
                have hk2 : k - 1 < s.length := by omega
                have hpq : prevOf s k = some q := by simp [prevOf, hk0, hqe]
                rw [hpq] at hp
                by_cases c6 : r.1 - q < 2
                · have e : properB s = false := by rw [← hp]; simp [properFrom, hg]; omega
                  simp (disch := omega) only [go_sem, reduceIte, reduceDIte, reduceCtorEq, Nat.reduceBEq, Nat.reduceEqDiff, Nat.reduceAdd, Nat.reduceSub, Nat.reduceMul, Nat.reduceLT, Nat.reduceLeDiff, Nat.reduceBNe, Int.reduceNeg, Int.reduceAdd, Int.reduceSub, Int.reduceMul, Int.reduceLT, Int.reduceLE, Int.reduceGT, Int.reduceGE, Int.reduceEq, Int.reduceNe, Int.reduceToNat, Int.reduceTMod, Int.reduceTDiv, c3, c4, beq_self_eq_true, Bool.not_true, hk1, f7, f0, ek, hk2, rgD, ← hqe, c6, e]
                · have hp' : properFrom (some r.2) (s.drop (k + 1)) = properB s := by rw [← hp]; simp [properFrom, hg]; omega
                  simp (disch := omega) only [go_sem, reduceIte, reduceDIte, reduceCtorEq, Nat.reduceBEq, Nat.reduceEqDiff, Nat.reduceAdd, Nat.reduceSub, Nat.reduceMul, Nat.reduceLT, Nat.reduceLeDiff, Nat.reduceBNe, Int.reduceNeg, Int.reduceAdd, Int.reduceSub, Int.reduceMul, Int.reduceLT, Int.reduceLE, Int.reduceGT, Int.reduceGE, Int.reduceEq, Int.reduceNe, Int.reduceToNat, Int.reduceTMod, Int.reduceTDiv, c3, c4, beq_self_eq_true, Bool.not_true, hk1, f7, f0, ek, hk2, rgD, ← hqe, c6]
                  refine ih (k + 1) _ _ (by omega) ⟨by omega, ?_, ?_, ?_, ?_, ?_, fun _ => ?_⟩
                  · simp (disch := omega) only [go_sem, reduceIte, reduceDIte, reduceCtorEq, Nat.reduceBEq, Nat.reduceEqDiff, Nat.reduceAdd, Nat.reduceSub, Nat.reduceMul, Nat.reduceLT, Nat.reduceLeDiff, Nat.reduceBNe, Int.reduceNeg, Int.reduceAdd, Int.reduceSub, Int.reduceMul, Int.reduceLT, Int.reduceLE, Int.reduceGT, Int.reduceGE, Int.reduceEq, Int.reduceNe, Int.reduceToNat, Int.reduceTMod, Int.reduceTDiv, f0]
                  · simp (disch := omega) only [go_sem, reduceIte, reduceDIte, reduceCtorEq, Nat.reduceBEq, Nat.reduceEqDiff, Nat.reduceAdd, Nat.reduceSub, Nat.reduceMul, Nat.reduceLT, Nat.reduceLeDiff, Nat.reduceBNe, Int.reduceNeg, Int.reduceAdd, Int.reduceSub, Int.reduceMul, Int.reduceLT, Int.reduceLE, Int.reduceGT, Int.reduceGE, Int.reduceEq, Int.reduceNe, Int.reduceToNat, Int.reduceTMod, Int.reduceTDiv, f5]
                  · simp (disch := omega) only [go_sem, reduceIte, reduceDIte, reduceCtorEq, Nat.reduceBEq, Nat.reduceEqDiff, Nat.reduceAdd, Nat.reduceSub, Nat.reduceMul, Nat.reduceLT, Nat.reduceLeDiff, Nat.reduceBNe, Int.reduceNeg, Int.reduceAdd, Int.reduceSub, Int.reduceMul, Int.reduceLT, Int.reduceLE, Int.reduceGT, Int.reduceGE, Int.reduceEq, Int.reduceNe, Int.reduceToNat, Int.reduceTMod, Int.reduceTDiv, f6]
                  · simp (disch := omega) only [go_sem, reduceIte, reduceDIte, reduceCtorEq, Nat.reduceBEq, Nat.reduceEqDiff, Nat.reduceAdd, Nat.reduceSub, Nat.reduceMul, Nat.reduceLT, Nat.reduceLeDiff, Nat.reduceBNe, Int.reduceNeg, Int.reduceAdd, Int.reduceSub, Int.reduceMul, Int.reduceLT, Int.reduceLE, Int.reduceGT, Int.reduceGE, Int.reduceEq, Int.reduceNe, Int.reduceToNat, Int.reduceTMod, Int.reduceTDiv]
                  · rw [prev]; exact hp'
                  · rw [prev']; omega
            · have e := bad (by simp only [rgB]; rw [Bool.and_eq_false_iff]; exact .inr (by simpa using c4))
              have c4' : (decide (r.1 < 55296) == decide (r.2 < 55296)) = false := by simpa using c4
              simp (disch := omega) only [go_sem, reduceIte, reduceDIte, reduceCtorEq, Nat.reduceBEq, Nat.reduceEqDiff, Nat.reduceAdd, Nat.reduceSub, Nat.reduceMul, Nat.reduceLT, Nat.reduceLeDiff, Nat.reduceBNe, Int.reduceNeg, Int.reduceAdd, Int.reduceSub, Int.reduceMul, Int.reduceLT, Int.reduceLE, Int.reduceGT, Int.reduceGE, Int.reduceEq, Int.reduceNe, Int.reduceToNat, Int.reduceTMod, Int.reduceTDiv, c3, c4', Bool.not_false, e]
        · have e := bad (by simp only [rgB, c2, Bool.and_false, Bool.false_and])
          simp (disch := omega) only [go_sem, reduceIte, reduceDIte, reduceCtorEq, Nat.reduceBEq, Nat.reduceEqDiff, Nat.reduceAdd, Nat.reduceSub, Nat.reduceMul, Nat.reduceLT, Nat.reduceLeDiff, Nat.reduceBNe, Int.reduceNeg, Int.reduceAdd, Int.reduceSub, Int.reduceMul, Int.reduceLT, Int.reduceLE, Int.reduceGT, Int.reduceGE, Int.reduceEq, Int.reduceNe, Int.reduceToNat, Int.reduceTMod, Int.reduceTDiv, c2, e]
      · have e := bad (by simp only [rgB, c1, Bool.false_and])
        simp (disch := omega) only [go_sem, reduceIte, reduceDIte, reduceCtorEq, Nat.reduceBEq, Nat.reduceEqDiff, Nat.reduceAdd, Nat.reduceSub, Nat.reduceMul, Nat.reduceLT, Nat.reduceLeDiff, Nat.reduceBNe, Int.reduceNeg, Int.reduceAdd, Int.reduceSub, Int.reduceMul, Int.reduceLT, Int.reduceLE, Int.reduceGT, Int.reduceGE, Int.reduceEq, Int.reduceNe, Int.reduceToNat, Int.reduceTMod, Int.reduceTDiv, c1, e]
    · have e2 : s.drop k = [] := List.drop_of_length_le (by omega)
      have e : properB s = true := by rw [← hp, e2]; cases prevOf s k <;> rfl
      simp (disch := omega) only [go_sem, reduceIte, reduceDIte, reduceCtorEq, Nat.reduceBEq, Nat.reduceEqDiff, Nat.reduceAdd, Nat.reduceSub, Nat.reduceMul, Nat.reduceLT, Nat.reduceLeDiff, Nat.reduceBNe, Int.reduceNeg, Int.reduceAdd, Int.reduceSub, Int.reduceMul, Int.reduceLT, Int.reduceLE, Int.reduceGT, Int.reduceGE, Int.reduceEq, Int.reduceNe, Int.reduceToNat, Int.reduceTMod, Int.reduceTDiv, f0, f5, f6, f7, hlt, e]
  · refine ⟨by omega, ?_, ?_, ?_, ?_, ?_, by omega⟩
    · simp (disch := omega) only [go_sem, reduceIte, reduceDIte, reduceCtorEq, Nat.reduceBEq, Nat.reduceEqDiff, Nat.reduceAdd, Nat.reduceSub, Nat.reduceMul, Nat.reduceLT, Nat.reduceLeDiff, Nat.reduceBNe, Int.reduceNeg, Int.reduceAdd, Int.reduceSub, Int.reduceMul, Int.reduceLT, Int.reduceLE, Int.reduceGT, Int.reduceGE, Int.reduceEq, Int.reduceNe, Int.reduceToNat, Int.reduceTMod, Int.reduceTDiv]
    · simp (disch := omega) only [go_sem, reduceIte, reduceDIte, reduceCtorEq, Nat.reduceBEq, Nat.reduceEqDiff, Nat.reduceAdd, Nat.reduceSub, Nat.reduceMul, Nat.reduceLT, Nat.reduceLeDiff, Nat.reduceBNe, Int.reduceNeg, Int.reduceAdd, Int.reduceSub, Int.reduceMul, Int.reduceLT, Int.reduceLE, Int.reduceGT, Int.reduceGE, Int.reduceEq, Int.reduceNe, Int.reduceToNat, Int.reduceTMod, Int.reduceTDiv]
    · simp (disch := omega) only [go_sem, reduceIte, reduceDIte, reduceCtorEq, Nat.reduceBEq, Nat.reduceEqDiff, Nat.reduceAdd, Nat.reduceSub, Nat.reduceMul, Nat.reduceLT, Nat.reduceLeDiff, Nat.reduceBNe, Int.reduceNeg, Int.reduceAdd, Int.reduceSub, Int.reduceMul, Int.reduceLT, Int.reduceLE, Int.reduceGT, Int.reduceGE, Int.reduceEq, Int.reduceNe, Int.reduceToNat, Int.reduceTMod, Int.reduceTDiv]
    · simp (disch := omega) only [go_sem, reduceIte, reduceDIte, reduceCtorEq, Nat.reduceBEq, Nat.reduceEqDiff, Nat.reduceAdd, Nat.reduceSub, Nat.reduceMul, Nat.reduceLT, Nat.reduceLeDiff, Nat.reduceBNe, Int.reduceNeg, Int.reduceAdd, Int.reduceSub, Int.reduceMul, Int.reduceLT, Int.reduceLE, Int.reduceGT, Int.reduceGE, Int.reduceEq, Int.reduceNe, Int.reduceToNat, Int.reduceTMod, Int.reduceTDiv]
    · rfl
end Go.Proofs.YtefpcfooahogkaaDoor
