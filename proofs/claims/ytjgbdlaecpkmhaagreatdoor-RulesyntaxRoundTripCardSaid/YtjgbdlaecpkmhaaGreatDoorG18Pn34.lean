/- Part of a proof about the functions of this seat. -/
import Derived.Test.YtjgbdlaecpkmhaaGreatDoorG16Pars
import Derived.Test.YtjgbdlaecpkmhaaGreatDoorG17Pj34
set_option linter.unusedVariables false
set_option linter.unusedSimpArgs false
set_option maxRecDepth 100000
namespace Go.Proofs.YtjgbdlaecpkmhaaGreatDoor
open Go Nv Pat

/- The parser's small functions. -/
def boxP (l : List Int) (i : Nat) : Blk := .box 103 [.d (.list 1 (runesD l)), .d (.int .i64 i)]
def badV : AV := .iface 98 (.agg [])

/-- What a function of the parser does: what it hands back and what is left of the text; or it gives up. -/
def PS (f : FuncId) (args : List AV) (l r : List Int) (out : Option (AV × List Int)) : Prop :=
  ∀ (A B : Nv.ST) (u : List Int), l = u ++ r → ACall Tryz.prog f (.ptr A.length 0 :: args) (A ++ boxP l u.length :: B) fun oc σ' =>
    match out with
    | none => oc = .panic badV ∧ ∃ τ, σ' = A ++ τ
    | some (v, r') => oc = .ret v ∧ ∃ (u' : List Int) (τ : Nv.ST), l = u' ++ r' ∧ σ' = A ++ boxP l u'.length :: (B ++ τ)

theorem PS.at {f : FuncId} {args : List AV} {l r : List Int} {out : Option (AV × List Int)} (h : PS f args l r out) (A B : Nv.ST) (u : List Int) (e : l = u ++ r) {Kv E : AV → Nv.ST → Prop} {tk : Tk (outK Kv E)}
    (hret : ∀ v r' (u' : List Int) (τ : Nv.ST), out = some (v, r') → l = u' ++ r' → Kv v (A ++ boxP l u'.length :: (B ++ τ))) (hpan : out = none → ∀ τ, E badV (A ++ τ)) : wCall Tryz.prog f (.ptr A.length 0 :: args) (A ++ boxP l u.length :: B) (outK Kv E) tk := by
  refine ACall.mono (h A B u e) fun oc s hh => ?_
  cases out with
  | none => obtain ⟨rfl, τ, rfl⟩ := hh; exact hpan rfl τ
  | some x =>
    obtain ⟨v, r'⟩ := x
    obtain ⟨rfl, u', τ, e', rfl⟩ := hh
    exact hret v r' u' τ rfl e'
theorem PS.of {f np : Nat} {rs : List ResultVar} {pc : PC} (hf : FnIs Tryz.prog f np rs pc) (hint : Nat → Hint) {args : List AV} {l r : List Int} {out : Option (AV × List Int)} (hn : args.length + 1 ≤ np)
    (h : ∀ (A B : Nv.ST) (u : List Int), l = u ++ r → wW Tryz.prog hint pc (endA Tryz.prog rs fun oc σ' => match out with
      | none => oc = .panic badV ∧ ∃ τ, σ' = A ++ τ
      | some (v, r') => oc = .ret v ∧ ∃ (u' : List Int) (τ : Nv.ST), l = u' ++ r' ∧ σ' = A ++ boxP l u'.length :: (B ++ τ)) ⟨⟩ ⟨⟩ (initFr (.ptr A.length 0 :: args)) (A ++ boxP l u.length :: B)) : PS f args l r out := fun A B u e =>
  hf.go hint hn (h A B u e)

theorem runes_at (u r : List Int) (c : Int) : (runesD (u ++ c :: r)).getD u.length default = .int .i32 c := by
  simp [runesD, List.getD_eq_getElem?_getD]
theorem peek29 (u r : List Int) (hl : (u ++ r).length ≤ 1000000) (A B : Nv.ST) : SCall Tryz.prog 66 [.ptr A.length 0] (A ++ boxP (u ++ r) u.length :: B) (.d (.int .i32 (r.headD (-1)))) (A ++ boxP (u ++ r) u.length :: B) := by
  refine fn66.st noHint (Nat.le_refl _) ?_
  cases r with
  | nil =>
    have h1 : ¬ u.length < u.length := by omega
    simp (disch := omega) only [go_sem, reduceIte, reduceDIte, reduceCtorEq, Nat.reduceBEq, Nat.reduceEqDiff, Nat.reduceAdd, Nat.reduceSub, Nat.reduceMul, Nat.reduceLT, Nat.reduceLeDiff, Nat.reduceBNe, Int.reduceNeg, Int.reduceAdd, Int.reduceSub, Int.reduceMul, Int.reduceLT, Int.reduceLE, Int.reduceGT, Int.reduceGE, Int.reduceEq, Int.reduceNe, Int.reduceToNat, Int.reduceTMod, Int.reduceTDiv, boxP, runesD_length, List.append_nil, h1, List.headD_nil, List.append_assoc, List.cons_append, List.nil_append, List.length_append, stGet_app, stGet_app0, stSet_app, stSet_app0]
  | cons c r =>
    have h1 : (u.length : Int) < ((u ++ c :: r).length : Nat) := by rw [List.length_append, List.length_cons]; omega
    have h2 : u.length < (u ++ c :: r).length := by rw [List.length_append, List.length_cons]; omega
    have h3 := runes_at u r c
    generalize u ++ c :: r = l at h1 h2 h3 ⊢
    simp (disch := omega) only [go_sem, reduceIte, reduceDIte, reduceCtorEq, Nat.reduceBEq, Nat.reduceEqDiff, Nat.reduceAdd, Nat.reduceSub, Nat.reduceMul, Nat.reduceLT, Nat.reduceLeDiff, Nat.reduceBNe, Int.reduceNeg, Int.reduceAdd, Int.reduceSub, Int.reduceMul, Int.reduceLT, Int.reduceLE, Int.reduceGT, Int.reduceGE, Int.reduceEq, Int.reduceNe, Int.reduceToNat, Int.reduceTMod, Int.reduceTDiv, boxP, runesD_length, h1, h2, h3, List.headD_cons, List.append_assoc, List.cons_append, List.nil_append, List.length_append, stGet_app, stGet_app0, stSet_app, stSet_app0]

theorem next84 (l r : List Int) (hl : l.length ≤ 1000000) (h0 : ∀ c, c ∈ l → 0 ≤ c) : PS 115 [] l r (match r with | [] => none | c :: t => some (.d (.int .i32 c), t)) := by
  refine PS.of fn115 noHint (Nat.le_refl _) fun A B u e => ?_
  subst e
  simp (disch := omega) only [go_sem, reduceIte, reduceDIte, reduceCtorEq, Nat.reduceBEq, Nat.reduceEqDiff, Nat.reduceAdd, Nat.reduceSub, Nat.reduceMul, Nat.reduceLT, Nat.reduceLeDiff, Nat.reduceBNe, Int.reduceNeg, Int.reduceAdd, Int.reduceSub, Int.reduceMul, Int.reduceLT, Int.reduceLE, Int.reduceGT, Int.reduceGE, Int.reduceEq, Int.reduceNe, Int.reduceToNat, Int.reduceTMod, Int.reduceTDiv]
  refine (peek29 u r hl A B).at ?_
  cases r with
  | nil => simp (disch := omega) only [go_sem, reduceIte, reduceDIte, reduceCtorEq, Nat.reduceBEq, Nat.reduceEqDiff, Nat.reduceAdd, Nat.reduceSub, Nat.reduceMul, Nat.reduceLT, Nat.reduceLeDiff, Nat.reduceBNe, Int.reduceNeg, Int.reduceAdd, Int.reduceSub, Int.reduceMul, Int.reduceLT, Int.reduceLE, Int.reduceGT, Int.reduceGE, Int.reduceEq, Int.reduceNe, Int.reduceToNat, Int.reduceTMod, Int.reduceTDiv, List.headD_nil, badV]; exact ⟨_, rfl⟩
  | cons c r =>
    have hc : ¬ c < 0 := by have := h0 c (by simp); omega
    have hw : IntKind.i64.wrap ((u.length : Int) + 1) = ((u ++ [c]).length : Nat) := by
      rw [List.length_append] at *
      rw [wrap_id (by omega) (by simp at hl; omega)]; simp
    obtain ⟨u', hu'⟩ : ∃ u', u' = u ++ [c] := ⟨_, rfl⟩
    rw [← hu'] at hw
    have el : u ++ c :: r = u' ++ r := by rw [hu']; simp
    simp (disch := omega) only [go_sem, reduceIte, reduceDIte, reduceCtorEq, Nat.reduceBEq, Nat.reduceEqDiff, Nat.reduceAdd, Nat.reduceSub, Nat.reduceMul, Nat.reduceLT, Nat.reduceLeDiff, Nat.reduceBNe, Int.reduceNeg, Int.reduceAdd, Int.reduceSub, Int.reduceMul, Int.reduceLT, Int.reduceLE, Int.reduceGT, Int.reduceGE, Int.reduceEq, Int.reduceNe, Int.reduceToNat, Int.reduceTMod, Int.reduceTDiv, boxP, List.headD_cons, hc, hw, List.append_assoc, List.cons_append, List.nil_append, List.length_append, stGet_app, stGet_app0, stSet_app, stSet_app0]
    exact ⟨u', [], el, by simp [boxP, hw]⟩
theorem skip45 (l r : List Int) (hl : l.length ≤ 1000000) (c : Int) (hc : 0 ≤ c) :
    PS 84 [.d (.int .i32 c)] l r (some (.d (.bool (decide (r.headD (-1) = c))), if r.headD (-1) = c then r.tail else r)) := by
  refine PS.of fn84 noHint (Nat.le_refl _) fun A B u e => ?_
  subst e
  simp (disch := omega) only [go_sem, reduceIte, reduceDIte, reduceCtorEq, Nat.reduceBEq, Nat.reduceEqDiff, Nat.reduceAdd, Nat.reduceSub, Nat.reduceMul, Nat.reduceLT, Nat.reduceLeDiff, Nat.reduceBNe, Int.reduceNeg, Int.reduceAdd, Int.reduceSub, Int.reduceMul, Int.reduceLT, Int.reduceLE, Int.reduceGT, Int.reduceGE, Int.reduceEq, Int.reduceNe, Int.reduceToNat, Int.reduceTMod, Int.reduceTDiv]
  refine (peek29 u r hl A B).at ?_
  by_cases h : r.headD (-1) = c
  · cases r with
    | nil => simp at h; omega
    | cons d r =>
      simp only [List.headD_cons] at h
      subst h
      have hw : IntKind.i64.wrap ((u.length : Int) + 1) = ((u ++ [d]).length : Nat) := by
        rw [List.length_append] at *
        rw [wrap_id (by omega) (by simp at hl; omega)]; simp
      obtain ⟨u', hu'⟩ : ∃ u', u' = u ++ [d] := ⟨_, rfl⟩
      rw [← hu'] at hw
      have el : u ++ d :: r = u' ++ r := by rw [hu']; simp
      simp (disch := omega) only [go_sem, reduceIte, reduceDIte, reduceCtorEq, Nat.reduceBEq, Nat.reduceEqDiff, Nat.reduceAdd, Nat.reduceSub, Nat.reduceMul, Nat.reduceLT, Nat.reduceLeDiff, Nat.reduceBNe, Int.reduceNeg, Int.reduceAdd, Int.reduceSub, Int.reduceMul, Int.reduceLT, Int.reduceLE, Int.reduceGT, Int.reduceGE, Int.reduceEq, Int.reduceNe, Int.reduceToNat, Int.reduceTMod, Int.reduceTDiv, boxP, List.headD_cons, hw, List.tail_cons, decide_true, List.append_assoc, List.cons_append, List.nil_append, List.length_append, stGet_app, stGet_app0, stSet_app, stSet_app0]
      exact ⟨u', [], el, by simp [boxP, hw]⟩
  · simp (disch := omega) only [go_sem, reduceIte, reduceDIte, reduceCtorEq, Nat.reduceBEq, Nat.reduceEqDiff, Nat.reduceAdd, Nat.reduceSub, Nat.reduceMul, Nat.reduceLT, Nat.reduceLeDiff, Nat.reduceBNe, Int.reduceNeg, Int.reduceAdd, Int.reduceSub, Int.reduceMul, Int.reduceLT, Int.reduceLE, Int.reduceGT, Int.reduceGE, Int.reduceEq, Int.reduceNe, Int.reduceToNat, Int.reduceTMod, Int.reduceTDiv, h, decide_false]
    exact ⟨u, [], rfl, by simp⟩
theorem must78 (l r : List Int) (hl : l.length ≤ 1000000) (c : Int) (hc : 0 ≤ c) : PS 110 [.d (.int .i32 c)] l r (if r.headD (-1) = c then some (.tuple [], r.tail) else none) := by
  refine PS.of fn110 noHint (Nat.le_refl _) fun A B u e => ?_
  simp (disch := omega) only [go_sem, reduceIte, reduceDIte, reduceCtorEq, Nat.reduceBEq, Nat.reduceEqDiff, Nat.reduceAdd, Nat.reduceSub, Nat.reduceMul, Nat.reduceLT, Nat.reduceLeDiff, Nat.reduceBNe, Int.reduceNeg, Int.reduceAdd, Int.reduceSub, Int.reduceMul, Int.reduceLT, Int.reduceLE, Int.reduceGT, Int.reduceGE, Int.reduceEq, Int.reduceNe, Int.reduceToNat, Int.reduceTMod, Int.reduceTDiv]
  refine (skip45 l r hl c hc).at A B u e ?_ ?_
  · intro v r' u' τ ho e'
    cases ho
    by_cases h : r.headD (-1) = c
    · rw [if_pos h] at e'
      simp (disch := omega) only [go_sem, reduceIte, reduceDIte, reduceCtorEq, Nat.reduceBEq, Nat.reduceEqDiff, Nat.reduceAdd, Nat.reduceSub, Nat.reduceMul, Nat.reduceLT, Nat.reduceLeDiff, Nat.reduceBNe, Int.reduceNeg, Int.reduceAdd, Int.reduceSub, Int.reduceMul, Int.reduceLT, Int.reduceLE, Int.reduceGT, Int.reduceGE, Int.reduceEq, Int.reduceNe, Int.reduceToNat, Int.reduceTMod, Int.reduceTDiv, h, decide_true]
      exact ⟨u', τ, e', rfl⟩
    · simp (disch := omega) only [go_sem, reduceIte, reduceDIte, reduceCtorEq, Nat.reduceBEq, Nat.reduceEqDiff, Nat.reduceAdd, Nat.reduceSub, Nat.reduceMul, Nat.reduceLT, Nat.reduceLeDiff, Nat.reduceBNe, Int.reduceNeg, Int.reduceAdd, Int.reduceSub, Int.reduceMul, Int.reduceLT, Int.reduceLE, Int.reduceGT, Int.reduceGE, Int.reduceEq, Int.reduceNe, Int.reduceToNat, Int.reduceTMod, Int.reduceTDiv, h, decide_false, badV]; exact ⟨_, rfl⟩
  · intro ho; cases ho
end Go.Proofs.YtjgbdlaecpkmhaaGreatDoor
set_option linter.unusedVariables false
set_option linter.unusedSimpArgs false
set_option maxRecDepth 100000
namespace Go.Proofs.YtjgbdlaecpkmhaaGreatDoor
open Go Nv Pat

theorem peekL (l u r : List Int) (e : l = u ++ r) (hl : l.length ≤ 1000000) (A B : Nv.ST) : SCall Tryz.prog 66 [.ptr A.length 0] (A ++ boxP l u.length :: B) (.d (.int .i32 (r.headD (-1)))) (A ++ boxP l u.length :: B) := by
  subst e; exact peek29 u r hl A B

theorem letter91 (l r : List Int) (hl : l.length ≤ 1000000) (h0 : ∀ c, c ∈ l → 0 ≤ c) : PS 118 [] l r ((letP r).map fun x => (.d (.int .i32 x.1), x.2)) := by
  refine PS.of fn118 noHint (Nat.le_refl _) fun A B u e => ?_
  simp (disch := omega) only [go_sem, reduceIte, reduceDIte, reduceCtorEq, Nat.reduceBEq, Nat.reduceEqDiff, Nat.reduceAdd, Nat.reduceSub, Nat.reduceMul, Nat.reduceLT, Nat.reduceLeDiff, Nat.reduceBNe, Int.reduceNeg, Int.reduceAdd, Int.reduceSub, Int.reduceMul, Int.reduceLT, Int.reduceLE, Int.reduceGT, Int.reduceGE, Int.reduceEq, Int.reduceNe, Int.reduceToNat, Int.reduceTMod, Int.reduceTDiv]
  refine (next84 l r hl h0).at A B u e ?_ ?_
  · intro v r' u' τ ho e'
    cases r with
    | nil => cases ho
    | cons c t =>
      cases ho
      by_cases h1 : c = 92
      · simp (disch := omega) only [go_sem, reduceIte, reduceDIte, reduceCtorEq, Nat.reduceBEq, Nat.reduceEqDiff, Nat.reduceAdd, Nat.reduceSub, Nat.reduceMul, Nat.reduceLT, Nat.reduceLeDiff, Nat.reduceBNe, Int.reduceNeg, Int.reduceAdd, Int.reduceSub, Int.reduceMul, Int.reduceLT, Int.reduceLE, Int.reduceGT, Int.reduceGE, Int.reduceEq, Int.reduceNe, Int.reduceToNat, Int.reduceTMod, Int.reduceTDiv, h1]
        refine (next84 l _ hl h0).at A (B ++ τ) u' e' ?_ ?_
        · intro v r2 u2 τ2 ho e2
          cases r' with
          | nil => cases ho
          | cons d r' =>
            cases ho
            simp (disch := omega) only [go_sem, reduceIte, reduceDIte, reduceCtorEq, Nat.reduceBEq, Nat.reduceEqDiff, Nat.reduceAdd, Nat.reduceSub, Nat.reduceMul, Nat.reduceLT, Nat.reduceLeDiff, Nat.reduceBNe, Int.reduceNeg, Int.reduceAdd, Int.reduceSub, Int.reduceMul, Int.reduceLT, Int.reduceLE, Int.reduceGT, Int.reduceGE, Int.reduceEq, Int.reduceNe, Int.reduceToNat, Int.reduceTMod, Int.reduceTDiv, letP, oneP, h1, Option.map_some]
            exact ⟨u2, τ ++ τ2, e2, by simp⟩
        · intro ho σ'
          cases r' with
          | nil => simp (disch := omega) only [go_sem, reduceIte, reduceDIte, reduceCtorEq, Nat.reduceBEq, Nat.reduceEqDiff, Nat.reduceAdd, Nat.reduceSub, Nat.reduceMul, Nat.reduceLT, Nat.reduceLeDiff, Nat.reduceBNe, Int.reduceNeg, Int.reduceAdd, Int.reduceSub, Int.reduceMul, Int.reduceLT, Int.reduceLE, Int.reduceGT, Int.reduceGE, Int.reduceEq, Int.reduceNe, Int.reduceToNat, Int.reduceTMod, Int.reduceTDiv, letP, oneP, h1, Option.map_none]; exact ⟨_, rfl⟩
          | cons d t => cases ho
      by_cases h2 : c = 93
      · simp (disch := omega) only [go_sem, reduceIte, reduceDIte, reduceCtorEq, Nat.reduceBEq, Nat.reduceEqDiff, Nat.reduceAdd, Nat.reduceSub, Nat.reduceMul, Nat.reduceLT, Nat.reduceLeDiff, Nat.reduceBNe, Int.reduceNeg, Int.reduceAdd, Int.reduceSub, Int.reduceMul, Int.reduceLT, Int.reduceLE, Int.reduceGT, Int.reduceGE, Int.reduceEq, Int.reduceNe, Int.reduceToNat, Int.reduceTMod, Int.reduceTDiv, h1, h2, letP, Option.map_none, badV, true_or]; exact ⟨_, rfl⟩
      by_cases h3 : c = 94
      · simp (disch := omega) only [go_sem, reduceIte, reduceDIte, reduceCtorEq, Nat.reduceBEq, Nat.reduceEqDiff, Nat.reduceAdd, Nat.reduceSub, Nat.reduceMul, Nat.reduceLT, Nat.reduceLeDiff, Nat.reduceBNe, Int.reduceNeg, Int.reduceAdd, Int.reduceSub, Int.reduceMul, Int.reduceLT, Int.reduceLE, Int.reduceGT, Int.reduceGE, Int.reduceEq, Int.reduceNe, Int.reduceToNat, Int.reduceTMod, Int.reduceTDiv, h1, h2, h3, letP, Option.map_none, badV, true_or, or_true]; exact ⟨_, rfl⟩
      by_cases h4 : c = 45
      · simp (disch := omega) only [go_sem, reduceIte, reduceDIte, reduceCtorEq, Nat.reduceBEq, Nat.reduceEqDiff, Nat.reduceAdd, Nat.reduceSub, Nat.reduceMul, Nat.reduceLT, Nat.reduceLeDiff, Nat.reduceBNe, Int.reduceNeg, Int.reduceAdd, Int.reduceSub, Int.reduceMul, Int.reduceLT, Int.reduceLE, Int.reduceGT, Int.reduceGE, Int.reduceEq, Int.reduceNe, Int.reduceToNat, Int.reduceTMod, Int.reduceTDiv, h1, h2, h3, h4, letP, Option.map_none, badV, true_or, or_true]; exact ⟨_, rfl⟩
      · simp (disch := omega) only [go_sem, reduceIte, reduceDIte, reduceCtorEq, Nat.reduceBEq, Nat.reduceEqDiff, Nat.reduceAdd, Nat.reduceSub, Nat.reduceMul, Nat.reduceLT, Nat.reduceLeDiff, Nat.reduceBNe, Int.reduceNeg, Int.reduceAdd, Int.reduceSub, Int.reduceMul, Int.reduceLT, Int.reduceLE, Int.reduceGT, Int.reduceGE, Int.reduceEq, Int.reduceNe, Int.reduceToNat, Int.reduceTMod, Int.reduceTDiv, h1, h2, h3, h4, letP, Option.map_some, or_self]
        exact ⟨u', τ, e', rfl⟩
  · intro ho σ'
    cases r with
    | nil => simp (disch := omega) only [go_sem, reduceIte, reduceDIte, reduceCtorEq, Nat.reduceBEq, Nat.reduceEqDiff, Nat.reduceAdd, Nat.reduceSub, Nat.reduceMul, Nat.reduceLT, Nat.reduceLeDiff, Nat.reduceBNe, Int.reduceNeg, Int.reduceAdd, Int.reduceSub, Int.reduceMul, Int.reduceLT, Int.reduceLE, Int.reduceGT, Int.reduceGE, Int.reduceEq, Int.reduceNe, Int.reduceToNat, Int.reduceTMod, Int.reduceTDiv, letP, Option.map_none]; exact ⟨_, rfl⟩
    | cons c t => cases ho

/- ranges -/
theorem max_if (x y : Int) : (if x < y then y else x) = max x y := by omega
theorem min_if (x y : Int) : (if y < x then y else x) = min x y := by omega
def hintA : Nat → Hint := fun i => if i = 3 then .freeze else .no
@[go_sem] theorem hintA_at (i : Nat) : hintA i = if i = 3 then .freeze else .no := nrfl rfl
theorem all59 : PCall Tryz.prog 116 [] (.d (setD allS)) := by
  refine fn116.pure hintA (Nat.le_refl _) (by simp only [go_sem]) (by simp only [go_sem]) ?_
  simp (disch := omega) only [go_sem, reduceIte, reduceDIte, reduceCtorEq, Nat.reduceBEq, Nat.reduceEqDiff, Nat.reduceAdd, Nat.reduceSub, Nat.reduceMul, Nat.reduceLT, Nat.reduceLeDiff, Nat.reduceBNe, Int.reduceNeg, Int.reduceAdd, Int.reduceSub, Int.reduceMul, Int.reduceLT, Int.reduceLE, Int.reduceGT, Int.reduceGE, Int.reduceEq, Int.reduceNe, Int.reduceToNat, Int.reduceTMod, Int.reduceTDiv, setD, allS, List.map_cons, List.map_nil, rgD]

def hintC : Nat → Hint := fun i => if i = 5 then .own ⟨2, 154⟩ else if i = 34 then .freeze else .no
@[go_sem] theorem hintC_at (i : Nat) : hintC i = if i = 5 then .own ⟨2, 154⟩ else if i = 34 then .freeze else .no := nrfl rfl
theorem clip92 (a b : Int) : PCall Tryz.prog 119 [.d (.int .i32 a), .d (.int .i32 b)] (.d (setD (clipS a b))) := by
  refine fn119.pure hintC (Nat.le_refl _) (by simp only [go_sem]) (by simp only [go_sem, setD]) ?_
  simp (disch := omega) only [go_sem, reduceIte, reduceDIte, reduceCtorEq, Nat.reduceBEq, Nat.reduceEqDiff, Nat.reduceAdd, Nat.reduceSub, Nat.reduceMul, Nat.reduceLT, Nat.reduceLeDiff, Nat.reduceBNe, Int.reduceNeg, Int.reduceAdd, Int.reduceSub, Int.reduceMul, Int.reduceLT, Int.reduceLE, Int.reduceGT, Int.reduceGE, Int.reduceEq, Int.reduceNe, Int.reduceToNat, Int.reduceTMod, Int.reduceTDiv]
  refine all59.at ?_
  have z0 : (0 : Int) < ((2 : Nat) : Int) := by decide
  have z1 : (1 : Int) < ((2 : Nat) : Int) := by decide
  have z2 : ¬ (2 : Int) < ((2 : Nat) : Int) := by decide
  simp (disch := omega) only [go_sem, reduceIte, reduceDIte, reduceCtorEq, Nat.reduceBEq, Nat.reduceEqDiff, Nat.reduceAdd, Nat.reduceSub, Nat.reduceMul, Nat.reduceLT, Nat.reduceLeDiff, Nat.reduceBNe, Int.reduceNeg, Int.reduceAdd, Int.reduceSub, Int.reduceMul, Int.reduceLT, Int.reduceLE, Int.reduceGT, Int.reduceGE, Int.reduceEq, Int.reduceNe, Int.reduceToNat, Int.reduceTMod, Int.reduceTDiv, setD, allS, List.map_cons, List.map_nil, rgD]
  refine wL_step ?_
  simp (disch := omega) only [go_sem, reduceIte, reduceDIte, reduceCtorEq, Nat.reduceBEq, Nat.reduceEqDiff, Nat.reduceAdd, Nat.reduceSub, Nat.reduceMul, Nat.reduceLT, Nat.reduceLeDiff, Nat.reduceBNe, Int.reduceNeg, Int.reduceAdd, Int.reduceSub, Int.reduceMul, Int.reduceLT, Int.reduceLE, Int.reduceGT, Int.reduceGE, Int.reduceEq, Int.reduceNe, Int.reduceToNat, Int.reduceTMod, Int.reduceTDiv, max_if, min_if, z0]
  by_cases h1 : max a 0 ≤ min b 55295
  · simp (disch := omega) only [go_sem, reduceIte, reduceDIte, reduceCtorEq, Nat.reduceBEq, Nat.reduceEqDiff, Nat.reduceAdd, Nat.reduceSub, Nat.reduceMul, Nat.reduceLT, Nat.reduceLeDiff, Nat.reduceBNe, Int.reduceNeg, Int.reduceAdd, Int.reduceSub, Int.reduceMul, Int.reduceLT, Int.reduceLE, Int.reduceGT, Int.reduceGE, Int.reduceEq, Int.reduceNe, Int.reduceToNat, Int.reduceTMod, Int.reduceTDiv, h1]
    refine wL_step ?_
    simp (disch := omega) only [go_sem, reduceIte, reduceDIte, reduceCtorEq, Nat.reduceBEq, Nat.reduceEqDiff, Nat.reduceAdd, Nat.reduceSub, Nat.reduceMul, Nat.reduceLT, Nat.reduceLeDiff, Nat.reduceBNe, Int.reduceNeg, Int.reduceAdd, Int.reduceSub, Int.reduceMul, Int.reduceLT, Int.reduceLE, Int.reduceGT, Int.reduceGE, Int.reduceEq, Int.reduceNe, Int.reduceToNat, Int.reduceTMod, Int.reduceTDiv, max_if, min_if, z1]
    by_cases h2 : max a 57344 ≤ min b 1114111
    · have e : clipS a b = [(max a 0, min b 55295), (max a 57344, min b 1114111)] := by simp only [clipS, clip1, h1, h2, if_true, List.cons_append, List.nil_append]
      simp (disch := omega) only [go_sem, reduceIte, reduceDIte, reduceCtorEq, Nat.reduceBEq, Nat.reduceEqDiff, Nat.reduceAdd, Nat.reduceSub, Nat.reduceMul, Nat.reduceLT, Nat.reduceLeDiff, Nat.reduceBNe, Int.reduceNeg, Int.reduceAdd, Int.reduceSub, Int.reduceMul, Int.reduceLT, Int.reduceLE, Int.reduceGT, Int.reduceGE, Int.reduceEq, Int.reduceNe, Int.reduceToNat, Int.reduceTMod, Int.reduceTDiv, h2]
      refine wL_step ?_
      simp (disch := omega) only [go_sem, reduceIte, reduceDIte, reduceCtorEq, Nat.reduceBEq, Nat.reduceEqDiff, Nat.reduceAdd, Nat.reduceSub, Nat.reduceMul, Nat.reduceLT, Nat.reduceLeDiff, Nat.reduceBNe, Int.reduceNeg, Int.reduceAdd, Int.reduceSub, Int.reduceMul, Int.reduceLT, Int.reduceLE, Int.reduceGT, Int.reduceGE, Int.reduceEq, Int.reduceNe, Int.reduceToNat, Int.reduceTMod, Int.reduceTDiv, z2, e, List.map_cons, List.map_nil, rgD]
    · have e : clipS a b = [(max a 0, min b 55295)] := by simp only [clipS, clip1, h1, h2, if_true, if_false, List.append_nil]
      simp (disch := omega) only [go_sem, reduceIte, reduceDIte, reduceCtorEq, Nat.reduceBEq, Nat.reduceEqDiff, Nat.reduceAdd, Nat.reduceSub, Nat.reduceMul, Nat.reduceLT, Nat.reduceLeDiff, Nat.reduceBNe, Int.reduceNeg, Int.reduceAdd, Int.reduceSub, Int.reduceMul, Int.reduceLT, Int.reduceLE, Int.reduceGT, Int.reduceGE, Int.reduceEq, Int.reduceNe, Int.reduceToNat, Int.reduceTMod, Int.reduceTDiv, h2]
      refine wL_step ?_
      simp (disch := omega) only [go_sem, reduceIte, reduceDIte, reduceCtorEq, Nat.reduceBEq, Nat.reduceEqDiff, Nat.reduceAdd, Nat.reduceSub, Nat.reduceMul, Nat.reduceLT, Nat.reduceLeDiff, Nat.reduceBNe, Int.reduceNeg, Int.reduceAdd, Int.reduceSub, Int.reduceMul, Int.reduceLT, Int.reduceLE, Int.reduceGT, Int.reduceGE, Int.reduceEq, Int.reduceNe, Int.reduceToNat, Int.reduceTMod, Int.reduceTDiv, z2, e, List.map_cons, List.map_nil, rgD]
  · simp (disch := omega) only [go_sem, reduceIte, reduceDIte, reduceCtorEq, Nat.reduceBEq, Nat.reduceEqDiff, Nat.reduceAdd, Nat.reduceSub, Nat.reduceMul, Nat.reduceLT, Nat.reduceLeDiff, Nat.reduceBNe, Int.reduceNeg, Int.reduceAdd, Int.reduceSub, Int.reduceMul, Int.reduceLT, Int.reduceLE, Int.reduceGT, Int.reduceGE, Int.reduceEq, Int.reduceNe, Int.reduceToNat, Int.reduceTMod, Int.reduceTDiv, h1]
    refine wL_step ?_
    simp (disch := omega) only [go_sem, reduceIte, reduceDIte, reduceCtorEq, Nat.reduceBEq, Nat.reduceEqDiff, Nat.reduceAdd, Nat.reduceSub, Nat.reduceMul, Nat.reduceLT, Nat.reduceLeDiff, Nat.reduceBNe, Int.reduceNeg, Int.reduceAdd, Int.reduceSub, Int.reduceMul, Int.reduceLT, Int.reduceLE, Int.reduceGT, Int.reduceGE, Int.reduceEq, Int.reduceNe, Int.reduceToNat, Int.reduceTMod, Int.reduceTDiv, max_if, min_if, z1]
    by_cases h2 : max a 57344 ≤ min b 1114111
    · have e : clipS a b = [(max a 57344, min b 1114111)] := by simp only [clipS, clip1, h1, h2, if_true, if_false, List.nil_append]
      simp (disch := omega) only [go_sem, reduceIte, reduceDIte, reduceCtorEq, Nat.reduceBEq, Nat.reduceEqDiff, Nat.reduceAdd, Nat.reduceSub, Nat.reduceMul, Nat.reduceLT, Nat.reduceLeDiff, Nat.reduceBNe, Int.reduceNeg, Int.reduceAdd, Int.reduceSub, Int.reduceMul, Int.reduceLT, Int.reduceLE, Int.reduceGT, Int.reduceGE, Int.reduceEq, Int.reduceNe, Int.reduceToNat, Int.reduceTMod, Int.reduceTDiv, h2]
      refine wL_step ?_
      simp (disch := omega) only [go_sem, reduceIte, reduceDIte, reduceCtorEq, Nat.reduceBEq, Nat.reduceEqDiff, Nat.reduceAdd, Nat.reduceSub, Nat.reduceMul, Nat.reduceLT, Nat.reduceLeDiff, Nat.reduceBNe, Int.reduceNeg, Int.reduceAdd, Int.reduceSub, Int.reduceMul, Int.reduceLT, Int.reduceLE, Int.reduceGT, Int.reduceGE, Int.reduceEq, Int.reduceNe, Int.reduceToNat, Int.reduceTMod, Int.reduceTDiv, z2, e, List.map_cons, List.map_nil, rgD]
    · have e : clipS a b = [] := by simp only [clipS, clip1, h1, h2, if_false, List.append_nil]
      simp (disch := omega) only [go_sem, reduceIte, reduceDIte, reduceCtorEq, Nat.reduceBEq, Nat.reduceEqDiff, Nat.reduceAdd, Nat.reduceSub, Nat.reduceMul, Nat.reduceLT, Nat.reduceLeDiff, Nat.reduceBNe, Int.reduceNeg, Int.reduceAdd, Int.reduceSub, Int.reduceMul, Int.reduceLT, Int.reduceLE, Int.reduceGT, Int.reduceGE, Int.reduceEq, Int.reduceNe, Int.reduceToNat, Int.reduceTMod, Int.reduceTDiv, h2]
      refine wL_step ?_
      simp (disch := omega) only [go_sem, reduceIte, reduceDIte, reduceCtorEq, Nat.reduceBEq, Nat.reduceEqDiff, Nat.reduceAdd, Nat.reduceSub, Nat.reduceMul, Nat.reduceLT, Nat.reduceLeDiff, Nat.reduceBNe, Int.reduceNeg, Int.reduceAdd, Int.reduceSub, Int.reduceMul, Int.reduceLT, Int.reduceLE, Int.reduceGT, Int.reduceGE, Int.reduceEq, Int.reduceNe, Int.reduceToNat, Int.reduceTMod, Int.reduceTDiv, z2, e, List.map_cons, List.map_nil, rgD]
end Go.Proofs.YtjgbdlaecpkmhaaGreatDoor
set_option linter.unusedVariables false
set_option linter.unusedSimpArgs false
set_option maxRecDepth 100000
namespace Go.Proofs.YtjgbdlaecpkmhaaGreatDoor
open Go Nv Pat

theorem clip_len (a b : Int) : (clipS a b).length ≤ 2 := by
  unfold clipS clip1
  rw [List.length_append]
  split <;> split <;> simp
def hintK : Nat → Hint := fun i => if i = 3 then .own ⟨2, 154⟩ else .no
@[go_sem] theorem hintK_at (i : Nat) : hintK i = if i = 3 then .own ⟨2, 154⟩ else .no := nrfl rfl
def CharR (r : Int × Int) : Prop := (0 ≤ r.1 ∧ r.1 ≤ 1114111) ∧ 0 ≤ r.2 ∧ r.2 ≤ 1114111
theorem comp94 (s : List (Int × Int)) (hs : ∀ r, r ∈ s → CharR r) (hlen : s.length ≤ 100000) (σ : Nv.ST) :
    RCall Tryz.prog 121 [.d (setD s)] σ fun v σ' => ∃ g n τ, n = (compS s).length ∧ v = .own σ.length g 0 n ∧ σ' = σ ++ .arr g ⟨2, 154⟩ ((compS s).map rgD) :: τ := by
  refine fn121.rel hintK (Nat.le_refl _) ?_
  simp (disch := omega) only [go_sem, reduceIte, reduceDIte, reduceCtorEq, Nat.reduceBEq, Nat.reduceEqDiff, Nat.reduceAdd, Nat.reduceSub, Nat.reduceMul, Nat.reduceLT, Nat.reduceLeDiff, Nat.reduceBNe, Int.reduceNeg, Int.reduceAdd, Int.reduceSub, Int.reduceMul, Int.reduceLT, Int.reduceLE, Int.reduceGT, Int.reduceGE, Int.reduceEq, Int.reduceNe, Int.reduceToNat, Int.reduceTMod, Int.reduceTDiv, setD]
  refine wL_ind (fun (k : Nat) fr σ' => k ≤ s.length ∧ fr 7 = .d (.list 2 (s.map rgD)) ∧ fr 8 = .d (.int .i64 s.length) ∧ fr 9 = .d (.int .i64 k) ∧
    ∃ (out : List (Int × Int)) (low : Int) (g n : Nat) (rest : Nv.ST), n = out.length ∧ out.length ≤ 2 * k ∧ out ++ compL low (s.drop k) = compS s ∧ (0 ≤ low ∧ low ≤ 1114112) ∧ fr 3 = .own σ.length g 0 n ∧ fr 4 = .d (.int .i32 low) ∧
      σ' = σ ++ .arr g ⟨2, 154⟩ (out.map rgD) :: rest) (fun k => s.length - k) ?_ 0 ?_
  · rintro k fr σ' ⟨hk, f7, f8, f9, out, low, g, n, rest, hn, hol, hc, hlow, f3, f4, rfl⟩ ih
    have hom : (out.map rgD).length = n := by simp [hn]
    have hta := take_all (out.map rgD) n hom
    by_cases hlt : k < s.length
    · obtain ⟨r, hr⟩ : ∃ r, r = s.getD k default := ⟨_, rfl⟩
      have hd : s.drop k = r :: s.drop (k + 1) := by rw [hr]; exact drop_getD s k hlt
      have hrm : r ∈ s := by rw [hr]; exact getD_mem s k hlt
      obtain ⟨⟨r0, r1⟩, r2, r3⟩ := hs r hrm
      have hw1 : IntKind.i32.wrap (r.1 - 1) = r.1 - 1 := wrap_i32 (by omega) (by omega)
      have hw2 : IntKind.i32.wrap (r.2 + 1) = r.2 + 1 := wrap_i32 (by omega) (by omega)
      have hcl := clip_len low (r.1 - 1)
      have hb1 : (n + (clipS low (r.1 - 1)).length) * 8 ≤ 140737488355328 := by omega
      rw [hd, compL] at hc
      simp (disch := omega) only [go_sem, reduceIte, reduceDIte, reduceCtorEq, Nat.reduceBEq, Nat.reduceEqDiff, Nat.reduceAdd, Nat.reduceSub, Nat.reduceMul, Nat.reduceLT, Nat.reduceLeDiff, Nat.reduceBNe, Int.reduceNeg, Int.reduceAdd, Int.reduceSub, Int.reduceMul, Int.reduceLT, Int.reduceLE, Int.reduceGT, Int.reduceGE, Int.reduceEq, Int.reduceNe, Int.reduceToNat, Int.reduceTMod, Int.reduceTDiv, f3, f4, f7, f8, f9, hlt, rgD, ← hr, hw1]
      refine (clip92 low (r.1 - 1)).at ?_
      simp (disch := omega) only [go_sem, reduceIte, reduceDIte, reduceCtorEq, Nat.reduceBEq, Nat.reduceEqDiff, Nat.reduceAdd, Nat.reduceSub, Nat.reduceMul, Nat.reduceLT, Nat.reduceLeDiff, Nat.reduceBNe, Int.reduceNeg, Int.reduceAdd, Int.reduceSub, Int.reduceMul, Int.reduceLT, Int.reduceLE, Int.reduceGT, Int.reduceGE, Int.reduceEq, Int.reduceNe, Int.reduceToNat, Int.reduceTMod, Int.reduceTDiv, setD, hom, hta, List.length_map, hb1, hw2, Nat.zero_add, Nat.le_refl, f9, List.append_assoc, List.cons_append, List.nil_append, List.length_append, stGet_app, stGet_app0, stSet_app, stSet_app0]
      refine ih (k + 1) _ _ (by omega) ⟨by omega, ?_, ?_, ?_, out ++ clipS low (r.1 - 1), r.2 + 1, g + 1, n + (clipS low (r.1 - 1)).length, ?rr, by rw [List.length_append, hn], by rw [List.length_append]; omega, by rw [← hc]; simp, by omega, ?_, ?_, ?_⟩
      rotate_right 1
      · rw [List.map_append]
      · simp (disch := omega) only [go_sem, reduceIte, reduceDIte, reduceCtorEq, Nat.reduceBEq, Nat.reduceEqDiff, Nat.reduceAdd, Nat.reduceSub, Nat.reduceMul, Nat.reduceLT, Nat.reduceLeDiff, Nat.reduceBNe, Int.reduceNeg, Int.reduceAdd, Int.reduceSub, Int.reduceMul, Int.reduceLT, Int.reduceLE, Int.reduceGT, Int.reduceGE, Int.reduceEq, Int.reduceNe, Int.reduceToNat, Int.reduceTMod, Int.reduceTDiv, f7]
      · simp (disch := omega) only [go_sem, reduceIte, reduceDIte, reduceCtorEq, Nat.reduceBEq, Nat.reduceEqDiff, Nat.reduceAdd, Nat.reduceSub, Nat.reduceMul, Nat.reduceLT, Nat.reduceLeDiff, Nat.reduceBNe, Int.reduceNeg, Int.reduceAdd, Int.reduceSub, Int.reduceMul, Int.reduceLT, Int.reduceLE, Int.reduceGT, Int.reduceGE, Int.reduceEq, Int.reduceNe, Int.reduceToNat, Int.reduceTMod, Int.reduceTDiv, f8]
      · simp (disch := omega) only [go_sem, reduceIte, reduceDIte, reduceCtorEq, Nat.reduceBEq, Nat.reduceEqDiff, Nat.reduceAdd, Nat.reduceSub, Nat.reduceMul, Nat.reduceLT, Nat.reduceLeDiff, Nat.reduceBNe, Int.reduceNeg, Int.reduceAdd, Int.reduceSub, Int.reduceMul, Int.reduceLT, Int.reduceLE, Int.reduceGT, Int.reduceGE, Int.reduceEq, Int.reduceNe, Int.reduceToNat, Int.reduceTMod, Int.reduceTDiv]
      · simp (disch := omega) only [go_sem, reduceIte, reduceDIte, reduceCtorEq, Nat.reduceBEq, Nat.reduceEqDiff, Nat.reduceAdd, Nat.reduceSub, Nat.reduceMul, Nat.reduceLT, Nat.reduceLeDiff, Nat.reduceBNe, Int.reduceNeg, Int.reduceAdd, Int.reduceSub, Int.reduceMul, Int.reduceLT, Int.reduceLE, Int.reduceGT, Int.reduceGE, Int.reduceEq, Int.reduceNe, Int.reduceToNat, Int.reduceTMod, Int.reduceTDiv]
      · simp (disch := omega) only [go_sem, reduceIte, reduceDIte, reduceCtorEq, Nat.reduceBEq, Nat.reduceEqDiff, Nat.reduceAdd, Nat.reduceSub, Nat.reduceMul, Nat.reduceLT, Nat.reduceLeDiff, Nat.reduceBNe, Int.reduceNeg, Int.reduceAdd, Int.reduceSub, Int.reduceMul, Int.reduceLT, Int.reduceLE, Int.reduceGT, Int.reduceGE, Int.reduceEq, Int.reduceNe, Int.reduceToNat, Int.reduceTMod, Int.reduceTDiv]
    · have hd : s.drop k = [] := List.drop_of_length_le (by omega)
      rw [hd, compL] at hc
      have hcl := clip_len low 1114111
      have hb1 : (n + (clipS low 1114111).length) * 8 ≤ 140737488355328 := by omega
      simp (disch := omega) only [go_sem, reduceIte, reduceDIte, reduceCtorEq, Nat.reduceBEq, Nat.reduceEqDiff, Nat.reduceAdd, Nat.reduceSub, Nat.reduceMul, Nat.reduceLT, Nat.reduceLeDiff, Nat.reduceBNe, Int.reduceNeg, Int.reduceAdd, Int.reduceSub, Int.reduceMul, Int.reduceLT, Int.reduceLE, Int.reduceGT, Int.reduceGE, Int.reduceEq, Int.reduceNe, Int.reduceToNat, Int.reduceTMod, Int.reduceTDiv, f3, f4, f7, f8, f9, hlt]
      refine (clip92 low 1114111).at ?_
      simp (disch := omega) only [go_sem, reduceIte, reduceDIte, reduceCtorEq, Nat.reduceBEq, Nat.reduceEqDiff, Nat.reduceAdd, Nat.reduceSub, Nat.reduceMul, Nat.reduceLT, Nat.reduceLeDiff, Nat.reduceBNe, Int.reduceNeg, Int.reduceAdd, Int.reduceSub, Int.reduceMul, Int.reduceLT, Int.reduceLE, Int.reduceGT, Int.reduceGE, Int.reduceEq, Int.reduceNe, Int.reduceToNat, Int.reduceTMod, Int.reduceTDiv, setD, hom, hta, List.length_map, hb1, Nat.zero_add, Nat.le_refl, List.append_assoc, List.cons_append, List.nil_append, List.length_append, stGet_app, stGet_app0, stSet_app, stSet_app0]
      exact ⟨_, rfl, g + 1, n + (clipS low 1114111).length, rest, by rw [← hc, List.length_append, hn], rfl, by rw [← hc, List.map_append]⟩
  · refine ⟨by omega, ?_, ?_, ?_, [], 0, 0, 0, [], rfl, by simp, by simp [compS], by omega, ?_, ?_, ?_⟩
    · simp (disch := omega) only [go_sem, reduceIte, reduceDIte, reduceCtorEq, Nat.reduceBEq, Nat.reduceEqDiff, Nat.reduceAdd, Nat.reduceSub, Nat.reduceMul, Nat.reduceLT, Nat.reduceLeDiff, Nat.reduceBNe, Int.reduceNeg, Int.reduceAdd, Int.reduceSub, Int.reduceMul, Int.reduceLT, Int.reduceLE, Int.reduceGT, Int.reduceGE, Int.reduceEq, Int.reduceNe, Int.reduceToNat, Int.reduceTMod, Int.reduceTDiv]
    · simp (disch := omega) only [go_sem, reduceIte, reduceDIte, reduceCtorEq, Nat.reduceBEq, Nat.reduceEqDiff, Nat.reduceAdd, Nat.reduceSub, Nat.reduceMul, Nat.reduceLT, Nat.reduceLeDiff, Nat.reduceBNe, Int.reduceNeg, Int.reduceAdd, Int.reduceSub, Int.reduceMul, Int.reduceLT, Int.reduceLE, Int.reduceGT, Int.reduceGE, Int.reduceEq, Int.reduceNe, Int.reduceToNat, Int.reduceTMod, Int.reduceTDiv]
    · simp (disch := omega) only [go_sem, reduceIte, reduceDIte, reduceCtorEq, Nat.reduceBEq, Nat.reduceEqDiff, Nat.reduceAdd, Nat.reduceSub, Nat.reduceMul, Nat.reduceLT, Nat.reduceLeDiff, Nat.reduceBNe, Int.reduceNeg, Int.reduceAdd, Int.reduceSub, Int.reduceMul, Int.reduceLT, Int.reduceLE, Int.reduceGT, Int.reduceGE, Int.reduceEq, Int.reduceNe, Int.reduceToNat, Int.reduceTMod, Int.reduceTDiv]
    · simp (disch := omega) only [go_sem, reduceIte, reduceDIte, reduceCtorEq, Nat.reduceBEq, Nat.reduceEqDiff, Nat.reduceAdd, Nat.reduceSub, Nat.reduceMul, Nat.reduceLT, Nat.reduceLeDiff, Nat.reduceBNe, Int.reduceNeg, Int.reduceAdd, Int.reduceSub, Int.reduceMul, Int.reduceLT, Int.reduceLE, Int.reduceGT, Int.reduceGE, Int.reduceEq, Int.reduceNe, Int.reduceToNat, Int.reduceTMod, Int.reduceTDiv]
    · simp (disch := omega) only [go_sem, reduceIte, reduceDIte, reduceCtorEq, Nat.reduceBEq, Nat.reduceEqDiff, Nat.reduceAdd, Nat.reduceSub, Nat.reduceMul, Nat.reduceLT, Nat.reduceLeDiff, Nat.reduceBNe, Int.reduceNeg, Int.reduceAdd, Int.reduceSub, Int.reduceMul, Int.reduceLT, Int.reduceLE, Int.reduceGT, Int.reduceGE, Int.reduceEq, Int.reduceNe, Int.reduceToNat, Int.reduceTMod, Int.reduceTDiv]
    · rfl
end Go.Proofs.YtjgbdlaecpkmhaaGreatDoor
set_option linter.unusedVariables false
set_option linter.unusedSimpArgs false
set_option maxRecDepth 100000
namespace Go.Proofs.YtjgbdlaecpkmhaaGreatDoor
open Go Nv Pat

/-- What the sorting of ranges in place does. -/
def SortC (sort : List (Int × Int) → List (Int × Int)) : Prop := ∀ (s : List (Int × Int)) (b g : Nat) (σ : Nv.ST), b < σ.length → stGet σ b = .arr g ⟨2, 154⟩ (s.map rgD) → 0 < s.length → s.length ≤ 100000 →
  SCall Tryz.prog 122 [.own b g 0 s.length, .d (.func (.func 123))] σ (.tuple []) (stSet σ b (.arr g ⟨2, 154⟩ ((sort s).map rgD)))

theorem take_fold (l : List (Int × Int)) (k : Nat) (h : k < l.length) : (l.take (k + 1)).foldl joinR [] = joinR ((l.take k).foldl joinR []) (l.getD k default) := by
  rw [take_succ' l k h, List.foldl_append]; rfl
theorem joinR_nil' (r : Int × Int) : joinR [] r = [r] := by simp [joinR]
theorem joinR_len (l : List (Int × Int)) (r : Int × Int) : (joinR l r).length ≤ l.length + 1 := by unfold joinR; split <;> simp
theorem joinR_char {l : List (Int × Int)} {r : Int × Int} (hl : ∀ q, q ∈ l → CharR q) (hr : CharR r) : ∀ q, q ∈ joinR l r → CharR q := by
  intro q hq
  unfold joinR at hq
  split at hq
  · rename_i h
    have hd := hl _ (getD_mem l (l.length - 1) (by omega))
    rcases List.mem_or_eq_of_mem_set hq with hq | rfl
    · exact hl q hq
    · obtain ⟨h1, h2⟩ := hd
      obtain ⟨h3, h4⟩ := hr
      exact ⟨h1, by simp only; omega⟩
  · rcases List.mem_append.1 hq with hq | hq
    · exact hl q hq
    · rw [List.mem_singleton] at hq; rw [hq]; exact hr

theorem norm93 (sort : List (Int × Int) → List (Int × Int)) (hS : SortC sort) (s : List (Int × Int)) (hs : ∀ r, r ∈ sort s → CharR r) (hsl : (sort s).length = s.length) (hlen : s.length ≤ 100000) (h0 : 0 < s.length) (b g n : Nat) (hn : n = s.length) (σ : Nv.ST) (hb : b < σ.length)
    (hst : stGet σ b = .arr g ⟨2, 154⟩ (s.map rgD)) :
    RCall Tryz.prog 120 [.own b g 0 n] σ fun v σ' => ∃ g' m τ, m = (normS sort s).length ∧ v = .own σ.length g' 0 m ∧ σ' = stSet σ b (.arr g ⟨2, 154⟩ ((sort s).map rgD)) ++ .arr g' ⟨2, 154⟩ ((normS sort s).map rgD) :: τ := by
  refine fn120.rel hintK (Nat.le_refl _) ?_
  have hcall := hS s b g σ hb hst h0 hlen
  rw [← hn] at hcall
  simp (disch := omega) only [go_sem, reduceIte, reduceDIte, reduceCtorEq, Nat.reduceBEq, Nat.reduceEqDiff, Nat.reduceAdd, Nat.reduceSub, Nat.reduceMul, Nat.reduceLT, Nat.reduceLeDiff, Nat.reduceBNe, Int.reduceNeg, Int.reduceAdd, Int.reduceSub, Int.reduceMul, Int.reduceLT, Int.reduceLE, Int.reduceGT, Int.reduceGE, Int.reduceEq, Int.reduceNe, Int.reduceToNat, Int.reduceTMod, Int.reduceTDiv]
  refine hcall.at ?_
  obtain ⟨σ1, hσ1⟩ : ∃ σ1, σ1 = stSet σ b (.arr g ⟨2, 154⟩ ((sort s).map rgD)) := ⟨_, rfl⟩
  have hl1 : List.length σ1 = List.length σ := by rw [hσ1]; simp [stSet]
  have hg1 : stGet σ1 b = .arr g ⟨2, 154⟩ ((sort s).map rgD) := by rw [hσ1]; simp [stGet, stSet, List.getD_eq_getElem?_getD, hb]
  have hb1 : b < List.length σ1 := by omega
  rw [← hσ1]
  clear hσ1
  rw [← hl1]
  obtain ⟨l, hl⟩ : ∃ l, l = sort s := ⟨_, rfl⟩
  have hfin : normS sort s = l.foldl joinR [] := by rw [normS, hl]
  rw [hfin]
  rw [← hl] at hs hsl hg1
  have hgl : ∀ X : Nv.ST, stGet (σ1 ++ X) b = .arr g ⟨2, 154⟩ (l.map rgD) := fun X => by rw [stGet_left _ _ _ hb1, hg1]
  simp (disch := omega) only [go_sem, reduceIte, reduceDIte, reduceCtorEq, Nat.reduceBEq, Nat.reduceEqDiff, Nat.reduceAdd, Nat.reduceSub, Nat.reduceMul, Nat.reduceLT, Nat.reduceLeDiff, Nat.reduceBNe, Int.reduceNeg, Int.reduceAdd, Int.reduceSub, Int.reduceMul, Int.reduceLT, Int.reduceLE, Int.reduceGT, Int.reduceGE, Int.reduceEq, Int.reduceNe, Int.reduceToNat, Int.reduceTMod, Int.reduceTDiv, hgl]
  refine wL_ind (fun (k : Nat) fr σ' => k ≤ l.length ∧ fr 9 = .own b g 0 n ∧ fr 10 = .d (.int .i64 n) ∧ fr 11 = .d (.int .i64 k) ∧
    ∃ (out : List (Int × Int)) (g' m : Nat) (rest : Nv.ST), m = out.length ∧ out.length ≤ k ∧ out = (l.take k).foldl joinR [] ∧ (∀ q, q ∈ out → CharR q) ∧ fr 3 = .own (List.length σ1) g' 0 m ∧
      σ' = σ1 ++ .arr g' ⟨2, 154⟩ (out.map rgD) :: rest) (fun k => l.length - k) ?_ 0 ?_
  · rintro k fr σ' ⟨hk, f9, f10, f11, out, g', m, rest, hm, hol, ho, hoc, f3, rfl⟩ ih
    have hom : (out.map rgD).length = m := by simp [hm]
    have hta := take_all (out.map rgD) m hom
    by_cases hlt : k < l.length
    · obtain ⟨r, hr⟩ : ∃ r, r = l.getD k default := ⟨_, rfl⟩
      have hrm : r ∈ l := by rw [hr]; exact getD_mem l k hlt
      have hrc := hs r hrm
      have hgk : (l.map rgD).getD k default = rgD r := by rw [hr]; simp [List.getD_eq_getElem?_getD, hlt]
      have hlt2 : k < n := by omega
      have hlk : k < (l.map rgD).length := by simpa using hlt
      have hnext : (l.take (k + 1)).foldl joinR [] = joinR out r := by rw [take_fold l k hlt, ← ho, ← hr]
      simp (disch := omega) only [go_sem, reduceIte, reduceDIte, reduceCtorEq, Nat.reduceBEq, Nat.reduceEqDiff, Nat.reduceAdd, Nat.reduceSub, Nat.reduceMul, Nat.reduceLT, Nat.reduceLeDiff, Nat.reduceBNe, Int.reduceNeg, Int.reduceAdd, Int.reduceSub, Int.reduceMul, Int.reduceLT, Int.reduceLE, Int.reduceGT, Int.reduceGE, Int.reduceEq, Int.reduceNe, Int.reduceToNat, Int.reduceTMod, Int.reduceTDiv, f3, f9, f10, f11, hlt, hlt2, hgl, hgk, hlk, rgD, Nat.zero_add, List.append_assoc, List.cons_append, List.nil_append, List.length_append, stGet_app, stGet_app0, stSet_app, stSet_app0]
      by_cases hm0 : m = 0
      · have hle0 : m ≤ 0 := by omega
        have ho0 : out = [] := List.eq_nil_of_length_eq_zero (by omega)
        have hz : ¬ (0 : Int) < (m : Int) := by omega
        have hnx : joinR out r = [r] := by rw [ho0, joinR_nil']
        have hb1' : (m + 1) * 8 ≤ 140737488355328 := by omega
        rw [ho0] at hom hta ⊢
        simp (disch := omega) only [go_sem, reduceIte, reduceDIte, reduceCtorEq, Nat.reduceBEq, Nat.reduceEqDiff, Nat.reduceAdd, Nat.reduceSub, Nat.reduceMul, Nat.reduceLT, Nat.reduceLeDiff, Nat.reduceBNe, Int.reduceNeg, Int.reduceAdd, Int.reduceSub, Int.reduceMul, Int.reduceLT, Int.reduceLE, Int.reduceGT, Int.reduceGE, Int.reduceEq, Int.reduceNe, Int.reduceToNat, Int.reduceTMod, Int.reduceTDiv, hz, f3, f11, hom, hta, hb1', hle0, hm0, List.length_nil, List.length_cons, List.nil_append, rgD, Nat.zero_add, Nat.le_refl, List.append_assoc, List.cons_append, List.nil_append, List.length_append, stGet_app, stGet_app0, stSet_app, stSet_app0]
        refine ih (k + 1) _ _ (by omega) ⟨by omega, ?_, ?_, ?_, [r], g' + 1, 1, ?r1, by simp, by simp, by rw [hnext, hnx], by simpa using hrc, ?_, ?_⟩
        rotate_right 1
        · rfl
        · simp (disch := omega) only [go_sem, reduceIte, reduceDIte, reduceCtorEq, Nat.reduceBEq, Nat.reduceEqDiff, Nat.reduceAdd, Nat.reduceSub, Nat.reduceMul, Nat.reduceLT, Nat.reduceLeDiff, Nat.reduceBNe, Int.reduceNeg, Int.reduceAdd, Int.reduceSub, Int.reduceMul, Int.reduceLT, Int.reduceLE, Int.reduceGT, Int.reduceGE, Int.reduceEq, Int.reduceNe, Int.reduceToNat, Int.reduceTMod, Int.reduceTDiv, f9]
        · simp (disch := omega) only [go_sem, reduceIte, reduceDIte, reduceCtorEq, Nat.reduceBEq, Nat.reduceEqDiff, Nat.reduceAdd, Nat.reduceSub, Nat.reduceMul, Nat.reduceLT, Nat.reduceLeDiff, Nat.reduceBNe, Int.reduceNeg, Int.reduceAdd, Int.reduceSub, Int.reduceMul, Int.reduceLT, Int.reduceLE, Int.reduceGT, Int.reduceGE, Int.reduceEq, Int.reduceNe, Int.reduceToNat, Int.reduceTMod, Int.reduceTDiv, f10]
        · simp (disch := omega) only [go_sem, reduceIte, reduceDIte, reduceCtorEq, Nat.reduceBEq, Nat.reduceEqDiff, Nat.reduceAdd, Nat.reduceSub, Nat.reduceMul, Nat.reduceLT, Nat.reduceLeDiff, Nat.reduceBNe, Int.reduceNeg, Int.reduceAdd, Int.reduceSub, Int.reduceMul, Int.reduceLT, Int.reduceLE, Int.reduceGT, Int.reduceGE, Int.reduceEq, Int.reduceNe, Int.reduceToNat, Int.reduceTMod, Int.reduceTDiv]
        · simp (disch := omega) only [go_sem, reduceIte, reduceDIte, reduceCtorEq, Nat.reduceBEq, Nat.reduceEqDiff, Nat.reduceAdd, Nat.reduceSub, Nat.reduceMul, Nat.reduceLT, Nat.reduceLeDiff, Nat.reduceBNe, Int.reduceNeg, Int.reduceAdd, Int.reduceSub, Int.reduceMul, Int.reduceLT, Int.reduceLE, Int.reduceGT, Int.reduceGE, Int.reduceEq, Int.reduceNe, Int.reduceToNat, Int.reduceTMod, Int.reduceTDiv]
      · have hz : (0 : Int) < (m : Int) := by omega
        have hmi : IntKind.i64.wrap ((m : Int) - 1) = ((m - 1 : Nat) : Int) := by rw [wrap_id (by omega) (by omega)]; omega
        obtain ⟨q, hq⟩ : ∃ q, q = out.getD (m - 1) default := ⟨_, rfl⟩
        have hqc := hoc q (by rw [hq]; exact getD_mem out (m - 1) (by omega))
        have hqk : (out.map rgD).getD (m - 1) default = rgD q := by rw [hq]; simp [List.getD_eq_getElem?_getD, show m - 1 < out.length by omega]
        have hql : m - 1 < (out.map rgD).length := by omega
        have hqm : m - 1 < m := by omega
        obtain ⟨⟨q0, q1⟩, q2, q3⟩ := hqc
        have hw : IntKind.i32.wrap (q.2 + 1) = q.2 + 1 := wrap_i32 (by omega) (by omega)
        simp (disch := omega) only [go_sem, reduceIte, reduceDIte, reduceCtorEq, Nat.reduceBEq, Nat.reduceEqDiff, Nat.reduceAdd, Nat.reduceSub, Nat.reduceMul, Nat.reduceLT, Nat.reduceLeDiff, Nat.reduceBNe, Int.reduceNeg, Int.reduceAdd, Int.reduceSub, Int.reduceMul, Int.reduceLT, Int.reduceLE, Int.reduceGT, Int.reduceGE, Int.reduceEq, Int.reduceNe, Int.reduceToNat, Int.reduceTMod, Int.reduceTDiv, hz, f3, hmi, hqk, hql, hqm, hom, hw, rgD, Nat.zero_add, List.append_assoc, List.cons_append, List.nil_append, List.length_append, stGet_app, stGet_app0, stSet_app, stSet_app0]
        by_cases hle : r.1 ≤ q.2 + 1
        · have hnx : joinR out r = out.set (m - 1) (q.1, max q.2 r.2) := by
            unfold joinR
            rw [← hm, ← hq, if_pos ⟨by omega, hle⟩]
          simp (disch := omega) only [go_sem, reduceIte, reduceDIte, reduceCtorEq, Nat.reduceBEq, Nat.reduceEqDiff, Nat.reduceAdd, Nat.reduceSub, Nat.reduceMul, Nat.reduceLT, Nat.reduceLeDiff, Nat.reduceBNe, Int.reduceNeg, Int.reduceAdd, Int.reduceSub, Int.reduceMul, Int.reduceLT, Int.reduceLE, Int.reduceGT, Int.reduceGE, Int.reduceEq, Int.reduceNe, Int.reduceToNat, Int.reduceTMod, Int.reduceTDiv, hle, f3, f11, hmi, hqk, hql, hqm, hom, max_if, rgD, Nat.zero_add, List.append_assoc, List.cons_append, List.nil_append, List.length_append, stGet_app, stGet_app0, stSet_app, stSet_app0]
          refine ih (k + 1) _ _ (by omega) ⟨by omega, ?_, ?_, ?_, joinR out r, g', m, ?r2, by rw [hnx, List.length_set, hm], by rw [hnx, List.length_set]; omega, by rw [hnext], joinR_char hoc hrc, ?_, ?_⟩
          rotate_right 1
          · rw [hnx, List.map_set]; rfl
          · simp (disch := omega) only [go_sem, reduceIte, reduceDIte, reduceCtorEq, Nat.reduceBEq, Nat.reduceEqDiff, Nat.reduceAdd, Nat.reduceSub, Nat.reduceMul, Nat.reduceLT, Nat.reduceLeDiff, Nat.reduceBNe, Int.reduceNeg, Int.reduceAdd, Int.reduceSub, Int.reduceMul, Int.reduceLT, Int.reduceLE, Int.reduceGT, Int.reduceGE, Int.reduceEq, Int.reduceNe, Int.reduceToNat, Int.reduceTMod, Int.reduceTDiv, f9]
          · simp (disch := omega) only [go_sem, reduceIte, reduceDIte, reduceCtorEq, Nat.reduceBEq, Nat.reduceEqDiff, Nat.reduceAdd, Nat.reduceSub, Nat.reduceMul, Nat.reduceLT, Nat.reduceLeDiff, Nat.reduceBNe, Int.reduceNeg, Int.reduceAdd, Int.reduceSub, Int.reduceMul, Int.reduceLT, Int.reduceLE, Int.reduceGT, Int.reduceGE, Int.reduceEq, Int.reduceNe, Int.reduceToNat, Int.reduceTMod, Int.reduceTDiv, f10]
          · simp (disch := omega) only [go_sem, reduceIte, reduceDIte, reduceCtorEq, Nat.reduceBEq, Nat.reduceEqDiff, Nat.reduceAdd, Nat.reduceSub, Nat.reduceMul, Nat.reduceLT, Nat.reduceLeDiff, Nat.reduceBNe, Int.reduceNeg, Int.reduceAdd, Int.reduceSub, Int.reduceMul, Int.reduceLT, Int.reduceLE, Int.reduceGT, Int.reduceGE, Int.reduceEq, Int.reduceNe, Int.reduceToNat, Int.reduceTMod, Int.reduceTDiv]
          · simp (disch := omega) only [go_sem, reduceIte, reduceDIte, reduceCtorEq, Nat.reduceBEq, Nat.reduceEqDiff, Nat.reduceAdd, Nat.reduceSub, Nat.reduceMul, Nat.reduceLT, Nat.reduceLeDiff, Nat.reduceBNe, Int.reduceNeg, Int.reduceAdd, Int.reduceSub, Int.reduceMul, Int.reduceLT, Int.reduceLE, Int.reduceGT, Int.reduceGE, Int.reduceEq, Int.reduceNe, Int.reduceToNat, Int.reduceTMod, Int.reduceTDiv, f3]
        · have hnx : joinR out r = out ++ [r] := by
            unfold joinR
            rw [← hm, ← hq, if_neg (by omega)]
          have hb1' : (m + 1) * 8 ≤ 140737488355328 := by omega
          simp (disch := omega) only [go_sem, reduceIte, reduceDIte, reduceCtorEq, Nat.reduceBEq, Nat.reduceEqDiff, Nat.reduceAdd, Nat.reduceSub, Nat.reduceMul, Nat.reduceLT, Nat.reduceLeDiff, Nat.reduceBNe, Int.reduceNeg, Int.reduceAdd, Int.reduceSub, Int.reduceMul, Int.reduceLT, Int.reduceLE, Int.reduceGT, Int.reduceGE, Int.reduceEq, Int.reduceNe, Int.reduceToNat, Int.reduceTMod, Int.reduceTDiv, hle, f3, f11, hom, hta, hb1', rgD, Nat.zero_add, Nat.le_refl, List.append_assoc, List.cons_append, List.nil_append, List.length_append, stGet_app, stGet_app0, stSet_app, stSet_app0]
          refine ih (k + 1) _ _ (by omega) ⟨by omega, ?_, ?_, ?_, joinR out r, g' + 1, m + 1, ?r3, by rw [hnx, List.length_append, hm]; rfl, by rw [hnx, List.length_append]; simp; omega, by rw [hnext], joinR_char hoc hrc, ?_, ?_⟩
          rotate_right 1
          · rw [hnx, List.map_append]; rfl
          · simp (disch := omega) only [go_sem, reduceIte, reduceDIte, reduceCtorEq, Nat.reduceBEq, Nat.reduceEqDiff, Nat.reduceAdd, Nat.reduceSub, Nat.reduceMul, Nat.reduceLT, Nat.reduceLeDiff, Nat.reduceBNe, Int.reduceNeg, Int.reduceAdd, Int.reduceSub, Int.reduceMul, Int.reduceLT, Int.reduceLE, Int.reduceGT, Int.reduceGE, Int.reduceEq, Int.reduceNe, Int.reduceToNat, Int.reduceTMod, Int.reduceTDiv, f9]
          · simp (disch := omega) only [go_sem, reduceIte, reduceDIte, reduceCtorEq, Nat.reduceBEq, Nat.reduceEqDiff, Nat.reduceAdd, Nat.reduceSub, Nat.reduceMul, Nat.reduceLT, Nat.reduceLeDiff, Nat.reduceBNe, Int.reduceNeg, Int.reduceAdd, Int.reduceSub, Int.reduceMul, Int.reduceLT, Int.reduceLE, Int.reduceGT, Int.reduceGE, Int.reduceEq, Int.reduceNe, Int.reduceToNat, Int.reduceTMod, Int.reduceTDiv, f10]
          · simp (disch := omega) only [go_sem, reduceIte, reduceDIte, reduceCtorEq, Nat.reduceBEq, Nat.reduceEqDiff, Nat.reduceAdd, Nat.reduceSub, Nat.reduceMul, Nat.reduceLT, Nat.reduceLeDiff, Nat.reduceBNe, Int.reduceNeg, Int.reduceAdd, Int.reduceSub, Int.reduceMul, Int.reduceLT, Int.reduceLE, Int.reduceGT, Int.reduceGE, Int.reduceEq, Int.reduceNe, Int.reduceToNat, Int.reduceTMod, Int.reduceTDiv]
          · simp (disch := omega) only [go_sem, reduceIte, reduceDIte, reduceCtorEq, Nat.reduceBEq, Nat.reduceEqDiff, Nat.reduceAdd, Nat.reduceSub, Nat.reduceMul, Nat.reduceLT, Nat.reduceLeDiff, Nat.reduceBNe, Int.reduceNeg, Int.reduceAdd, Int.reduceSub, Int.reduceMul, Int.reduceLT, Int.reduceLE, Int.reduceGT, Int.reduceGE, Int.reduceEq, Int.reduceNe, Int.reduceToNat, Int.reduceTMod, Int.reduceTDiv]
    · have ek : l.take k = l := List.take_of_length_le (by omega)
      have hlt2 : ¬ k < n := by omega
      rw [ek] at ho
      rw [← ho]
      simp (disch := omega) only [go_sem, reduceIte, reduceDIte, reduceCtorEq, Nat.reduceBEq, Nat.reduceEqDiff, Nat.reduceAdd, Nat.reduceSub, Nat.reduceMul, Nat.reduceLT, Nat.reduceLeDiff, Nat.reduceBNe, Int.reduceNeg, Int.reduceAdd, Int.reduceSub, Int.reduceMul, Int.reduceLT, Int.reduceLE, Int.reduceGT, Int.reduceGE, Int.reduceEq, Int.reduceNe, Int.reduceToNat, Int.reduceTMod, Int.reduceTDiv, f3, f9, f10, f11, hlt2, List.append_assoc, List.cons_append, List.nil_append, List.length_append, stGet_app, stGet_app0, stSet_app, stSet_app0]
      exact ⟨_, rfl, g', m, rest, hm, rfl, rfl⟩
  · refine ⟨by omega, ?_, ?_, ?_, [], 0, 0, [], rfl, by simp, by simp, by simp, ?_, ?_⟩
    · simp (disch := omega) only [go_sem, reduceIte, reduceDIte, reduceCtorEq, Nat.reduceBEq, Nat.reduceEqDiff, Nat.reduceAdd, Nat.reduceSub, Nat.reduceMul, Nat.reduceLT, Nat.reduceLeDiff, Nat.reduceBNe, Int.reduceNeg, Int.reduceAdd, Int.reduceSub, Int.reduceMul, Int.reduceLT, Int.reduceLE, Int.reduceGT, Int.reduceGE, Int.reduceEq, Int.reduceNe, Int.reduceToNat, Int.reduceTMod, Int.reduceTDiv]
    · simp (disch := omega) only [go_sem, reduceIte, reduceDIte, reduceCtorEq, Nat.reduceBEq, Nat.reduceEqDiff, Nat.reduceAdd, Nat.reduceSub, Nat.reduceMul, Nat.reduceLT, Nat.reduceLeDiff, Nat.reduceBNe, Int.reduceNeg, Int.reduceAdd, Int.reduceSub, Int.reduceMul, Int.reduceLT, Int.reduceLE, Int.reduceGT, Int.reduceGE, Int.reduceEq, Int.reduceNe, Int.reduceToNat, Int.reduceTMod, Int.reduceTDiv]
    · simp (disch := omega) only [go_sem, reduceIte, reduceDIte, reduceCtorEq, Nat.reduceBEq, Nat.reduceEqDiff, Nat.reduceAdd, Nat.reduceSub, Nat.reduceMul, Nat.reduceLT, Nat.reduceLeDiff, Nat.reduceBNe, Int.reduceNeg, Int.reduceAdd, Int.reduceSub, Int.reduceMul, Int.reduceLT, Int.reduceLE, Int.reduceGT, Int.reduceGE, Int.reduceEq, Int.reduceNe, Int.reduceToNat, Int.reduceTMod, Int.reduceTDiv]
    · simp (disch := omega) only [go_sem, reduceIte, reduceDIte, reduceCtorEq, Nat.reduceBEq, Nat.reduceEqDiff, Nat.reduceAdd, Nat.reduceSub, Nat.reduceMul, Nat.reduceLT, Nat.reduceLeDiff, Nat.reduceBNe, Int.reduceNeg, Int.reduceAdd, Int.reduceSub, Int.reduceMul, Int.reduceLT, Int.reduceLE, Int.reduceGT, Int.reduceGE, Int.reduceEq, Int.reduceNe, Int.reduceToNat, Int.reduceTMod, Int.reduceTDiv]
    · rfl
end Go.Proofs.YtjgbdlaecpkmhaaGreatDoor
