/- Part of a proof about the functions of this seat. -/
import Derived.Test.YtebejiilpedlmaaGreatDoorQG31
import Derived.Test.YtebejiilpedlmaaGreatDoorPatA
import Derived.Test.YtebejiilpedlmaaGreatDoorPj31
set_option linter.unusedVariables false
set_option linter.unusedSimpArgs false
set_option maxRecDepth 100000
namespace Go.Proofs.YtebejiilpedlmaaGreatDoor
open Go Nv Pat

/- The parser's small functions. -/
def boxP (l : List Int) (i : Nat) : Blk := .box 53 [.d (.list 1 (runesD l)), .d (.int .i64 i)]
def badV : AV := .iface 49 (.agg [])

/-- What a function of the parser does: what it hands back and what is left of the text; or it gives up. -/
def PS (f : FuncId) (args : List AV) (l r : List Int) (out : Option (AV × List Int)) : Prop :=
  ∀ (A B : Nv.ST) (u : List Int), l = u ++ r → ACall Tryz.prog f (.ptr A.length 0 :: args) (A ++ boxP l u.length :: B) fun oc σ' =>
    match out with
    | none => oc = .panic badV ∧ ∃ τ, σ' = A ++ τ
    | some (v, r') => oc = .ret v ∧ ∃ (u' : List Int) (τ : Nv.ST), l = u' ++ r' ∧ σ' = A ++ boxP l u'.length :: (B ++ τ)

theorem PS.at {f : FuncId} {args : List AV} {l r : List Int} {out : Option (AV × List Int)} (h : PS f args l r out) (A B : Nv.ST) (u : List Int) (e : l = u ++ r) {Kv E : AV → Nv.ST → Prop} {tk : Tk (outK Kv E)}
    (hret : ∀ v r' (u' : List Int) (τ : Nv.ST), out = some (v, r') → l = u' ++ r' → Kv v (A ++ boxP l u'.length :: (B ++ τ))) (hpan : out = none → ∀ τ, E badV (A ++ τ)) : wCall Tryz.prog f (.ptr A.length 0 :: args) (A ++ boxP l u.length :: B) (outK Kv E) tk := by
  refine ACall.mono (h A B u e) fun oc s hh => ?_
  cases out with
  | none => obtain ⟨rfl, τ, rfl⟩ := hh; exact hpan rfl τ
  | some x =>
    obtain ⟨v, r'⟩ := x
    obtain ⟨rfl, u', τ, e', rfl⟩ := hh
    exact hret v r' u' τ rfl e'
theorem PS.of {f np : Nat} {rs : List ResultVar} {pc : PC} (hf : FnIs Tryz.prog f np rs pc) (hint : Nat → Hint) {args : List AV} {l r : List Int} {out : Option (AV × List Int)} (hn : args.length + 1 ≤ np)
    (h : ∀ (A B : Nv.ST) (u : List Int), l = u ++ r → wW Tryz.prog hint pc (endA Tryz.prog rs fun oc σ' => match out with
      | none => oc = .panic badV ∧ ∃ τ, σ' = A ++ τ
      | some (v, r') => oc = .ret v ∧ ∃ (u' : List Int) (τ : Nv.ST), l = u' ++ r' ∧ σ' = A ++ boxP l u'.length :: (B ++ τ)) ⟨⟩ ⟨⟩ (initFr (.ptr A.length 0 :: args)) (A ++ boxP l u.length :: B)) : PS f args l r out := fun A B u e =>
  hf.go hint hn (h A B u e)

theorem runes_at (u r : List Int) (c : Int) : (runesD (u ++ c :: r)).getD u.length default = .int .i32 c := by
  simp [runesD, List.getD_eq_getElem?_getD]
theorem peek29 (u r : List Int) (hl : (u ++ r).length ≤ 1000000) (A B : Nv.ST) : SCall Tryz.prog 29 [.ptr A.length 0] (A ++ boxP (u ++ r) u.length :: B) (.d (.int .i32 (r.headD (-1)))) (A ++ boxP (u ++ r) u.length :: B) := by
  refine fn29.st noHint (Nat.le_refl _) ?_
  cases r with
  | nil =>
    have h1 : ¬ u.length < u.length := by omega
    simp (disch := omega) only [go_sem, reduceIte, reduceCtorEq, Nat.reduceBEq, Nat.reduceEqDiff, Nat.reduceAdd, Nat.reduceLT, Nat.reduceLeDiff, Int.reduceNeg, Int.reduceAdd, Int.reduceLT, Int.reduceLE, Int.reduceEq, Int.reduceNe, boxP, runesD_length, List.append_nil, h1, List.headD_nil, List.append_assoc, List.cons_append, List.nil_append, List.length_append, stGet_app, stGet_app0, stSet_app, stSet_app0]
  | cons c r =>
    have h1 : (u.length : Int) < ((u ++ c :: r).length : Nat) := by rw [List.length_append, List.length_cons]; omega
    have h2 : u.length < (u ++ c :: r).length := by rw [List.length_append, List.length_cons]; omega
    have h3 := runes_at u r c
    generalize u ++ c :: r = l at h1 h2 h3 ⊢
    simp (disch := omega) only [go_sem, reduceIte, reduceCtorEq, Nat.reduceBEq, Nat.reduceEqDiff, Nat.reduceAdd, Nat.reduceLT, Nat.reduceLeDiff, Int.reduceNeg, Int.reduceAdd, Int.reduceLT, Int.reduceLE, Int.reduceEq, Int.reduceNe, boxP, runesD_length, h1, h2, h3, List.headD_cons, List.append_assoc, List.cons_append, List.nil_append, List.length_append, stGet_app, stGet_app0, stSet_app, stSet_app0]

theorem next84 (l r : List Int) (hl : l.length ≤ 1000000) (h0 : ∀ c, c ∈ l → 0 ≤ c) : PS 84 [] l r (match r with | [] => none | c :: t => some (.d (.int .i32 c), t)) := by
  refine PS.of fn84 noHint (Nat.le_refl _) fun A B u e => ?_
  subst e
  simp (disch := omega) only [go_sem, reduceIte, reduceCtorEq, Nat.reduceBEq, Nat.reduceEqDiff, Nat.reduceAdd, Nat.reduceLT, Nat.reduceLeDiff, Int.reduceNeg, Int.reduceAdd, Int.reduceLT, Int.reduceLE, Int.reduceEq, Int.reduceNe]
  refine (peek29 u r hl A B).at ?_
  cases r with
  | nil => simp (disch := omega) only [go_sem, reduceIte, reduceCtorEq, Nat.reduceBEq, Nat.reduceEqDiff, Nat.reduceAdd, Nat.reduceLT, Nat.reduceLeDiff, Int.reduceNeg, Int.reduceAdd, Int.reduceLT, Int.reduceLE, Int.reduceEq, Int.reduceNe, List.headD_nil, badV]; exact ⟨_, rfl⟩
  | cons c r =>
    have hc : ¬ c < 0 := by have := h0 c (by simp); omega
    have hw : IntKind.i64.wrap ((u.length : Int) + 1) = ((u ++ [c]).length : Nat) := by
      rw [List.length_append] at *
      rw [wrap_id (by omega) (by simp at hl; omega)]; simp
    obtain ⟨u', hu'⟩ : ∃ u', u' = u ++ [c] := ⟨_, rfl⟩
    rw [← hu'] at hw
    have el : u ++ c :: r = u' ++ r := by rw [hu']; simp
    simp (disch := omega) only [go_sem, reduceIte, reduceCtorEq, Nat.reduceBEq, Nat.reduceEqDiff, Nat.reduceAdd, Nat.reduceLT, Nat.reduceLeDiff, Int.reduceNeg, Int.reduceAdd, Int.reduceLT, Int.reduceLE, Int.reduceEq, Int.reduceNe, boxP, List.headD_cons, hc, hw, List.append_assoc, List.cons_append, List.nil_append, List.length_append, stGet_app, stGet_app0, stSet_app, stSet_app0]
    exact ⟨u', [], el, by simp [boxP, hw]⟩
theorem skip45 (l r : List Int) (hl : l.length ≤ 1000000) (c : Int) (hc : 0 ≤ c) :
    PS 45 [.d (.int .i32 c)] l r (some (.d (.bool (decide (r.headD (-1) = c))), if r.headD (-1) = c then r.tail else r)) := by
  refine PS.of fn45 noHint (Nat.le_refl _) fun A B u e => ?_
  subst e
  simp (disch := omega) only [go_sem, reduceIte, reduceCtorEq, Nat.reduceBEq, Nat.reduceEqDiff, Nat.reduceAdd, Nat.reduceLT, Nat.reduceLeDiff, Int.reduceNeg, Int.reduceAdd, Int.reduceLT, Int.reduceLE, Int.reduceEq, Int.reduceNe]
  refine (peek29 u r hl A B).at ?_
  by_cases h : r.headD (-1) = c
  · cases r with
    | nil => simp at h; omega
    | cons d r =>
      simp only [List.headD_cons] at h
      subst h
      have hw : IntKind.i64.wrap ((u.length : Int) + 1) = ((u ++ [d]).length : Nat) := by
        rw [List.length_append] at *
        rw [wrap_id (by omega) (by simp at hl; omega)]; simp
      obtain ⟨u', hu'⟩ : ∃ u', u' = u ++ [d] := ⟨_, rfl⟩
      rw [← hu'] at hw
      have el : u ++ d :: r = u' ++ r := by rw [hu']; simp
      simp (disch := omega) only [go_sem, reduceIte, reduceCtorEq, Nat.reduceBEq, Nat.reduceEqDiff, Nat.reduceAdd, Nat.reduceLT, Nat.reduceLeDiff, Int.reduceNeg, Int.reduceAdd, Int.reduceLT, Int.reduceLE, Int.reduceEq, Int.reduceNe, boxP, List.headD_cons, hw, List.tail_cons, decide_true, List.append_assoc, List.cons_append, List.nil_append, List.length_append, stGet_app, stGet_app0, stSet_app, stSet_app0]
      exact ⟨u', [], el, by simp [boxP, hw]⟩
  · simp (disch := omega) only [go_sem, reduceIte, reduceCtorEq, Nat.reduceBEq, Nat.reduceEqDiff, Nat.reduceAdd, Nat.reduceLT, Nat.reduceLeDiff, Int.reduceNeg, Int.reduceAdd, Int.reduceLT, Int.reduceLE, Int.reduceEq, Int.reduceNe, h, decide_false]
    exact ⟨u, [], rfl, by simp⟩
theorem must78 (l r : List Int) (hl : l.length ≤ 1000000) (c : Int) (hc : 0 ≤ c) : PS 78 [.d (.int .i32 c)] l r (if r.headD (-1) = c then some (.tuple [], r.tail) else none) := by
  refine PS.of fn78 noHint (Nat.le_refl _) fun A B u e => ?_
  simp (disch := omega) only [go_sem, reduceIte, reduceCtorEq, Nat.reduceBEq, Nat.reduceEqDiff, Nat.reduceAdd, Nat.reduceLT, Nat.reduceLeDiff, Int.reduceNeg, Int.reduceAdd, Int.reduceLT, Int.reduceLE, Int.reduceEq, Int.reduceNe]
  refine (skip45 l r hl c hc).at A B u e ?_ ?_
  · intro v r' u' τ ho e'
    cases ho
    by_cases h : r.headD (-1) = c
    · rw [if_pos h] at e'
      simp (disch := omega) only [go_sem, reduceIte, reduceCtorEq, Nat.reduceBEq, Nat.reduceEqDiff, Nat.reduceAdd, Nat.reduceLT, Nat.reduceLeDiff, Int.reduceNeg, Int.reduceAdd, Int.reduceLT, Int.reduceLE, Int.reduceEq, Int.reduceNe, h, decide_true]
      exact ⟨u', τ, e', rfl⟩
    · simp (disch := omega) only [go_sem, reduceIte, reduceCtorEq, Nat.reduceBEq, Nat.reduceEqDiff, Nat.reduceAdd, Nat.reduceLT, Nat.reduceLeDiff, Int.reduceNeg, Int.reduceAdd, Int.reduceLT, Int.reduceLE, Int.reduceEq, Int.reduceNe, h, decide_false, badV]; exact ⟨_, rfl⟩
  · intro ho; cases ho
end Go.Proofs.YtebejiilpedlmaaGreatDoor
set_option linter.unusedVariables false
set_option linter.unusedSimpArgs false
set_option maxRecDepth 100000
namespace Go.Proofs.YtebejiilpedlmaaGreatDoor
open Go Nv Pat

theorem peekL (l u r : List Int) (e : l = u ++ r) (hl : l.length ≤ 1000000) (A B : Nv.ST) : SCall Tryz.prog 29 [.ptr A.length 0] (A ++ boxP l u.length :: B) (.d (.int .i32 (r.headD (-1)))) (A ++ boxP l u.length :: B) := by
  subst e; exact peek29 u r hl A B

theorem letter91 (l r : List Int) (hl : l.length ≤ 1000000) (h0 : ∀ c, c ∈ l → 0 ≤ c) : PS 91 [] l r ((letP r).map fun x => (.d (.int .i32 x.1), x.2)) := by
  refine PS.of fn91 noHint (Nat.le_refl _) fun A B u e => ?_
  simp (disch := omega) only [go_sem, reduceIte, reduceDIte, reduceCtorEq, Nat.reduceBEq, Nat.reduceEqDiff, Nat.reduceAdd, Nat.reduceSub, Nat.reduceMul, Nat.reduceLT, Nat.reduceLeDiff, Nat.reduceBNe, Int.reduceNeg, Int.reduceAdd, Int.reduceSub, Int.reduceMul, Int.reduceLT, Int.reduceLE, Int.reduceGT, Int.reduceGE, Int.reduceEq, Int.reduceNe, Int.reduceToNat, Int.reduceTMod, Int.reduceTDiv]
  refine (next84 l r hl h0).at A B u e ?_ ?_
  · intro v r' u' τ ho e'
    cases r with
    | nil => cases ho
    | cons c t =>
      cases ho
      by_cases h1 : c = 92
      · simp (disch := omega) only [go_sem, reduceIte, reduceDIte, reduceCtorEq, Nat.reduceBEq, Nat.reduceEqDiff, Nat.reduceAdd, Nat.reduceSub, Nat.reduceMul, Nat.reduceLT, Nat.reduceLeDiff, Nat.reduceBNe, Int.reduceNeg, Int.reduceAdd, Int.reduceSub, Int.reduceMul, Int.reduceLT, Int.reduceLE, Int.reduceGT, Int.reduceGE, Int.reduceEq, Int.reduceNe, Int.reduceToNat, Int.reduceTMod, Int.reduceTDiv, h1]
        refine (next84 l _ hl h0).at A (B ++ τ) u' e' ?_ ?_
        · intro v r2 u2 τ2 ho e2
          cases r' with
          | nil => cases ho
          | cons d r' =>
            cases ho
            simp (disch := omega) only [go_sem, reduceIte, reduceDIte, reduceCtorEq, Nat.reduceBEq, Nat.reduceEqDiff, Nat.reduceAdd, Nat.reduceSub, Nat.reduceMul, Nat.reduceLT, Nat.reduceLeDiff, Nat.reduceBNe, Int.reduceNeg, Int.reduceAdd, Int.reduceSub, Int.reduceMul, Int.reduceLT, Int.reduceLE, Int.reduceGT, Int.reduceGE, Int.reduceEq, Int.reduceNe, Int.reduceToNat, Int.reduceTMod, Int.reduceTDiv, letP, oneP, h1, Option.map_some]
            exact ⟨u2, τ ++ τ2, e2, by simp⟩
        · intro ho σ'
          cases r' with
          | nil => simp (disch := omega) only [go_sem, reduceIte, reduceDIte, reduceCtorEq, Nat.reduceBEq, Nat.reduceEqDiff, Nat.reduceAdd, Nat.reduceSub, Nat.reduceMul, Nat.reduceLT, Nat.reduceLeDiff, Nat.reduceBNe, Int.reduceNeg, Int.reduceAdd, Int.reduceSub, Int.reduceMul, Int.reduceLT, Int.reduceLE, Int.reduceGT, Int.reduceGE, Int.reduceEq, Int.reduceNe, Int.reduceToNat, Int.reduceTMod, Int.reduceTDiv, letP, oneP, h1, Option.map_none]; exact ⟨_, rfl⟩
          | cons d t => cases ho
      by_cases h2 : c = 93
      · simp (disch := omega) only [go_sem, reduceIte, reduceDIte, reduceCtorEq, Nat.reduceBEq, Nat.reduceEqDiff, Nat.reduceAdd, Nat.reduceSub, Nat.reduceMul, Nat.reduceLT, Nat.reduceLeDiff, Nat.reduceBNe, Int.reduceNeg, Int.reduceAdd, Int.reduceSub, Int.reduceMul, Int.reduceLT, Int.reduceLE, Int.reduceGT, Int.reduceGE, Int.reduceEq, Int.reduceNe, Int.reduceToNat, Int.reduceTMod, Int.reduceTDiv, h1, h2, letP, Option.map_none, badV, true_or]; exact ⟨_, rfl⟩
      by_cases h3 : c = 94
      · simp (disch := omega) only [go_sem, reduceIte, reduceDIte, reduceCtorEq, Nat.reduceBEq, Nat.reduceEqDiff, Nat.reduceAdd, Nat.reduceSub, Nat.reduceMul, Nat.reduceLT, Nat.reduceLeDiff, Nat.reduceBNe, Int.reduceNeg, Int.reduceAdd, Int.reduceSub, Int.reduceMul, Int.reduceLT, Int.reduceLE, Int.reduceGT, Int.reduceGE, Int.reduceEq, Int.reduceNe, Int.reduceToNat, Int.reduceTMod, Int.reduceTDiv, h1, h2, h3, letP, Option.map_none, badV, true_or, or_true]; exact ⟨_, rfl⟩
      by_cases h4 : c = 45
      · simp (disch := omega) only [go_sem, reduceIte, reduceDIte, reduceCtorEq, Nat.reduceBEq, Nat.reduceEqDiff, Nat.reduceAdd, Nat.reduceSub, Nat.reduceMul, Nat.reduceLT, Nat.reduceLeDiff, Nat.reduceBNe, Int.reduceNeg, Int.reduceAdd, Int.reduceSub, Int.reduceMul, Int.reduceLT, Int.reduceLE, Int.reduceGT, Int.reduceGE, Int.reduceEq, Int.reduceNe, Int.reduceToNat, Int.reduceTMod, Int.reduceTDiv, h1, h2, h3, h4, letP, Option.map_none, badV, true_or, or_true]; exact ⟨_, rfl⟩
      · simp (disch := omega) only [go_sem, reduceIte, reduceDIte, reduceCtorEq, Nat.reduceBEq, Nat.reduceEqDiff, Nat.reduceAdd, Nat.reduceSub, Nat.reduceMul, Nat.reduceLT, Nat.reduceLeDiff, Nat.reduceBNe, Int.reduceNeg, Int.reduceAdd, Int.reduceSub, Int.reduceMul, Int.reduceLT, Int.reduceLE, Int.reduceGT, Int.reduceGE, Int.reduceEq, Int.reduceNe, Int.reduceToNat, Int.reduceTMod, Int.reduceTDiv, h1, h2, h3, h4, letP, Option.map_some, or_self]
        exact ⟨u', τ, e', rfl⟩
  · intro ho σ'
    cases r with
    | nil => simp (disch := omega) only [go_sem, reduceIte, reduceDIte, reduceCtorEq, Nat.reduceBEq, Nat.reduceEqDiff, Nat.reduceAdd, Nat.reduceSub, Nat.reduceMul, Nat.reduceLT, Nat.reduceLeDiff, Nat.reduceBNe, Int.reduceNeg, Int.reduceAdd, Int.reduceSub, Int.reduceMul, Int.reduceLT, Int.reduceLE, Int.reduceGT, Int.reduceGE, Int.reduceEq, Int.reduceNe, Int.reduceToNat, Int.reduceTMod, Int.reduceTDiv, letP, Option.map_none]; exact ⟨_, rfl⟩
    | cons c t => cases ho

/- ranges -/
theorem max_if (x y : Int) : (if x < y then y else x) = max x y := by omega
theorem min_if (x y : Int) : (if y < x then y else x) = min x y := by omega
def hintA : Nat → Hint := fun i => if i = 3 then .freeze else .no
@[go_sem] theorem hintA_at (i : Nat) : hintA i = if i = 3 then .freeze else .no := nrfl rfl
theorem all59 : PCall Tryz.prog 59 [] (.d (setD allS)) := by
  refine fn59.pure hintA (Nat.le_refl _) (by simp only [go_sem]) (by simp only [go_sem]) ?_
  simp (disch := omega) only [go_sem, reduceIte, reduceDIte, reduceCtorEq, Nat.reduceBEq, Nat.reduceEqDiff, Nat.reduceAdd, Nat.reduceSub, Nat.reduceMul, Nat.reduceLT, Nat.reduceLeDiff, Nat.reduceBNe, Int.reduceNeg, Int.reduceAdd, Int.reduceSub, Int.reduceMul, Int.reduceLT, Int.reduceLE, Int.reduceGT, Int.reduceGE, Int.reduceEq, Int.reduceNe, Int.reduceToNat, Int.reduceTMod, Int.reduceTDiv, setD, allS, List.map_cons, List.map_nil, rgD]

def hintC : Nat → Hint := fun i => if i = 5 then .own ⟨2, 44⟩ else if i = 34 then .freeze else .no
@[go_sem] theorem hintC_at (i : Nat) : hintC i = if i = 5 then .own ⟨2, 44⟩ else if i = 34 then .freeze else .no := nrfl rfl
theorem clip92 (a b : Int) : PCall Tryz.prog 92 [.d (.int .i32 a), .d (.int .i32 b)] (.d (setD (clipS a b))) := by
  refine fn92.pure hintC (Nat.le_refl _) (by simp only [go_sem]) (by simp only [go_sem, setD]) ?_
  simp (disch := omega) only [go_sem, reduceIte, reduceDIte, reduceCtorEq, Nat.reduceBEq, Nat.reduceEqDiff, Nat.reduceAdd, Nat.reduceSub, Nat.reduceMul, Nat.reduceLT, Nat.reduceLeDiff, Nat.reduceBNe, Int.reduceNeg, Int.reduceAdd, Int.reduceSub, Int.reduceMul, Int.reduceLT, Int.reduceLE, Int.reduceGT, Int.reduceGE, Int.reduceEq, Int.reduceNe, Int.reduceToNat, Int.reduceTMod, Int.reduceTDiv]
  refine all59.at ?_
  have z0 : (0 : Int) < ((2 : Nat) : Int) := by decide
  have z1 : (1 : Int) < ((2 : Nat) : Int) := by decide
  have z2 : ¬ (2 : Int) < ((2 : Nat) : Int) := by decide
  simp (disch := omega) only [go_sem, reduceIte, reduceDIte, reduceCtorEq, Nat.reduceBEq, Nat.reduceEqDiff, Nat.reduceAdd, Nat.reduceSub, Nat.reduceMul, Nat.reduceLT, Nat.reduceLeDiff, Nat.reduceBNe, Int.reduceNeg, Int.reduceAdd, Int.reduceSub, Int.reduceMul, Int.reduceLT, Int.reduceLE, Int.reduceGT, Int.reduceGE, Int.reduceEq, Int.reduceNe, Int.reduceToNat, Int.reduceTMod, Int.reduceTDiv, setD, allS, List.map_cons, List.map_nil, rgD]
  refine wL_step ?_
  simp (disch := omega) only [go_sem, reduceIte, reduceDIte, reduceCtorEq, Nat.reduceBEq, Nat.reduceEqDiff, Nat.reduceAdd, Nat.reduceSub, Nat.reduceMul, Nat.reduceLT, Nat.reduceLeDiff, Nat.reduceBNe, Int.reduceNeg, Int.reduceAdd, Int.reduceSub, Int.reduceMul, Int.reduceLT, Int.reduceLE, Int.reduceGT, Int.reduceGE, Int.reduceEq, Int.reduceNe, Int.reduceToNat, Int.reduceTMod, Int.reduceTDiv, max_if, min_if, z0]
  by_cases h1 : max a 0 ≤ min b 55295
  · simp (disch := omega) only [go_sem, reduceIte, reduceDIte, reduceCtorEq, Nat.reduceBEq, Nat.reduceEqDiff, Nat.reduceAdd, Nat.reduceSub, Nat.reduceMul, Nat.reduceLT, Nat.reduceLeDiff, Nat.reduceBNe, Int.reduceNeg, Int.reduceAdd, Int.reduceSub, Int.reduceMul, Int.reduceLT, Int.reduceLE, Int.reduceGT, Int.reduceGE, Int.reduceEq, Int.reduceNe, Int.reduceToNat, Int.reduceTMod, Int.reduceTDiv, h1]
    refine wL_step ?_
    simp (disch := omega) only [go_sem, reduceIte, reduceDIte, reduceCtorEq, Nat.reduceBEq, Nat.reduceEqDiff, Nat.reduceAdd, Nat.reduceSub, Nat.reduceMul, Nat.reduceLT, Nat.reduceLeDiff, Nat.reduceBNe, Int.reduceNeg, Int.reduceAdd, Int.reduceSub, Int.reduceMul, Int.reduceLT, Int.reduceLE, Int.reduceGT, Int.reduceGE, Int.reduceEq, Int.reduceNe, Int.reduceToNat, Int.reduceTMod, Int.reduceTDiv, max_if, min_if, z1]
    by_cases h2 : max a 57344 ≤ min b 1114111
    · have e : clipS a b = [(max a 0, min b 55295), (max a 57344, min b 1114111)] := by simp only [clipS, clip1, h1, h2, if_true, List.cons_append, List.nil_append]
      simp (disch := omega) only [go_sem, reduceIte, reduceDIte, reduceCtorEq, Nat.reduceBEq, Nat.reduceEqDiff, Nat.reduceAdd, Nat.reduceSub, Nat.reduceMul, Nat.reduceLT, Nat.reduceLeDiff, Nat.reduceBNe, Int.reduceNeg, Int.reduceAdd, Int.reduceSub, Int.reduceMul, Int.reduceLT, Int.reduceLE, Int.reduceGT, Int.reduceGE, Int.reduceEq, Int.reduceNe, Int.reduceToNat, Int.reduceTMod, Int.reduceTDiv, h2]
      refine wL_step ?_
      simp (disch := omega) only [go_sem, reduceIte, reduceDIte, reduceCtorEq, Nat.reduceBEq, Nat.reduceEqDiff, Nat.reduceAdd, Nat.reduceSub, Nat.reduceMul, Nat.reduceLT, Nat.reduceLeDiff, Nat.reduceBNe, Int.reduceNeg, Int.reduceAdd, Int.reduceSub, Int.reduceMul, Int.reduceLT, Int.reduceLE, Int.reduceGT, Int.reduceGE, Int.reduceEq, Int.reduceNe, Int.reduceToNat, Int.reduceTMod, Int.reduceTDiv, z2, e, List.map_cons, List.map_nil, rgD]
    · have e : clipS a b = [(max a 0, min b 55295)] := by simp only [clipS, clip1, h1, h2, if_true, if_false, List.append_nil]
      simp (disch := omega) only [go_sem, reduceIte, reduceDIte, reduceCtorEq, Nat.reduceBEq, Nat.reduceEqDiff, Nat.reduceAdd, Nat.reduceSub, Nat.reduceMul, Nat.reduceLT, Nat.reduceLeDiff, Nat.reduceBNe, Int.reduceNeg, Int.reduceAdd, Int.reduceSub, Int.reduceMul, Int.reduceLT, Int.reduceLE, Int.reduceGT, Int.reduceGE, Int.reduceEq, Int.reduceNe, Int.reduceToNat, Int.reduceTMod, Int.reduceTDiv, h2]
      refine wL_step ?_
      simp (disch := omega) only [go_sem, reduceIte, reduceDIte, reduceCtorEq, Nat.reduceBEq, Nat.reduceEqDiff, Nat.reduceAdd, Nat.reduceSub, Nat.reduceMul, Nat.reduceLT, Nat.reduceLeDiff, Nat.reduceBNe, Int.reduceNeg, Int.reduceAdd, Int.reduceSub, Int.reduceMul, Int.reduceLT, Int.reduceLE, Int.reduceGT, Int.reduceGE, Int.reduceEq, Int.reduceNe, Int.reduceToNat, Int.reduceTMod, Int.reduceTDiv, z2, e, List.map_cons, List.map_nil, rgD]
  · simp (disch := omega) only [go_sem, reduceIte, reduceDIte, reduceCtorEq, Nat.reduceBEq, Nat.reduceEqDiff, Nat.reduceAdd, Nat.reduceSub, Nat.reduceMul, Nat.reduceLT, Nat.reduceLeDiff, Nat.reduceBNe, Int.reduceNeg, Int.reduceAdd, Int.reduceSub, Int.reduceMul, Int.reduceLT, Int.reduceLE, Int.reduceGT, Int.reduceGE, Int.reduceEq, Int.reduceNe, Int.reduceToNat, Int.reduceTMod, Int.reduceTDiv, h1]
    refine wL_step ?_
    simp (disch := omega) only [go_sem, reduceIte, reduceDIte, reduceCtorEq, Nat.reduceBEq, Nat.reduceEqDiff, Nat.reduceAdd, Nat.reduceSub, Nat.reduceMul, Nat.reduceLT, Nat.reduceLeDiff, Nat.reduceBNe, Int.reduceNeg, Int.reduceAdd, Int.reduceSub, Int.reduceMul, Int.reduceLT, Int.reduceLE, Int.reduceGT, Int.reduceGE, Int.reduceEq, Int.reduceNe, Int.reduceToNat, Int.reduceTMod, Int.reduceTDiv, max_if, min_if, z1]
    by_cases h2 : max a 57344 ≤ min b 1114111
    · have e : clipS a b = [(max a 57344, min b 1114111)] := by simp only [clipS, clip1, h1, h2, if_true, if_false, List.nil_append]
      simp (disch := omega) only [go_sem, reduceIte, reduceDIte, reduceCtorEq, Nat.reduceBEq, Nat.reduceEqDiff, Nat.reduceAdd, Nat.reduceSub, Nat.reduceMul, Nat.reduceLT, Nat.reduceLeDiff, Nat.reduceBNe, Int.reduceNeg, Int.reduceAdd, Int.reduceSub, Int.reduceMul, Int.reduceLT, Int.reduceLE, Int.reduceGT, Int.reduceGE, Int.reduceEq, Int.reduceNe, Int.reduceToNat, Int.reduceTMod, Int.reduceTDiv, h2]
      refine wL_step ?_
      simp (disch := omega) only [go_sem, reduceIte, reduceDIte, reduceCtorEq, Nat.reduceBEq, Nat.reduceEqDiff, Nat.reduceAdd, Nat.reduceSub, Nat.reduceMul, Nat.reduceLT, Nat.reduceLeDiff, Nat.reduceBNe, Int.reduceNeg, Int.reduceAdd, Int.reduceSub, Int.reduceMul, Int.reduceLT, Int.reduceLE, Int.reduceGT, Int.reduceGE, Int.reduceEq, Int.reduceNe, Int.reduceToNat, Int.reduceTMod, Int.reduceTDiv, z2, e, List.map_cons, List.map_nil, rgD]
    · have e : clipS a b = [] := by simp only [clipS, clip1, h1, h2, if_false, List.append_nil]
      simp (disch := omega) only [go_sem, reduceIte, reduceDIte, reduceCtorEq, Nat.reduceBEq, Nat.reduceEqDiff, Nat.reduceAdd, Nat.reduceSub, Nat.reduceMul, Nat.reduceLT, Nat.reduceLeDiff, Nat.reduceBNe, Int.reduceNeg, Int.reduceAdd, Int.reduceSub, Int.reduceMul, Int.reduceLT, Int.reduceLE, Int.reduceGT, Int.reduceGE, Int.reduceEq, Int.reduceNe, Int.reduceToNat, Int.reduceTMod, Int.reduceTDiv, h2]
      refine wL_step ?_
      simp (disch := omega) only [go_sem, reduceIte, reduceDIte, reduceCtorEq, Nat.reduceBEq, Nat.reduceEqDiff, Nat.reduceAdd, Nat.reduceSub, Nat.reduceMul, Nat.reduceLT, Nat.reduceLeDiff, Nat.reduceBNe, Int.reduceNeg, Int.reduceAdd, Int.reduceSub, Int.reduceMul, Int.reduceLT, Int.reduceLE, Int.reduceGT, Int.reduceGE, Int.reduceEq, Int.reduceNe, Int.reduceToNat, Int.reduceTMod, Int.reduceTDiv, z2, e, List.map_cons, List.map_nil, rgD]
end Go.Proofs.YtebejiilpedlmaaGreatDoor
set_option linter.unusedVariables false
set_option linter.unusedSimpArgs false
set_option maxRecDepth 100000
namespace Go.Proofs.YtebejiilpedlmaaGreatDoor
open Go Nv Pat

theorem clip_len (a b : Int) : (clipS a b).length ≤ 2 := by
  unfold clipS clip1
  rw [List.length_append]
  split <;> split <;> simp
def hintK : Nat → Hint := fun i => if i = 3 then .own ⟨2, 44⟩ else .no
@[go_sem] theorem hintK_at (i : Nat) : hintK i = if i = 3 then .own ⟨2, 44⟩ else .no := nrfl rfl
def CharR (r : Int × Int) : Prop := (0 ≤ r.1 ∧ r.1 ≤ 1114111) ∧ 0 ≤ r.2 ∧ r.2 ≤ 1114111
theorem comp94 (s : List (Int × Int)) (hs : ∀ r, r ∈ s → CharR r) (hlen : s.length ≤ 100000) (σ : Nv.ST) :
    RCall Tryz.prog 94 [.d (setD s)] σ fun v σ' => ∃ g n τ, n = (compS s).length ∧ v = .own σ.length g 0 n ∧ σ' = σ ++ .arr g ⟨2, 44⟩ ((compS s).map rgD) :: τ := by
  refine fn94.rel hintK (Nat.le_refl _) ?_
  simp (disch := omega) only [go_sem, reduceIte, reduceCtorEq, Nat.reduceBEq, Nat.reduceEqDiff, Nat.reduceAdd, Nat.reduceLT, Nat.reduceLeDiff, Int.reduceNeg, Int.reduceAdd, Int.reduceLT, Int.reduceLE, Int.reduceEq, Int.reduceNe, setD]
  refine wL_ind (fun (k : Nat) fr σ' => k ≤ s.length ∧ fr 7 = .d (.list 2 (s.map rgD)) ∧ fr 8 = .d (.int .i64 s.length) ∧ fr 9 = .d (.int .i64 k) ∧
    ∃ (out : List (Int × Int)) (low : Int) (g n : Nat) (rest : Nv.ST), n = out.length ∧ out.length ≤ 2 * k ∧ out ++ compL low (s.drop k) = compS s ∧ (0 ≤ low ∧ low ≤ 1114112) ∧ fr 3 = .own σ.length g 0 n ∧ fr 4 = .d (.int .i32 low) ∧
      σ' = σ ++ .arr g ⟨2, 44⟩ (out.map rgD) :: rest) (fun k => s.length - k) ?_ 0 ?_
  · rintro k fr σ' ⟨hk, f7, f8, f9, out, low, g, n, rest, hn, hol, hc, hlow, f3, f4, rfl⟩ ih
    have hom : (out.map rgD).length = n := by simp [hn]
    have hta := take_all (out.map rgD) n hom
    by_cases hlt : k < s.length
    · obtain ⟨r, hr⟩ : ∃ r, r = s.getD k default := ⟨_, rfl⟩
      have hd : s.drop k = r :: s.drop (k + 1) := by rw [hr]; exact drop_getD s k hlt
      have hrm : r ∈ s := by rw [hr]; exact getD_mem s k hlt
      obtain ⟨⟨r0, r1⟩, r2, r3⟩ := hs r hrm
      have hw1 : IntKind.i32.wrap (r.1 - 1) = r.1 - 1 := wrap_i32 (by omega) (by omega)
      have hw2 : IntKind.i32.wrap (r.2 + 1) = r.2 + 1 := wrap_i32 (by omega) (by omega)
      have hcl := clip_len low (r.1 - 1)
      have hb1 : (n + (clipS low (r.1 - 1)).length) * 8 ≤ 140737488355328 := by omega
      rw [hd, compL] at hc
      simp (disch := omega) only [go_sem, reduceIte, reduceCtorEq, Nat.reduceBEq, Nat.reduceEqDiff, Nat.reduceAdd, Nat.reduceLT, Nat.reduceLeDiff, Int.reduceNeg, Int.reduceAdd, Int.reduceLT, Int.reduceLE, Int.reduceEq, Int.reduceNe, f3, f4, f7, f8, f9, hlt, rgD, ← hr, hw1]
      refine (clip92 low (r.1 - 1)).at ?_
      simp (disch := omega) only [go_sem, reduceIte, reduceCtorEq, Nat.reduceBEq, Nat.reduceEqDiff, Nat.reduceAdd, Nat.reduceLT, Nat.reduceLeDiff, Int.reduceNeg, Int.reduceAdd, Int.reduceLT, Int.reduceLE, Int.reduceEq, Int.reduceNe, setD, hom, hta, List.length_map, hb1, hw2, Nat.zero_add, Nat.le_refl, f9, List.append_assoc, List.cons_append, List.nil_append, List.length_append, stGet_app, stGet_app0, stSet_app, stSet_app0]
      refine ih (k + 1) _ _ (by omega) ⟨by omega, ?_, ?_, ?_, out ++ clipS low (r.1 - 1), r.2 + 1, g + 1, n + (clipS low (r.1 - 1)).length, ?rr, by rw [List.length_append, hn], by rw [List.length_append]; omega, by rw [← hc]; simp, by omega, ?_, ?_, ?_⟩
      rotate_right 1
      · rw [List.map_append]
      · simp (disch := omega) only [go_sem, reduceIte, reduceCtorEq, Nat.reduceBEq, Nat.reduceEqDiff, Nat.reduceAdd, Nat.reduceLT, Nat.reduceLeDiff, Int.reduceNeg, Int.reduceAdd, Int.reduceLT, Int.reduceLE, Int.reduceEq, Int.reduceNe, f7]
      · simp (disch := omega) only [go_sem, reduceIte, reduceCtorEq, Nat.reduceBEq, Nat.reduceEqDiff, Nat.reduceAdd, Nat.reduceLT, Nat.reduceLeDiff, Int.reduceNeg, Int.reduceAdd, Int.reduceLT, Int.reduceLE, Int.reduceEq, Int.reduceNe, f8]
      · simp (disch := omega) only [go_sem, reduceIte, reduceCtorEq, Nat.reduceBEq, Nat.reduceEqDiff, Nat.reduceAdd, Nat.reduceLT, Nat.reduceLeDiff, Int.reduceNeg, Int.reduceAdd, Int.reduceLT, Int.reduceLE, Int.reduceEq, Int.reduceNe]
      · simp (disch := omega) only [go_sem, reduceIte, reduceCtorEq, Nat.reduceBEq, Nat.reduceEqDiff, Nat.reduceAdd, Nat.reduceLT, Nat.reduceLeDiff, Int.reduceNeg, Int.reduceAdd, Int.reduceLT, Int.reduceLE, Int.reduceEq, Int.reduceNe]
      · simp (disch := omega) only [go_sem, reduceIte, reduceCtorEq, Nat.reduceBEq, Nat.reduceEqDiff, Nat.reduceAdd, Nat.reduceLT, Nat.reduceLeDiff, Int.reduceNeg, Int.reduceAdd, Int.reduceLT, Int.reduceLE, Int.reduceEq, Int.reduceNe]
    · have hd : s.drop k = [] := List.drop_of_length_le (by omega)
      rw [hd, compL] at hc
      have hcl := clip_len low 1114111
      have hb1 : (n + (clipS low 1114111).length) * 8 ≤ 140737488355328 := by omega
      simp (disch := omega) only [go_sem, reduceIte, reduceCtorEq, Nat.reduceBEq, Nat.reduceEqDiff, Nat.reduceAdd, Nat.reduceLT, Nat.reduceLeDiff, Int.reduceNeg, Int.reduceAdd, Int.reduceLT, Int.reduceLE, Int.reduceEq, Int.reduceNe, f3, f4, f7, f8, f9, hlt]
      refine (clip92 low 1114111).at ?_
      simp (disch := omega) only [go_sem, reduceIte, reduceCtorEq, Nat.reduceBEq, Nat.reduceEqDiff, Nat.reduceAdd, Nat.reduceLT, Nat.reduceLeDiff, Int.reduceNeg, Int.reduceAdd, Int.reduceLT, Int.reduceLE, Int.reduceEq, Int.reduceNe, setD, hom, hta, List.length_map, hb1, Nat.zero_add, Nat.le_refl, List.append_assoc, List.cons_append, List.nil_append, List.length_append, stGet_app, stGet_app0, stSet_app, stSet_app0]
      exact ⟨_, rfl, g + 1, n + (clipS low 1114111).length, rest, by rw [← hc, List.length_append, hn], rfl, by rw [← hc, List.map_append]⟩
  · refine ⟨by omega, ?_, ?_, ?_, [], 0, 0, 0, [], rfl, by simp, by simp [compS], by omega, ?_, ?_, ?_⟩
    · simp (disch := omega) only [go_sem, reduceIte, reduceCtorEq, Nat.reduceBEq, Nat.reduceEqDiff, Nat.reduceAdd, Nat.reduceLT, Nat.reduceLeDiff, Int.reduceNeg, Int.reduceAdd, Int.reduceLT, Int.reduceLE, Int.reduceEq, Int.reduceNe]
    · simp (disch := omega) only [go_sem, reduceIte, reduceCtorEq, Nat.reduceBEq, Nat.reduceEqDiff, Nat.reduceAdd, Nat.reduceLT, Nat.reduceLeDiff, Int.reduceNeg, Int.reduceAdd, Int.reduceLT, Int.reduceLE, Int.reduceEq, Int.reduceNe]
    · simp (disch := omega) only [go_sem, reduceIte, reduceCtorEq, Nat.reduceBEq, Nat.reduceEqDiff, Nat.reduceAdd, Nat.reduceLT, Nat.reduceLeDiff, Int.reduceNeg, Int.reduceAdd, Int.reduceLT, Int.reduceLE, Int.reduceEq, Int.reduceNe]
    · simp (disch := omega) only [go_sem, reduceIte, reduceCtorEq, Nat.reduceBEq, Nat.reduceEqDiff, Nat.reduceAdd, Nat.reduceLT, Nat.reduceLeDiff, Int.reduceNeg, Int.reduceAdd, Int.reduceLT, Int.reduceLE, Int.reduceEq, Int.reduceNe]
    · simp (disch := omega) only [go_sem, reduceIte, reduceCtorEq, Nat.reduceBEq, Nat.reduceEqDiff, Nat.reduceAdd, Nat.reduceLT, Nat.reduceLeDiff, Int.reduceNeg, Int.reduceAdd, Int.reduceLT, Int.reduceLE, Int.reduceEq, Int.reduceNe]
    · rfl
end Go.Proofs.YtebejiilpedlmaaGreatDoor
set_option linter.unusedVariables false
set_option linter.unusedSimpArgs false
set_option maxRecDepth 100000
namespace Go.Proofs.YtebejiilpedlmaaGreatDoor
open Go Nv Pat

/-- What the sorting of ranges in place does. -/
def SortC (sort : List (Int × Int) → List (Int × Int)) : Prop := ∀ (s : List (Int × Int)) (b g : Nat) (σ : Nv.ST), b < σ.length → stGet σ b = .arr g ⟨2, 44⟩ (s.map rgD) → 0 < s.length → s.length ≤ 100000 →
  SCall Tryz.prog 104 [.own b g 0 s.length, .d (.func (.func 105))] σ (.tuple []) (stSet σ b (.arr g ⟨2, 44⟩ ((sort s).map rgD)))

theorem take_fold (l : List (Int × Int)) (k : Nat) (h : k < l.length) : (l.take (k + 1)).foldl joinR [] = joinR ((l.take k).foldl joinR []) (l.getD k default) := by
  rw [take_succ' l k h, List.foldl_append]; rfl
theorem joinR_nil' (r : Int × Int) : joinR [] r = [r] := by simp [joinR]
theorem joinR_len (l : List (Int × Int)) (r : Int × Int) : (joinR l r).length ≤ l.length + 1 := by unfold joinR; split <;> simp
theorem joinR_char {l : List (Int × Int)} {r : Int × Int} (hl : ∀ q, q ∈ l → CharR q) (hr : CharR r) : ∀ q, q ∈ joinR l r → CharR q := by
  intro q hq
  unfold joinR at hq
  split at hq
  · rename_i h
    have hd := hl _ (getD_mem l (l.length - 1) (by omega))
    rcases List.mem_or_eq_of_mem_set hq with hq | rfl
    · exact hl q hq
    · obtain ⟨h1, h2⟩ := hd
      obtain ⟨h3, h4⟩ := hr
      exact ⟨h1, by simp only; omega⟩
  · rcases List.mem_append.1 hq with hq | hq
    · exact hl q hq
    · rw [List.mem_singleton] at hq; rw [hq]; exact hr

theorem norm93 (sort : List (Int × Int) → List (Int × Int)) (hS : SortC sort) (s : List (Int × Int)) (hs : ∀ r, r ∈ sort s → CharR r) (hsl : (sort s).length = s.length) (hlen : s.length ≤ 100000) (h0 : 0 < s.length) (b g n : Nat) (hn : n = s.length) (σ : Nv.ST) (hb : b < σ.length)
    (hst : stGet σ b = .arr g ⟨2, 44⟩ (s.map rgD)) :
    RCall Tryz.prog 93 [.own b g 0 n] σ fun v σ' => ∃ g' m τ, m = (normS sort s).length ∧ v = .own σ.length g' 0 m ∧ σ' = stSet σ b (.arr g ⟨2, 44⟩ ((sort s).map rgD)) ++ .arr g' ⟨2, 44⟩ ((normS sort s).map rgD) :: τ := by
  refine fn93.rel hintK (Nat.le_refl _) ?_
  have hcall := hS s b g σ hb hst h0 hlen
  rw [← hn] at hcall
  simp (disch := omega) only [go_sem, reduceIte, reduceDIte, reduceCtorEq, Nat.reduceBEq, Nat.reduceEqDiff, Nat.reduceAdd, Nat.reduceSub, Nat.reduceMul, Nat.reduceLT, Nat.reduceLeDiff, Nat.reduceBNe, Int.reduceNeg, Int.reduceAdd, Int.reduceSub, Int.reduceMul, Int.reduceLT, Int.reduceLE, Int.reduceGT, Int.reduceGE, Int.reduceEq, Int.reduceNe, Int.reduceToNat, Int.reduceTMod, Int.reduceTDiv]
  refine hcall.at ?_
  obtain ⟨σ1, hσ1⟩ : ∃ σ1, σ1 = stSet σ b (.arr g ⟨2, 44⟩ ((sort s).map rgD)) := ⟨_, rfl⟩
  have hl1 : List.length σ1 = List.length σ := by rw [hσ1]; simp [stSet]
  have hg1 : stGet σ1 b = .arr g ⟨2, 44⟩ ((sort s).map rgD) := by rw [hσ1]; simp [stGet, stSet, List.getD_eq_getElem?_getD, hb]
  have hb1 : b < List.length σ1 := by omega
  rw [← hσ1]
  clear hσ1
  rw [← hl1]
  obtain ⟨l, hl⟩ : ∃ l, l = sort s := ⟨_, rfl⟩
  have hfin : normS sort s = l.foldl joinR [] := by rw [normS, hl]
  rw [hfin]
  rw [← hl] at hs hsl hg1
  have hgl : ∀ X : Nv.ST, stGet (σ1 ++ X) b = .arr g ⟨2, 44⟩ (l.map rgD) := fun X => by rw [stGet_left _ _ _ hb1, hg1]
  simp (disch := omega) only [go_sem, reduceIte, reduceDIte, reduceCtorEq, Nat.reduceBEq, Nat.reduceEqDiff, Nat.reduceAdd, Nat.reduceSub, Nat.reduceMul, Nat.reduceLT, Nat.reduceLeDiff, Nat.reduceBNe, Int.reduceNeg, Int.reduceAdd, Int.reduceSub, Int.reduceMul, Int.reduceLT, Int.reduceLE, Int.reduceGT, Int.reduceGE, Int.reduceEq, Int.reduceNe, Int.reduceToNat, Int.reduceTMod, Int.reduceTDiv, hgl]
  refine wL_ind (fun (k : Nat) fr σ' => k ≤ l.length ∧ fr 9 = .own b g 0 n ∧ fr 10 = .d (.int .i64 n) ∧ fr 11 = .d (.int .i64 k) ∧
    ∃ (out : List (Int × Int)) (g' m : Nat) (rest : Nv.ST), m = out.length ∧ out.length ≤ k ∧ out = (l.take k).foldl joinR [] ∧ (∀ q, q ∈ out → CharR q) ∧ fr 3 = .own (List.length σ1) g' 0 m ∧
      σ' = σ1 ++ .arr g' ⟨2, 44⟩ (out.map rgD) :: rest) (fun k => l.length - k) ?_ 0 ?_
  · rintro k fr σ' ⟨hk, f9, f10, f11, out, g', m, rest, hm, hol, ho, hoc, f3, rfl⟩ ih
    have hom : (out.map rgD).length = m := by simp [hm]
    have hta := take_all (out.map rgD) m hom
    by_cases hlt : k < l.length
    · obtain ⟨r, hr⟩ : ∃ r, r = l.getD k default := ⟨_, rfl⟩
      have hrm : r ∈ l := by rw [hr]; exact getD_mem l k hlt
      have hrc := hs r hrm
      have hgk : (l.map rgD).getD k default = rgD r := by rw [hr]; simp [List.getD_eq_getElem?_getD, hlt]
      have hlt2 : k < n := by omega
      have hlk : k < (l.map rgD).length := by simpa using hlt
      have hnext : (l.take (k + 1)).foldl joinR [] = joinR out r := by rw [take_fold l k hlt, ← ho, ← hr]
      simp (disch := omega) only [go_sem, reduceIte, reduceDIte, reduceCtorEq, Nat.reduceBEq, Nat.reduceEqDiff, Nat.reduceAdd, Nat.reduceSub, Nat.reduceMul, Nat.reduceLT, Nat.reduceLeDiff, Nat.reduceBNe, Int.reduceNeg, Int.reduceAdd, Int.reduceSub, Int.reduceMul, Int.reduceLT, Int.reduceLE, Int.reduceGT, Int.reduceGE, Int.reduceEq, Int.reduceNe, Int.reduceToNat, Int.reduceTMod, Int.reduceTDiv, f3, f9, f10, f11, hlt, hlt2, hgl, hgk, hlk, rgD, Nat.zero_add, List.append_assoc, List.cons_append, List.nil_append, List.length_append, stGet_app, stGet_app0, stSet_app, stSet_app0]
      by_cases hm0 : m = 0
      · have hle0 : m ≤ 0 := by omega
        have ho0 : out = [] := List.eq_nil_of_length_eq_zero (by omega)
        have hz : ¬ (0 : Int) < (m : Int) := by omega
        have hnx : joinR out r = [r] := by rw [ho0, joinR_nil']
        have hb1' : (m + 1) * 8 ≤ 140737488355328 := by omega
        rw [ho0] at hom hta ⊢
        simp (disch := omega) only [go_sem, reduceIte, reduceDIte, reduceCtorEq, Nat.reduceBEq, Nat.reduceEqDiff, Nat.reduceAdd, Nat.reduceSub, Nat.reduceMul, Nat.reduceLT, Nat.reduceLeDiff, Nat.reduceBNe, Int.reduceNeg, Int.reduceAdd, Int.reduceSub, Int.reduceMul, Int.reduceLT, Int.reduceLE, Int.reduceGT, Int.reduceGE, Int.reduceEq, Int.reduceNe, Int.reduceToNat, Int.reduceTMod, Int.reduceTDiv, hz, f3, f11, hom, hta, hb1', hle0, hm0, List.length_nil, List.length_cons, List.nil_append, rgD, Nat.zero_add, Nat.le_refl, List.append_assoc, List.cons_append, List.nil_append, List.length_append, stGet_app, stGet_app0, stSet_app, stSet_app0]
        refine ih (k + 1) _ _ (by omega) ⟨by omega, ?_, ?_, ?_, [r], g' + 1, 1, ?r1, by simp, by simp, by rw [hnext, hnx], by simpa using hrc, ?_, ?_⟩
        rotate_right 1
        · rfl
        · simp (disch := omega) only [go_sem, reduceIte, reduceDIte, reduceCtorEq, Nat.reduceBEq, Nat.reduceEqDiff, Nat.reduceAdd, Nat.reduceSub, Nat.reduceMul, Nat.reduceLT, Nat.reduceLeDiff, Nat.reduceBNe, Int.reduceNeg, Int.reduceAdd, Int.reduceSub, Int.reduceMul, Int.reduceLT, Int.reduceLE, Int.reduceGT, Int.reduceGE, Int.reduceEq, Int.reduceNe, Int.reduceToNat, Int.reduceTMod, Int.reduceTDiv, f9]
        · simp (disch := omega) only [go_sem, reduceIte, reduceDIte, reduceCtorEq, Nat.reduceBEq, Nat.reduceEqDiff, Nat.reduceAdd, Nat.reduceSub, Nat.reduceMul, Nat.reduceLT, Nat.reduceLeDiff, Nat.reduceBNe, Int.reduceNeg, Int.reduceAdd, Int.reduceSub, Int.reduceMul, Int.reduceLT, Int.reduceLE, Int.reduceGT, Int.reduceGE, Int.reduceEq, Int.reduceNe, Int.reduceToNat, Int.reduceTMod, Int.reduceTDiv, f10]
        · simp (disch := omega) only [go_sem, reduceIte, reduceDIte, reduceCtorEq, Nat.reduceBEq, Nat.reduceEqDiff, Nat.reduceAdd, Nat.reduceSub, Nat.reduceMul, Nat.reduceLT, Nat.reduceLeDiff, Nat.reduceBNe, Int.reduceNeg, Int.reduceAdd, Int.reduceSub, Int.reduceMul, Int.reduceLT, Int.reduceLE, Int.reduceGT, Int.reduceGE, Int.reduceEq, Int.reduceNe, Int.reduceToNat, Int.reduceTMod, Int.reduceTDiv]
        · simp (disch := omega) only [go_sem, reduceIte, reduceDIte, reduceCtorEq, Nat.reduceBEq, Nat.reduceEqDiff, Nat.reduceAdd, Nat.reduceSub, Nat.reduceMul, Nat.reduceLT, Nat.reduceLeDiff, Nat.reduceBNe, Int.reduceNeg, Int.reduceAdd, Int.reduceSub, Int.reduceMul, Int.reduceLT, Int.reduceLE, Int.reduceGT, Int.reduceGE, Int.reduceEq, Int.reduceNe, Int.reduceToNat, Int.reduceTMod, Int.reduceTDiv]
      · have hz : (0 : Int) < (m : Int) := by omega
        have hmi : IntKind.i64.wrap ((m : Int) - 1) = ((m - 1 : Nat) : Int) := by rw [wrap_id (by omega) (by omega)]; omega
        obtain ⟨q, hq⟩ : ∃ q, q = out.getD (m - 1) default := ⟨_, rfl⟩
        have hqc := hoc q (by rw [hq]; exact getD_mem out (m - 1) (by omega))
        have hqk : (out.map rgD).getD (m - 1) default = rgD q := by rw [hq]; simp [List.getD_eq_getElem?_getD, show m - 1 < out.length by omega]
        have hql : m - 1 < (out.map rgD).length := by omega
        have hqm : m - 1 < m := by omega
        obtain ⟨⟨q0, q1⟩, q2, q3⟩ := hqc
        have hw : IntKind.i32.wrap (q.2 + 1) = q.2 + 1 := wrap_i32 (by omega) (by omega)
        simp (disch := omega) only [go_sem, reduceIte, reduceDIte, reduceCtorEq, Nat.reduceBEq, Nat.reduceEqDiff, Nat.reduceAdd, Nat.reduceSub, Nat.reduceMul, Nat.reduceLT, Nat.reduceLeDiff, Nat.reduceBNe, Int.reduceNeg, Int.reduceAdd, Int.reduceSub, Int.reduceMul, Int.reduceLT, Int.reduceLE, Int.reduceGT, Int.reduceGE, Int.reduceEq, Int.reduceNe, Int.reduceToNat, Int.reduceTMod, Int.reduceTDiv, hz, f3, hmi, hqk, hql, hqm, hom, hw, rgD, Nat.zero_add, List.append_assoc, List.cons_append, List.nil_append, List.length_append, stGet_app, stGet_app0, stSet_app, stSet_app0]
        by_cases hle : r.1 ≤ q.2 + 1
        · have hnx : joinR out r = out.set (m - 1) (q.1, max q.2 r.2) := by
            unfold joinR
            rw [← hm, ← hq, if_pos ⟨by omega, hle⟩]
          simp (disch := omega) only [go_sem, reduceIte, reduceDIte, reduceCtorEq, Nat.reduceBEq, Nat.reduceEqDiff, Nat.reduceAdd, Nat.reduceSub, Nat.reduceMul, Nat.reduceLT, Nat.reduceLeDiff, Nat.reduceBNe, Int.reduceNeg, Int.reduceAdd, Int.reduceSub, Int.reduceMul, Int.reduceLT, Int.reduceLE, Int.reduceGT, Int.reduceGE, Int.reduceEq, Int.reduceNe, Int.reduceToNat, Int.reduceTMod, Int.reduceTDiv, hle, f3, f11, hmi, hqk, hql, hqm, hom, max_if, rgD, Nat.zero_add, List.append_assoc, List.cons_append, List.nil_append, List.length_append, stGet_app, stGet_app0, stSet_app, stSet_app0]
          refine ih (k + 1) _ _ (by omega) ⟨by omega, ?_, ?_, ?_, joinR out r, g', m, ?r2, by rw [hnx, List.length_set, hm], by rw [hnx, List.length_set]; omega, by rw [hnext], joinR_char hoc hrc, ?_, ?_⟩
          rotate_right 1
          · rw [hnx, List.map_set]; rfl
          · simp (disch := omega) only [go_sem, reduceIte, reduceDIte, reduceCtorEq, Nat.reduceBEq, Nat.reduceEqDiff, Nat.reduceAdd, Nat.reduceSub, Nat.reduceMul, Nat.reduceLT, Nat.reduceLeDiff, Nat.reduceBNe, Int.reduceNeg, Int.reduceAdd, Int.reduceSub, Int.reduceMul, Int.reduceLT, Int.reduceLE, Int.reduceGT, Int.reduceGE, Int.reduceEq, Int.reduceNe, Int.reduceToNat, Int.reduceTMod, Int.reduceTDiv, f9]
          · simp (disch := omega) only [go_sem, reduceIte, reduceDIte, reduceCtorEq, Nat.reduceBEq, Nat.reduceEqDiff, Nat.reduceAdd, Nat.reduceSub, Nat.reduceMul, Nat.reduceLT, Nat.reduceLeDiff, Nat.reduceBNe, Int.reduceNeg, Int.reduceAdd, Int.reduceSub, Int.reduceMul, Int.reduceLT, Int.reduceLE, Int.reduceGT, Int.reduceGE, Int.reduceEq, Int.reduceNe, Int.reduceToNat, Int.reduceTMod, Int.reduceTDiv, f10]
          · simp (disch := omega) only [go_sem, reduceIte, reduceDIte, reduceCtorEq, Nat.reduceBEq, Nat.reduceEqDiff, Nat.reduceAdd, Nat.reduceSub, Nat.reduceMul, Nat.reduceLT, Nat.reduceLeDiff, Nat.reduceBNe, Int.reduceNeg, Int.reduceAdd, Int.reduceSub, Int.reduceMul, Int.reduceLT, Int.reduceLE, Int.reduceGT, Int.reduceGE, Int.reduceEq, Int.reduceNe, Int.reduceToNat, Int.reduceTMod, Int.reduceTDiv]
          · simp (disch := omega) only [go_sem, reduceIte, reduceDIte, reduceCtorEq, Nat.reduceBEq, Nat.reduceEqDiff, Nat.reduceAdd, Nat.reduceSub, Nat.reduceMul, Nat.reduceLT, Nat.reduceLeDiff, Nat.reduceBNe, Int.reduceNeg, Int.reduceAdd, Int.reduceSub, Int.reduceMul, Int.reduceLT, Int.reduceLE, Int.reduceGT, Int.reduceGE, Int.reduceEq, Int.reduceNe, Int.reduceToNat, Int.reduceTMod, Int.reduceTDiv, f3]
        · have hnx : joinR out r = out ++ [r] := by
            unfold joinR
            rw [← hm, ← hq, if_neg (by omega)]
          have hb1' : (m + 1) * 8 ≤ 140737488355328 := by omega
          simp (disch := omega) only [go_sem, reduceIte, reduceDIte, reduceCtorEq, Nat.reduceBEq, Nat.reduceEqDiff, Nat.reduceAdd, Nat.reduceSub, Nat.reduceMul, Nat.reduceLT, Nat.reduceLeDiff, Nat.reduceBNe, Int.reduceNeg, Int.reduceAdd, Int.reduceSub, Int.reduceMul, Int.reduceLT, Int.reduceLE, Int.reduceGT, Int.reduceGE, Int.reduceEq, Int.reduceNe, Int.reduceToNat, Int.reduceTMod, Int.reduceTDiv, hle, f3, f11, hom, hta, hb1', rgD, Nat.zero_add, Nat.le_refl, List.append_assoc, List.cons_append, List.nil_append, List.length_append, stGet_app, stGet_app0, stSet_app, stSet_app0]
          refine ih (k + 1) _ _ (by omega) ⟨by omega, ?_, ?_, ?_, joinR out r, g' + 1, m + 1, ?r3, by rw [hnx, List.length_append, hm]; rfl, by rw [hnx, List.length_append]; simp; omega, by rw [hnext], joinR_char hoc hrc, ?_, ?_⟩
          rotate_right 1
          · rw [hnx, List.map_append]; rfl
          · simp (disch := omega) only [go_sem, reduceIte, reduceDIte, reduceCtorEq, Nat.reduceBEq, Nat.reduceEqDiff, Nat.reduceAdd, Nat.reduceSub, Nat.reduceMul, Nat.reduceLT, Nat.reduceLeDiff, Nat.reduceBNe, Int.reduceNeg, Int.reduceAdd, Int.reduceSub, Int.reduceMul, Int.reduceLT, Int.reduceLE, Int.reduceGT, Int.reduceGE, Int.reduceEq, Int.reduceNe, Int.reduceToNat, Int.reduceTMod, Int.reduceTDiv, f9]
          · simp (disch := omega) only [go_sem, reduceIte, reduceDIte, reduceCtorEq, Nat.reduceBEq, Nat.reduceEqDiff, Nat.reduceAdd, Nat.reduceSub, Nat.reduceMul, Nat.reduceLT, Nat.reduceLeDiff, Nat.reduceBNe, Int.reduceNeg, Int.reduceAdd, Int.reduceSub, Int.reduceMul, Int.reduceLT, Int.reduceLE, Int.reduceGT, Int.reduceGE, Int.reduceEq, Int.reduceNe, Int.reduceToNat, Int.reduceTMod, Int.reduceTDiv, f10]
          · simp (disch := omega) only [go_sem, reduceIte, reduceDIte, reduceCtorEq, Nat.reduceBEq, Nat.reduceEqDiff, Nat.reduceAdd, Nat.reduceSub, Nat.reduceMul, Nat.reduceLT, Nat.reduceLeDiff, Nat.reduceBNe, Int.reduceNeg, Int.reduceAdd, Int.reduceSub, Int.reduceMul, Int.reduceLT, Int.reduceLE, Int.reduceGT, Int.reduceGE, Int.reduceEq, Int.reduceNe, Int.reduceToNat, Int.reduceTMod, Int.reduceTDiv]
          · simp (disch := omega) only [go_sem, reduceIte, reduceDIte, reduceCtorEq, Nat.reduceBEq, Nat.reduceEqDiff, Nat.reduceAdd, Nat.reduceSub, Nat.reduceMul, Nat.reduceLT, Nat.reduceLeDiff, Nat.reduceBNe, Int.reduceNeg, Int.reduceAdd, Int.reduceSub, Int.reduceMul, Int.reduceLT, Int.reduceLE, Int.reduceGT, Int.reduceGE, Int.reduceEq, Int.reduceNe, Int.reduceToNat, Int.reduceTMod, Int.reduceTDiv]
    · have ek : l.take k = l := List.take_of_length_le (by omega)
      have hlt2 : ¬ k < n := by omega
      rw [ek] at ho
      rw [← ho]
      simp (disch := omega) only [go_sem, reduceIte, reduceDIte, reduceCtorEq, Nat.reduceBEq, Nat.reduceEqDiff, Nat.reduceAdd, Nat.reduceSub, Nat.reduceMul, Nat.reduceLT, Nat.reduceLeDiff, Nat.reduceBNe, Int.reduceNeg, Int.reduceAdd, Int.reduceSub, Int.reduceMul, Int.reduceLT, Int.reduceLE, Int.reduceGT, Int.reduceGE, Int.reduceEq, Int.reduceNe, Int.reduceToNat, Int.reduceTMod, Int.reduceTDiv, f3, f9, f10, f11, hlt2, List.append_assoc, List.cons_append, List.nil_append, List.length_append, stGet_app, stGet_app0, stSet_app, stSet_app0]
      exact ⟨_, rfl, g', m, rest, hm, rfl, rfl⟩
  · refine ⟨by omega, ?_, ?_, ?_, [], 0, 0, [], rfl, by simp, by simp, by simp, ?_, ?_⟩
    · simp (disch := omega) only [go_sem, reduceIte, reduceDIte, reduceCtorEq, Nat.reduceBEq, Nat.reduceEqDiff, Nat.reduceAdd, Nat.reduceSub, Nat.reduceMul, Nat.reduceLT, Nat.reduceLeDiff, Nat.reduceBNe, Int.reduceNeg, Int.reduceAdd, Int.reduceSub, Int.reduceMul, Int.reduceLT, Int.reduceLE, Int.reduceGT, Int.reduceGE, Int.reduceEq, Int.reduceNe, Int.reduceToNat, Int.reduceTMod, Int.reduceTDiv]
    · simp (disch := omega) only [go_sem, reduceIte, reduceDIte, reduceCtorEq, Nat.reduceBEq, Nat.reduceEqDiff, Nat.reduceAdd, Nat.reduceSub, Nat.reduceMul, Nat.reduceLT, Nat.reduceLeDiff, Nat.reduceBNe, Int.reduceNeg, Int.reduceAdd, Int.reduceSub, Int.reduceMul, Int.reduceLT, Int.reduceLE, Int.reduceGT, Int.reduceGE, Int.reduceEq, Int.reduceNe, Int.reduceToNat, Int.reduceTMod, Int.reduceTDiv]
    · simp (disch := omega) only [go_sem, reduceIte, reduceDIte, reduceCtorEq, Nat.reduceBEq, Nat.reduceEqDiff, Nat.reduceAdd, Nat.reduceSub, Nat.reduceMul, Nat.reduceLT, Nat.reduceLeDiff, Nat.reduceBNe, Int.reduceNeg, Int.reduceAdd, Int.reduceSub, Int.reduceMul, Int.reduceLT, Int.reduceLE, Int.reduceGT, Int.reduceGE, Int.reduceEq, Int.reduceNe, Int.reduceToNat, Int.reduceTMod, Int.reduceTDiv]
    · simp (disch := omega) only [go_sem, reduceIte, reduceDIte, reduceCtorEq, Nat.reduceBEq, Nat.reduceEqDiff, Nat.reduceAdd, Nat.reduceSub, Nat.reduceMul, Nat.reduceLT, Nat.reduceLeDiff, Nat.reduceBNe, Int.reduceNeg, Int.reduceAdd, Int.reduceSub, Int.reduceMul, Int.reduceLT, Int.reduceLE, Int.reduceGT, Int.reduceGE, Int.reduceEq, Int.reduceNe, Int.reduceToNat, Int.reduceTMod, Int.reduceTDiv]
    · rfl
end Go.Proofs.YtebejiilpedlmaaGreatDoor
set_option linter.unusedVariables false
set_option linter.unusedSimpArgs false
set_option maxRecDepth 100000
namespace Go.Proofs.YtebejiilpedlmaaGreatDoor
open Go Nv Pat

theorem numL_nil (n : Int) : numL [] n = (n, []) := rfl
theorem numL_stop {c : Int} (h : digit c = false) (t : List Int) (n : Int) : numL (c :: t) n = (n, c :: t) := by simp [numL, h]
theorem numL_go {c : Int} (h : digit c = true) (t : List Int) (n : Int) : numL (c :: t) n = numL t (min (10 * n + (c - 48)) 1000) := by simp [numL, h]

theorem number77 (l r : List Int) (hl : l.length ≤ 1000000) (h0 : ∀ c, c ∈ l → 0 ≤ c) : PS 77 [] l r ((numP r).map fun x => (.d (.int .i64 x.1), x.2)) := by
  refine PS.of fn77 noHint (Nat.le_refl _) fun A B u e => ?_
  have hul : u.length + r.length = l.length := by rw [e, List.length_append]
  simp (disch := omega) only [go_sem, reduceIte, reduceCtorEq, Nat.reduceBEq, Nat.reduceEqDiff, Nat.reduceAdd, Nat.reduceLT, Nat.reduceLeDiff, Int.reduceNeg, Int.reduceAdd, Int.reduceLT, Int.reduceLE, Int.reduceEq, Int.reduceNe, boxP, List.append_assoc, List.cons_append, List.nil_append, List.length_append, stGet_app, stGet_app0, stSet_app, stSet_app0]
  refine wL_ind (fun (r' : List Int) fr σ => fr 0 = .ptr (List.length A) 0 ∧ fr 3 = .d (.int .i64 u.length) ∧ ∃ (n : Int) (u' : List Int) (τ : Nv.ST), (0 ≤ n ∧ n ≤ 1000) ∧ l = u' ++ r' ∧ numL r 0 = numL r' n ∧ r'.length ≤ r.length ∧ fr 4 = .d (.int .i64 n) ∧
    σ = A ++ boxP l u'.length :: (B ++ τ)) (fun r' => r'.length) ?_ r ?_
  · rintro r' fr σ ⟨f0, f3, n, u', τ, hn, e', hN, hrl, f4, rfl⟩ ih
    have hul' : u'.length + r'.length = l.length := by rw [e', List.length_append]
    have out : (r' = [] ∨ ∃ c t, r' = c :: t ∧ digit c = false) → numL r 0 = (n, r') := by
      rintro (h | ⟨c, t, h, hd⟩)
      · rw [hN, h, numL_nil]
      · rw [hN, h, numL_stop hd]
    simp (disch := omega) only [go_sem, reduceIte, reduceCtorEq, Nat.reduceBEq, Nat.reduceEqDiff, Nat.reduceAdd, Nat.reduceLT, Nat.reduceLeDiff, Int.reduceNeg, Int.reduceAdd, Int.reduceLT, Int.reduceLE, Int.reduceEq, Int.reduceNe, f0]
    refine (peekL l u' r' e' hl A (B ++ τ)).at ?_
    by_cases hdd : 48 ≤ r'.headD (-1) ∧ r'.headD (-1) ≤ 57
    · obtain ⟨hd, hd2⟩ := hdd
      simp (disch := omega) only [go_sem, reduceIte, reduceCtorEq, Nat.reduceBEq, Nat.reduceEqDiff, Nat.reduceAdd, Nat.reduceLT, Nat.reduceLeDiff, Int.reduceNeg, Int.reduceAdd, Int.reduceLT, Int.reduceLE, Int.reduceEq, Int.reduceNe, hd, f0]
      refine (peekL l u' r' e' hl A (B ++ τ)).at ?_
      simp (disch := omega) only [go_sem, reduceIte, reduceCtorEq, Nat.reduceBEq, Nat.reduceEqDiff, Nat.reduceAdd, Nat.reduceLT, Nat.reduceLeDiff, Int.reduceNeg, Int.reduceAdd, Int.reduceLT, Int.reduceLE, Int.reduceEq, Int.reduceNe, hd2, f0, f4]
      cases r' with
      | nil => simp at hd
      | cons c t =>
        simp only [List.headD_cons] at hd hd2
        have hdg : digit c = true := by simp [digit, hd, hd2]
        have hw1 : IntKind.i64.wrap (10 * n) = 10 * n := wrap_id (by omega) (by omega)
        have hw2 : IntKind.i32.wrap (c - 48) = c - 48 := wrap_i32 (by omega) (by omega)
        have hw3 : IntKind.i64.wrap (c - 48) = c - 48 := wrap_id (by omega) (by omega)
        have hw4 : IntKind.i64.wrap (10 * n + (c - 48)) = 10 * n + (c - 48) := wrap_id (by omega) (by omega)
        refine (next84 l (c :: t) hl h0).at A (B ++ τ) u' e' ?_ ?_
        · intro v r2 u2 τ2 ho e2
          cases ho
          simp (disch := omega) only [go_sem, reduceIte, reduceCtorEq, Nat.reduceBEq, Nat.reduceEqDiff, Nat.reduceAdd, Nat.reduceLT, Nat.reduceLeDiff, Int.reduceNeg, Int.reduceAdd, Int.reduceLT, Int.reduceLE, Int.reduceEq, Int.reduceNe, hw1, hw2, hw3, hw4, min_if]
          refine ih t _ _ (by simp) ⟨?_, ?_, min (10 * n + (c - 48)) 1000, u2, τ ++ τ2, by omega, e2, by rw [hN, numL_go hdg], by simp at hrl; omega, ?_, by simp⟩
          · simp (disch := omega) only [go_sem, reduceIte, reduceCtorEq, Nat.reduceBEq, Nat.reduceEqDiff, Nat.reduceAdd, Nat.reduceLT, Nat.reduceLeDiff, Int.reduceNeg, Int.reduceAdd, Int.reduceLT, Int.reduceLE, Int.reduceEq, Int.reduceNe, f0]
          · simp (disch := omega) only [go_sem, reduceIte, reduceCtorEq, Nat.reduceBEq, Nat.reduceEqDiff, Nat.reduceAdd, Nat.reduceLT, Nat.reduceLeDiff, Int.reduceNeg, Int.reduceAdd, Int.reduceLT, Int.reduceLE, Int.reduceEq, Int.reduceNe, f3]
          · simp (disch := omega) only [go_sem, reduceIte, reduceCtorEq, Nat.reduceBEq, Nat.reduceEqDiff, Nat.reduceAdd, Nat.reduceLT, Nat.reduceLeDiff, Int.reduceNeg, Int.reduceAdd, Int.reduceLT, Int.reduceLE, Int.reduceEq, Int.reduceNe]
        · intro ho; cases ho
    · have hN' := out (by
        cases r' with
        | nil => exact .inl rfl
        | cons c t => simp only [List.headD_cons] at hdd; exact .inr ⟨c, t, rfl, by simp [digit]; omega⟩)
      clear ih
      have hnum : numP r = if r'.length = r.length ∨ (r.headD 0 = 48 ∧ r'.length + 1 < r.length) ∨ 20 < n then none else some (n, r') := by rw [numP, hN']
      rw [hnum]
      by_cases hd : 48 ≤ r'.headD (-1)
      case' pos =>
        have hd2 : ¬ r'.headD (-1) ≤ 57 := fun h => hdd ⟨hd, h⟩
        simp (disch := omega) only [go_sem, reduceIte, reduceCtorEq, Nat.reduceBEq, Nat.reduceEqDiff, Nat.reduceAdd, Nat.reduceLT, Nat.reduceLeDiff, Int.reduceNeg, Int.reduceAdd, Int.reduceLT, Int.reduceLE, Int.reduceEq, Int.reduceNe, hd, f0]
        refine (peekL l u' r' e' hl A (B ++ τ)).at ?_
        simp (disch := omega) only [go_sem, reduceIte, reduceCtorEq, Nat.reduceBEq, Nat.reduceEqDiff, Nat.reduceAdd, Nat.reduceLT, Nat.reduceLeDiff, Int.reduceNeg, Int.reduceAdd, Int.reduceLT, Int.reduceLE, Int.reduceEq, Int.reduceNe, hd2, f0, f3, f4, boxP, List.append_assoc, List.cons_append, List.nil_append, List.length_append, stGet_app, stGet_app0, stSet_app, stSet_app0]
      case' neg => simp (disch := omega) only [go_sem, reduceIte, reduceCtorEq, Nat.reduceBEq, Nat.reduceEqDiff, Nat.reduceAdd, Nat.reduceLT, Nat.reduceLeDiff, Int.reduceNeg, Int.reduceAdd, Int.reduceLT, Int.reduceLE, Int.reduceEq, Int.reduceNe, hd, f0, f3, f4, boxP, List.append_assoc, List.cons_append, List.nil_append, List.length_append, stGet_app, stGet_app0, stSet_app, stSet_app0]
      all_goals
        by_cases q1 : r'.length = r.length
        · have q1' : u'.length = u.length := by omega
          simp (disch := omega) only [go_sem, reduceIte, reduceCtorEq, Nat.reduceBEq, Nat.reduceEqDiff, Nat.reduceAdd, Nat.reduceLT, Nat.reduceLeDiff, Int.reduceNeg, Int.reduceAdd, Int.reduceLT, Int.reduceLE, Int.reduceEq, Int.reduceNe, q1, q1', badV, true_or, Option.map_none]; exact ⟨_, rfl⟩
        · have q1' : ¬ u'.length = u.length := by omega
          obtain ⟨c, t, rfl⟩ : ∃ c t, r = c :: t := by
            cases r with
            | nil => simp at hrl; simp [hrl] at q1
            | cons c t => exact ⟨c, t, rfl⟩
          have hg : (runesD l).getD u.length default = .int .i32 c := by rw [e]; exact runes_at u t c
          have hlt : u.length < l.length := by rw [e]; simp
          simp only [List.length_cons] at hul q1 hrl
          have hw5 : IntKind.i64.wrap ((u.length : Int) + 1) = (u.length : Int) + 1 := wrap_id (by omega) (by omega)
          simp (disch := omega) only [go_sem, reduceIte, reduceCtorEq, Nat.reduceBEq, Nat.reduceEqDiff, Nat.reduceAdd, Nat.reduceLT, Nat.reduceLeDiff, Int.reduceNeg, Int.reduceAdd, Int.reduceLT, Int.reduceLE, Int.reduceEq, Int.reduceNe, q1, q1', f0, f3, hg, hlt, runesD_length, hw5, boxP, List.append_assoc, List.cons_append, List.nil_append, List.length_append, stGet_app, stGet_app0, stSet_app, stSet_app0]
          by_cases q2 : c = 48
          · by_cases q3 : u.length + 1 < u'.length
            · have q3' : r'.length + 1 < t.length + 1 := by omega
              simp (disch := omega) only [go_sem, reduceIte, reduceCtorEq, Nat.reduceBEq, Nat.reduceEqDiff, Nat.reduceAdd, Nat.reduceLT, Nat.reduceLeDiff, Int.reduceNeg, Int.reduceAdd, Int.reduceLT, Int.reduceLE, Int.reduceEq, Int.reduceNe, q2, q3, q3', f0, f3, hw5, List.headD_cons, badV, true_or, or_true, true_and, Option.map_none, List.length_cons, boxP, List.append_assoc, List.cons_append, List.nil_append, List.length_append, stGet_app, stGet_app0, stSet_app, stSet_app0]; exact ⟨_, rfl⟩
            · have q3' : ¬ r'.length + 1 < t.length + 1 := by omega
              by_cases q4 : 20 < n
              · simp (disch := omega) only [go_sem, reduceIte, reduceCtorEq, Nat.reduceBEq, Nat.reduceEqDiff, Nat.reduceAdd, Nat.reduceLT, Nat.reduceLeDiff, Int.reduceNeg, Int.reduceAdd, Int.reduceLT, Int.reduceLE, Int.reduceEq, Int.reduceNe, q2, q3, q3', q4, f0, f3, f4, hw5, List.headD_cons, badV, true_or, or_true, true_and, Option.map_none, List.length_cons, boxP, List.append_assoc, List.cons_append, List.nil_append, List.length_append, stGet_app, stGet_app0, stSet_app, stSet_app0]; exact ⟨_, rfl⟩
              · simp (disch := omega) only [go_sem, reduceIte, reduceCtorEq, Nat.reduceBEq, Nat.reduceEqDiff, Nat.reduceAdd, Nat.reduceLT, Nat.reduceLeDiff, Int.reduceNeg, Int.reduceAdd, Int.reduceLT, Int.reduceLE, Int.reduceEq, Int.reduceNe, q1, q2, q3, q3', q4, f0, f3, f4, hw5, List.headD_cons, false_or, and_false, or_self, Option.map_some, List.length_cons, boxP, List.append_assoc, List.cons_append, List.nil_append, List.length_append, stGet_app, stGet_app0, stSet_app, stSet_app0]
                exact ⟨u', τ, e', by simp [boxP]⟩
          · by_cases q4 : 20 < n
            · simp (disch := omega) only [go_sem, reduceIte, reduceCtorEq, Nat.reduceBEq, Nat.reduceEqDiff, Nat.reduceAdd, Nat.reduceLT, Nat.reduceLeDiff, Int.reduceNeg, Int.reduceAdd, Int.reduceLT, Int.reduceLE, Int.reduceEq, Int.reduceNe, q2, q4, f4, List.headD_cons, badV, true_or, or_true, true_and, Option.map_none, List.length_cons]; exact ⟨_, rfl⟩
            · simp (disch := omega) only [go_sem, reduceIte, reduceCtorEq, Nat.reduceBEq, Nat.reduceEqDiff, Nat.reduceAdd, Nat.reduceLT, Nat.reduceLeDiff, Int.reduceNeg, Int.reduceAdd, Int.reduceLT, Int.reduceLE, Int.reduceEq, Int.reduceNe, q1, q2, q4, f4, List.headD_cons, false_or, false_and, or_self, Option.map_some, List.length_cons]
              exact ⟨u', τ, e', rfl⟩
  · refine ⟨?_, ?_, 0, u, [], by omega, e, rfl, by omega, ?_, ?_⟩
    · simp (disch := omega) only [go_sem, reduceIte, reduceCtorEq, Nat.reduceBEq, Nat.reduceEqDiff, Nat.reduceAdd, Nat.reduceLT, Nat.reduceLeDiff, Int.reduceNeg, Int.reduceAdd, Int.reduceLT, Int.reduceLE, Int.reduceEq, Int.reduceNe]
    · simp (disch := omega) only [go_sem, reduceIte, reduceCtorEq, Nat.reduceBEq, Nat.reduceEqDiff, Nat.reduceAdd, Nat.reduceLT, Nat.reduceLeDiff, Int.reduceNeg, Int.reduceAdd, Int.reduceLT, Int.reduceLE, Int.reduceEq, Int.reduceNe]
    · simp (disch := omega) only [go_sem, reduceIte, reduceCtorEq, Nat.reduceBEq, Nat.reduceEqDiff, Nat.reduceAdd, Nat.reduceLT, Nat.reduceLeDiff, Int.reduceNeg, Int.reduceAdd, Int.reduceLT, Int.reduceLE, Int.reduceEq, Int.reduceNe]
    · simp [boxP]
end Go.Proofs.YtebejiilpedlmaaGreatDoor
set_option linter.unusedVariables false
set_option linter.unusedSimpArgs false
set_option maxRecDepth 100000
namespace Go.Proofs.YtebejiilpedlmaaGreatDoor
open Go Nv Pat

theorem let_lt {l r : List Int} {c : Int} (h : letP l = some (c, r)) : r.length < l.length := by
  cases l with
  | nil => cases h
  | cons d t =>
    rw [letP] at h
    split at h
    · cases t with
      | nil => cases h
      | cons d t => simp only [oneP, Option.some.injEq, Prod.mk.injEq] at h; rw [← h.2]; simp; omega
    · split at h
      · cases h
      · simp only [Option.some.injEq, Prod.mk.injEq] at h; rw [← h.2]; simp
theorem clip_char (a b : Int) : ∀ q, q ∈ clipS a b → CharR q := by
  intro q hq
  unfold clipS clip1 at hq
  rcases List.mem_append.1 hq with hq | hq
  · split at hq
    · rw [List.mem_singleton] at hq; subst hq; simp only at *; exact ⟨by simp only; omega, by simp only; omega⟩
    · cases hq
  · split at hq
    · rw [List.mem_singleton] at hq; subst hq; simp only at *; exact ⟨by simp only; omega, by simp only; omega⟩
    · cases hq
theorem fold_char : ∀ (l acc : List (Int × Int)), (∀ q, q ∈ acc → CharR q) → (∀ q, q ∈ l → CharR q) → ∀ q, q ∈ l.foldl joinR acc → CharR q
  | [], acc, h, _ => h
  | r :: l, acc, h, hl => fold_char l (joinR acc r) (joinR_char h (hl r (by simp))) (fun q hq => hl q (by simp [hq]))
theorem fold_len : ∀ (l acc : List (Int × Int)), (l.foldl joinR acc).length ≤ acc.length + l.length
  | [], acc => by simp
  | r :: l, acc => by
    have h1 := fold_len l (joinR acc r)
    have h2 := joinR_len acc r
    rw [List.foldl_cons, List.length_cons]; omega

/-- What is known of the sorting: it sorts in place, and hands back what it took. -/
structure Sorts (sort : List (Int × Int) → List (Int × Int)) : Prop where
  call : SortC sort
  len : ∀ s, (sort s).length = s.length
  mem : ∀ s r, r ∈ sort s ↔ r ∈ s

def hintL : Nat → Hint := fun i => if i = 4 then .own ⟨2, 44⟩ else if i = 37 then .freeze else if i = 39 then .freeze else .no
@[go_sem] theorem hintL_at (i : Nat) : hintL i = if i = 4 then .own ⟨2, 44⟩ else if i = 37 then .freeze else if i = 39 then .freeze else .no := nrfl rfl

theorem class85 (sort : List (Int × Int) → List (Int × Int)) (hS : Sorts sort) (l r : List Int) (hl : l.length ≤ 10000) (h0 : ∀ c, c ∈ l → 0 ≤ c) :
    PS 85 [] l r ((classP sort r).map fun x => (.d (setD x.1), x.2)) := by
  refine PS.of fn85 hintL (Nat.le_refl _) fun A B u e => ?_
  have hl' : l.length ≤ 1000000 := by omega
  simp (disch := omega) only [go_sem, reduceIte, reduceCtorEq, Nat.reduceBEq, Nat.reduceEqDiff, Nat.reduceAdd, Nat.reduceLT, Nat.reduceLeDiff, Int.reduceNeg, Int.reduceAdd, Int.reduceLT, Int.reduceLE, Int.reduceEq, Int.reduceNe]
  refine (skip45 l r hl' 94 (by omega)).at A B u e ?_ (fun h => by cases h)
  intro v r1 u1 τ1 ho e1
  simp only [Option.some.injEq, Prod.mk.injEq] at ho
  obtain ⟨rfl, hr1⟩ := ho
  obtain ⟨neg, hneg⟩ : ∃ neg, neg = decide (r.headD (-1) = 94) := ⟨_, rfl⟩
  have hr1l : r1.length ≤ r.length := by
    rw [← hr1]; split <;> simp
  obtain ⟨tot, htot⟩ : ∃ tot, tot = clsP (r.length + 1) [] r1 := ⟨_, rfl⟩
  have hcl : classP sort r = tot.map fun x => (if neg then compS (normS sort x.1) else normS sort x.1, x.2) := by
    rw [classP, htot, hneg, ← hr1]
    by_cases h : r.headD (-1) = 94
    · simp only [h, if_true, decide_true]
    · simp only [h, if_false, decide_false, Bool.false_eq_true]
  rw [hcl, ← hneg]
  have hul1 : u1.length + r1.length = l.length := by rw [e1, List.length_append]
  clear hcl hr1 hneg
  obtain ⟨B', hB'⟩ : ∃ B', B' = B ++ τ1 := ⟨_, rfl⟩
  rw [← hB']
  simp (disch := omega) only [go_sem, reduceIte, reduceCtorEq, Nat.reduceBEq, Nat.reduceEqDiff, Nat.reduceAdd, Nat.reduceLT, Nat.reduceLeDiff, Int.reduceNeg, Int.reduceAdd, Int.reduceLT, Int.reduceLE, Int.reduceEq, Int.reduceNe, List.append_assoc, List.cons_append, List.nil_append, List.length_append, stGet_app, stGet_app0, stSet_app, stSet_app0]
  refine wL_ind (fun (r' : List Int) fr σ => fr 0 = .ptr (List.length A) 0 ∧ fr 3 = .d (.bool neg) ∧ ∃ (acc : List (Int × Int)) (f g n : Nat) (u' : List Int) (rest : Nv.ST), n = acc.length ∧ acc.length + 2 * r'.length ≤ 2 * r1.length ∧ (∀ q, q ∈ acc → CharR q) ∧ l = u' ++ r' ∧
    r'.length < f ∧ clsP f acc r' = tot ∧ fr 4 = .own (List.length A + (List.length B' + 1)) g 0 n ∧ σ = A ++ boxP l u'.length :: (B' ++ .arr g ⟨2, 44⟩ (acc.map rgD) :: rest)) (fun r' => r'.length) ?_ r1 ?_
  · rintro r' fr σ ⟨f0, f3, acc, f, g, n, u', rest, hn, hal, hac, e', hf, hc, f4, rfl⟩ ih
    have hom : (acc.map rgD).length = n := by simp [hn]
    have hta := take_all (acc.map rgD) n hom
    obtain ⟨f, rfl⟩ : ∃ f', f = f' + 1 := ⟨f - 1, by omega⟩
    rw [clsP] at hc
    by_cases hstop : acc ≠ [] ∧ r'.headD (-1) = 93
    · rw [if_pos hstop] at hc
      have hn0 : 0 < acc.length := by
        cases acc with
        | nil => exact absurd rfl hstop.1
        | cons => simp
      have hnz : ¬ (n : Int) = 0 := by omega
      simp (disch := omega) only [go_sem, reduceIte, reduceCtorEq, Nat.reduceBEq, Nat.reduceEqDiff, Nat.reduceAdd, Nat.reduceLT, Nat.reduceLeDiff, Int.reduceNeg, Int.reduceAdd, Int.reduceLT, Int.reduceLE, Int.reduceEq, Int.reduceNe, f4, f0, hnz, boxP, List.append_assoc, List.cons_append, List.nil_append, List.length_append, stGet_app, stGet_app0, stSet_app, stSet_app0]
      refine (skip45 l r' hl' 93 (by omega)).at A (B' ++ .arr g ⟨2, 44⟩ (acc.map rgD) :: rest) u' e' ?_ (fun h => by cases h)
      intro v r2 u2 τ2 ho e2
      simp only [Option.some.injEq, Prod.mk.injEq] at ho
      obtain ⟨rfl, hr2⟩ := ho
      rw [if_pos hstop.2] at hr2
      simp (disch := omega) only [go_sem, reduceIte, reduceCtorEq, Nat.reduceBEq, Nat.reduceEqDiff, Nat.reduceAdd, Nat.reduceLT, Nat.reduceLeDiff, Int.reduceNeg, Int.reduceAdd, Int.reduceLT, Int.reduceLE, Int.reduceEq, Int.reduceNe, hstop.2, decide_true, f4, List.append_assoc, List.cons_append, List.nil_append, List.length_append, stGet_app, stGet_app0, stSet_app, stSet_app0]
      have hsl := hS.len acc
      have hnm := norm93 sort hS.call acc (fun q hq => hac q ((hS.mem acc q).1 hq)) hsl (by omega) hn0 (List.length A + (List.length B' + 1)) g n hn
        (A ++ boxP l u2.length :: (B' ++ .arr g ⟨2, 44⟩ (acc.map rgD) :: (rest ++ τ2))) (by simp) (by simp (disch := omega) only [go_sem, reduceIte, reduceCtorEq, Nat.reduceBEq, Nat.reduceEqDiff, Nat.reduceAdd, Nat.reduceLT, Nat.reduceLeDiff, Int.reduceNeg, Int.reduceAdd, Int.reduceLT, Int.reduceLE, Int.reduceEq, Int.reduceNe, List.append_assoc, List.cons_append, List.nil_append, List.length_append, stGet_app, stGet_app0, stSet_app, stSet_app0])
      refine hnm.at ?_
      rintro v σ' ⟨g', m, τ', hm, rfl, rfl⟩
      have hnl : (normS sort acc).length ≤ 100000 := by
        have := fold_len (sort acc) []
        rw [normS]; simp at this; omega
      have hnc : ∀ q, q ∈ normS sort acc → CharR q := fold_char _ _ (by simp) (fun q hq => hac q ((hS.mem acc q).1 hq))
      have hom2 : ((normS sort acc).map rgD).length = m := by simp [hm]
      have hta2 := take_all ((normS sort acc).map rgD) m hom2
      rw [← hc, Option.map_some]
      have hu2 : l = u2 ++ r'.tail := by rw [e2, hr2]
      cases neg
      · simp (disch := omega) only [go_sem, reduceIte, reduceCtorEq, Nat.reduceBEq, Nat.reduceEqDiff, Nat.reduceAdd, Nat.reduceLT, Nat.reduceLeDiff, Int.reduceNeg, Int.reduceAdd, Int.reduceLT, Int.reduceLE, Int.reduceEq, Int.reduceNe, f3, hom2, hta2, Nat.zero_add, Nat.le_refl, Bool.false_eq_true, List.append_assoc, List.cons_append, List.nil_append, List.length_append, stGet_app, stGet_app0, stSet_app, stSet_app0]
        refine ⟨rfl, u2, ?q1, hu2, ?_⟩
        rotate_left 1
        · rw [hB']; simp only [List.append_assoc]; rfl
      · have hcm : ∀ g2 : Nat, (compS (normS sort acc)).length = (compS (normS sort acc)).length := fun _ => rfl
        simp (disch := omega) only [go_sem, reduceIte, reduceCtorEq, Nat.reduceBEq, Nat.reduceEqDiff, Nat.reduceAdd, Nat.reduceLT, Nat.reduceLeDiff, Int.reduceNeg, Int.reduceAdd, Int.reduceLT, Int.reduceLE, Int.reduceEq, Int.reduceNe, f3, hom2, hta2, Nat.zero_add, Nat.le_refl, List.append_assoc, List.cons_append, List.nil_append, List.length_append, stGet_app, stGet_app0, stSet_app, stSet_app0]
        refine (comp94 (normS sort acc) hnc hnl _).at ?_
        rintro v σ' ⟨g2, m2, τ3, hm2, rfl, rfl⟩
        have hom3 : ((compS (normS sort acc)).map rgD).length = m2 := by simp [hm2]
        have hta3 := take_all ((compS (normS sort acc)).map rgD) m2 hom3
        simp (disch := omega) only [go_sem, reduceIte, reduceCtorEq, Nat.reduceBEq, Nat.reduceEqDiff, Nat.reduceAdd, Nat.reduceLT, Nat.reduceLeDiff, Int.reduceNeg, Int.reduceAdd, Int.reduceLT, Int.reduceLE, Int.reduceEq, Int.reduceNe, hom3, hta3, Nat.zero_add, Nat.le_refl, List.append_assoc, List.cons_append, List.nil_append, List.length_append, stGet_app, stGet_app0, stSet_app, stSet_app0]
        refine ⟨rfl, u2, ?q2, hu2, ?_⟩
        rotate_left 1
        · rw [hB']; simp only [List.append_assoc]; rfl
    · rw [if_neg hstop] at hc
      by_cases hacc : acc = []
      case' pos =>
        have hnz : (n : Int) = 0 := by rw [hn, hacc]; rfl
        simp (disch := omega) only [go_sem, reduceIte, reduceCtorEq, Nat.reduceBEq, Nat.reduceEqDiff, Nat.reduceAdd, Nat.reduceLT, Nat.reduceLeDiff, Int.reduceNeg, Int.reduceAdd, Int.reduceLT, Int.reduceLE, Int.reduceEq, Int.reduceNe, f4, f0, hnz, boxP, List.append_assoc, List.cons_append, List.nil_append, List.length_append, stGet_app, stGet_app0, stSet_app, stSet_app0]
        generalize hrr : rest = rest2
      case' neg =>
        have hnz : ¬ (n : Int) = 0 := by
          intro h; exact hacc (List.eq_nil_of_length_eq_zero (by omega))
        have hne : ¬ r'.headD (-1) = 93 := fun h => hstop ⟨hacc, h⟩
        simp (disch := omega) only [go_sem, reduceIte, reduceCtorEq, Nat.reduceBEq, Nat.reduceEqDiff, Nat.reduceAdd, Nat.reduceLT, Nat.reduceLeDiff, Int.reduceNeg, Int.reduceAdd, Int.reduceLT, Int.reduceLE, Int.reduceEq, Int.reduceNe, f4, f0, hnz, boxP, List.append_assoc, List.cons_append, List.nil_append, List.length_append, stGet_app, stGet_app0, stSet_app, stSet_app0]
        refine (skip45 l r' hl' 93 (by omega)).at A (B' ++ .arr g ⟨2, 44⟩ (acc.map rgD) :: rest) u' e' ?_ (fun h => by cases h)
        intro v r2 u2 τ2 ho e2
        simp only [Option.some.injEq, Prod.mk.injEq, if_neg hne] at ho
        obtain ⟨rfl, rfl⟩ := ho
        obtain rfl : u' = u2 := List.append_cancel_right (e'.symm.trans e2)
        simp (disch := omega) only [go_sem, reduceIte, reduceCtorEq, Nat.reduceBEq, Nat.reduceEqDiff, Nat.reduceAdd, Nat.reduceLT, Nat.reduceLeDiff, Int.reduceNeg, Int.reduceAdd, Int.reduceLT, Int.reduceLE, Int.reduceEq, Int.reduceNe, hne, decide_false, f0, List.append_assoc, List.cons_append, List.nil_append, List.length_append, stGet_app, stGet_app0, stSet_app, stSet_app0]
        generalize hrr : rest ++ τ2 = rest2
      all_goals
        clear hrr
        refine (letter91 l r' hl' h0).at A (B' ++ .arr g ⟨2, 44⟩ (acc.map rgD) :: rest2) u' e' ?_ (fun hno σ' => ?_)
        · intro v r3 u3 τ3 ho e3
          cases hL : letP r' with
          | none => rw [hL] at ho; cases ho
          | some x =>
            obtain ⟨lo, r3'⟩ := x
            rw [hL] at ho
            simp only [Option.map_some, Option.some.injEq, Prod.mk.injEq] at ho
            obtain ⟨rfl, rfl⟩ := ho
            have hlt := let_lt hL
            simp (disch := omega) only [go_sem, reduceIte, reduceCtorEq, Nat.reduceBEq, Nat.reduceEqDiff, Nat.reduceAdd, Nat.reduceLT, Nat.reduceLeDiff, Int.reduceNeg, Int.reduceAdd, Int.reduceLT, Int.reduceLE, Int.reduceEq, Int.reduceNe, f0, List.append_assoc, List.cons_append, List.nil_append, List.length_append, stGet_app, stGet_app0, stSet_app, stSet_app0]
            refine (skip45 l r3' hl' 45 (by omega)).at A (B' ++ .arr g ⟨2, 44⟩ (acc.map rgD) :: (rest2 ++ τ3)) u3 e3 ?_ (fun h => by cases h)
            intro v r4 u4 τ4 ho e4
            simp only [Option.some.injEq, Prod.mk.injEq] at ho
            obtain ⟨rfl, hr4⟩ := ho
            by_cases h45 : r3'.headD (-1) = 45
            case pos =>
              rw [if_pos h45] at hr4
              simp (disch := omega) only [go_sem, reduceIte, reduceCtorEq, Nat.reduceBEq, Nat.reduceEqDiff, Nat.reduceAdd, Nat.reduceLT, Nat.reduceLeDiff, Int.reduceNeg, Int.reduceAdd, Int.reduceLT, Int.reduceLE, Int.reduceEq, Int.reduceNe, h45, decide_true, f0, List.append_assoc, List.cons_append, List.nil_append, List.length_append, stGet_app, stGet_app0, stSet_app, stSet_app0]
              refine (letter91 l r4 hl' h0).at A (B' ++ .arr g ⟨2, 44⟩ (acc.map rgD) :: (rest2 ++ (τ3 ++ τ4))) u4 e4 ?_ (fun hno σ' => by
                have hi : itemP r' = none := by
                  rw [itemP, hL]; simp only [h45, if_true, hr4]
                  cases hL2 : letP r4 with
                  | none => rfl
                  | some x => rw [hL2] at hno; cases hno
                rw [hi] at hc
                rw [← hc, Option.map_none]
                simp (disch := omega) only [go_sem, reduceIte, reduceCtorEq, Nat.reduceBEq, Nat.reduceEqDiff, Nat.reduceAdd, Nat.reduceLT, Nat.reduceLeDiff, Int.reduceNeg, Int.reduceAdd, Int.reduceLT, Int.reduceLE, Int.reduceEq, Int.reduceNe]; exact ⟨_, rfl⟩)
              intro v r6 u6 τ6 ho e6
              obtain ⟨y, hL2⟩ : ∃ y, letP r4 = some y := by
                cases hL2 : letP r4 with
                | none => rw [hL2] at ho; cases ho
                | some y => exact ⟨y, rfl⟩
              obtain ⟨hi, r6'⟩ := y
              rw [hL2] at ho
              simp only [Option.map_some, Option.some.injEq, Prod.mk.injEq] at ho
              obtain ⟨rfl, rfl⟩ := ho
              have hitem : itemP r' = some ((lo, hi), r6') := by rw [itemP, hL]; simp only [h45, if_true, hr4, hL2, Option.map_some]
              have hlt6 : r6'.length < r'.length := by
                have h1 := let_lt hL2
                have h2 : r4.length ≤ r3'.length := by rw [← hr4]; simp
                omega
              simp (disch := omega) only [go_sem, reduceIte, reduceCtorEq, Nat.reduceBEq, Nat.reduceEqDiff, Nat.reduceAdd, Nat.reduceLT, Nat.reduceLeDiff, Int.reduceNeg, Int.reduceAdd, Int.reduceLT, Int.reduceLE, Int.reduceEq, Int.reduceNe, List.append_assoc, List.cons_append, List.nil_append, List.length_append, stGet_app, stGet_app0, stSet_app, stSet_app0]
              generalize hrr : rest2 ++ (τ3 ++ (τ4 ++ τ6)) = rest3
              rw [hitem] at hc
              simp only at hc
              by_cases hq : hi < lo
              · rw [if_pos hq] at hc
                rw [← hc, Option.map_none]
                simp (disch := omega) only [go_sem, reduceIte, reduceCtorEq, Nat.reduceBEq, Nat.reduceEqDiff, Nat.reduceAdd, Nat.reduceLT, Nat.reduceLeDiff, Int.reduceNeg, Int.reduceAdd, Int.reduceLT, Int.reduceLE, Int.reduceEq, Int.reduceNe, hq, badV]; exact ⟨_, rfl⟩
              · rw [if_neg hq] at hc
                have hcl := clip_len lo hi
                have hb1' : (n + (clipS lo hi).length) * 8 ≤ 140737488355328 := by omega
                simp (disch := omega) only [go_sem, reduceIte, reduceCtorEq, Nat.reduceBEq, Nat.reduceEqDiff, Nat.reduceAdd, Nat.reduceLT, Nat.reduceLeDiff, Int.reduceNeg, Int.reduceAdd, Int.reduceLT, Int.reduceLE, Int.reduceEq, Int.reduceNe, hq]
                refine (clip92 lo hi).at ?_
                simp (disch := omega) only [go_sem, reduceIte, reduceCtorEq, Nat.reduceBEq, Nat.reduceEqDiff, Nat.reduceAdd, Nat.reduceLT, Nat.reduceLeDiff, Int.reduceNeg, Int.reduceAdd, Int.reduceLT, Int.reduceLE, Int.reduceEq, Int.reduceNe, f4, setD, hom, hta, List.length_map, hb1', Nat.zero_add, Nat.le_refl, boxP, List.append_assoc, List.cons_append, List.nil_append, List.length_append, stGet_app, stGet_app0, stSet_app, stSet_app0]
                refine ih r6' _ _ hlt6 ⟨?_, ?_, acc ++ clipS lo hi, f, g + 1, n + (clipS lo hi).length, u6, rest3, by rw [List.length_append, hn], by rw [List.length_append]; omega, ?_, e6, by omega, hc, ?_, ?_⟩
                rotate_right 1
                · rw [List.map_append]; rfl
                · simp (disch := omega) only [go_sem, reduceIte, reduceCtorEq, Nat.reduceBEq, Nat.reduceEqDiff, Nat.reduceAdd, Nat.reduceLT, Nat.reduceLeDiff, Int.reduceNeg, Int.reduceAdd, Int.reduceLT, Int.reduceLE, Int.reduceEq, Int.reduceNe, f0]
                · simp (disch := omega) only [go_sem, reduceIte, reduceCtorEq, Nat.reduceBEq, Nat.reduceEqDiff, Nat.reduceAdd, Nat.reduceLT, Nat.reduceLeDiff, Int.reduceNeg, Int.reduceAdd, Int.reduceLT, Int.reduceLE, Int.reduceEq, Int.reduceNe, f3]
                · intro q hq'
                  rcases List.mem_append.1 hq' with hq' | hq'
                  · exact hac q hq'
                  · exact clip_char lo hi q hq'
                · simp (disch := omega) only [go_sem, reduceIte, reduceCtorEq, Nat.reduceBEq, Nat.reduceEqDiff, Nat.reduceAdd, Nat.reduceLT, Nat.reduceLeDiff, Int.reduceNeg, Int.reduceAdd, Int.reduceLT, Int.reduceLE, Int.reduceEq, Int.reduceNe]
            case neg =>
              rw [if_neg h45] at hr4
              subst hr4
              have hitem : itemP r' = some ((lo, lo), r3') := by rw [itemP, hL]; simp only [h45, if_false]
              have hlt6 : r3'.length < r'.length := hlt
              simp (disch := omega) only [go_sem, reduceIte, reduceCtorEq, Nat.reduceBEq, Nat.reduceEqDiff, Nat.reduceAdd, Nat.reduceLT, Nat.reduceLeDiff, Int.reduceNeg, Int.reduceAdd, Int.reduceLT, Int.reduceLE, Int.reduceEq, Int.reduceNe, h45, decide_false, List.append_assoc, List.cons_append, List.nil_append, List.length_append, stGet_app, stGet_app0, stSet_app, stSet_app0]
              generalize hrr : rest2 ++ (τ3 ++ τ4) = rest3
              rw [hitem] at hc
              simp only at hc
              by_cases hq : lo < lo
              · rw [if_pos hq] at hc
                rw [← hc, Option.map_none]
                simp (disch := omega) only [go_sem, reduceIte, reduceCtorEq, Nat.reduceBEq, Nat.reduceEqDiff, Nat.reduceAdd, Nat.reduceLT, Nat.reduceLeDiff, Int.reduceNeg, Int.reduceAdd, Int.reduceLT, Int.reduceLE, Int.reduceEq, Int.reduceNe, hq, badV]; exact ⟨_, rfl⟩
              · rw [if_neg hq] at hc
                have hcl := clip_len lo lo
                have hb1' : (n + (clipS lo lo).length) * 8 ≤ 140737488355328 := by omega
                simp (disch := omega) only [go_sem, reduceIte, reduceCtorEq, Nat.reduceBEq, Nat.reduceEqDiff, Nat.reduceAdd, Nat.reduceLT, Nat.reduceLeDiff, Int.reduceNeg, Int.reduceAdd, Int.reduceLT, Int.reduceLE, Int.reduceEq, Int.reduceNe, hq]
                refine (clip92 lo lo).at ?_
                simp (disch := omega) only [go_sem, reduceIte, reduceCtorEq, Nat.reduceBEq, Nat.reduceEqDiff, Nat.reduceAdd, Nat.reduceLT, Nat.reduceLeDiff, Int.reduceNeg, Int.reduceAdd, Int.reduceLT, Int.reduceLE, Int.reduceEq, Int.reduceNe, f4, setD, hom, hta, List.length_map, hb1', Nat.zero_add, Nat.le_refl, boxP, List.append_assoc, List.cons_append, List.nil_append, List.length_append, stGet_app, stGet_app0, stSet_app, stSet_app0]
                refine ih r3' _ _ hlt6 ⟨?_, ?_, acc ++ clipS lo lo, f, g + 1, n + (clipS lo lo).length, u4, rest3, by rw [List.length_append, hn], by rw [List.length_append]; omega, ?_, e4, by omega, hc, ?_, ?_⟩
                rotate_right 1
                · rw [List.map_append]; rfl
                · simp (disch := omega) only [go_sem, reduceIte, reduceCtorEq, Nat.reduceBEq, Nat.reduceEqDiff, Nat.reduceAdd, Nat.reduceLT, Nat.reduceLeDiff, Int.reduceNeg, Int.reduceAdd, Int.reduceLT, Int.reduceLE, Int.reduceEq, Int.reduceNe, f0]
                · simp (disch := omega) only [go_sem, reduceIte, reduceCtorEq, Nat.reduceBEq, Nat.reduceEqDiff, Nat.reduceAdd, Nat.reduceLT, Nat.reduceLeDiff, Int.reduceNeg, Int.reduceAdd, Int.reduceLT, Int.reduceLE, Int.reduceEq, Int.reduceNe, f3]
                · intro q hq'
                  rcases List.mem_append.1 hq' with hq' | hq'
                  · exact hac q hq'
                  · exact clip_char lo lo q hq'
                · simp (disch := omega) only [go_sem, reduceIte, reduceCtorEq, Nat.reduceBEq, Nat.reduceEqDiff, Nat.reduceAdd, Nat.reduceLT, Nat.reduceLeDiff, Int.reduceNeg, Int.reduceAdd, Int.reduceLT, Int.reduceLE, Int.reduceEq, Int.reduceNe]
        · cases hL : letP r' with
          | none =>
            rw [itemP, hL] at hc
            rw [← hc, Option.map_none]
            simp (disch := omega) only [go_sem, reduceIte, reduceCtorEq, Nat.reduceBEq, Nat.reduceEqDiff, Nat.reduceAdd, Nat.reduceLT, Nat.reduceLeDiff, Int.reduceNeg, Int.reduceAdd, Int.reduceLT, Int.reduceLE, Int.reduceEq, Int.reduceNe]; exact ⟨_, rfl⟩
          | some x => rw [hL] at hno; cases hno
  · refine ⟨?_, ?_, [], r.length + 1, 0, 0, u1, [], rfl, by simp, by simp, e1, by omega, htot.symm, ?_, ?_⟩
    · simp (disch := omega) only [go_sem, reduceIte, reduceCtorEq, Nat.reduceBEq, Nat.reduceEqDiff, Nat.reduceAdd, Nat.reduceLT, Nat.reduceLeDiff, Int.reduceNeg, Int.reduceAdd, Int.reduceLT, Int.reduceLE, Int.reduceEq, Int.reduceNe]
    · simp (disch := omega) only [go_sem, reduceIte, reduceCtorEq, Nat.reduceBEq, Nat.reduceEqDiff, Nat.reduceAdd, Nat.reduceLT, Nat.reduceLeDiff, Int.reduceNeg, Int.reduceAdd, Int.reduceLT, Int.reduceLE, Int.reduceEq, Int.reduceNe]
    · simp (disch := omega) only [go_sem, reduceIte, reduceCtorEq, Nat.reduceBEq, Nat.reduceEqDiff, Nat.reduceAdd, Nat.reduceLT, Nat.reduceLeDiff, Int.reduceNeg, Int.reduceAdd, Int.reduceLT, Int.reduceLE, Int.reduceEq, Int.reduceNe]
    · simp
end Go.Proofs.YtebejiilpedlmaaGreatDoor
