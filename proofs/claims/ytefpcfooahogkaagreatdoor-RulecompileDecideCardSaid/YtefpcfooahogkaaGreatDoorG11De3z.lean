/- Part of a proof about the functions of this seat. -/
import Derived.Test.YtefpcfooahogkaaGreatDoorG08NvP
import Derived.Below
import Derived.Test.YtefpcfooahogkaaGreatDoorG10Bd3z
/- Deterministic automata: plain, no program. -/
set_option linter.unusedVariables false
set_option linter.unusedSimpArgs false
namespace Dfa

structure Arc where
  lo : Int
  hi : Int
  to : Int
  deriving DecidableEq, Inhabited
structure D where
  start : Int
  arcs : List (List Arc)
  labels : List Int
  deriving Inhabited

def charOk (r : Int) : Bool := decide (0 ≤ r) && decide (r ≤ 1114111) && (decide (r < 55296) || decide (57343 < r))
def arcOk (n : Int) (prev : Option Int) (a : Arc) : Bool :=
  charOk a.lo && charOk a.hi && decide (a.lo ≤ a.hi) && decide (0 ≤ a.to) && decide (a.to < n) && (match prev with | none => true | some h => decide (h < a.lo))
def arcsB (n : Int) (prev : Option Int) : List Arc → Bool
  | [] => true
  | a :: l => arcOk n prev a && arcsB n (some a.hi) l
def statesB (n : Int) : List Int → List (List Arc) → Bool
  | x :: ls, l :: rws => decide (-1 ≤ x) && arcsB n none l && statesB n ls rws
  | _, _ => true
def okB (d : D) : Bool := decide (1 ≤ d.arcs.length) && decide (d.arcs.length ≤ 3000) && decide (d.labels.length = d.arcs.length) && decide (0 ≤ d.start) && decide (d.start < d.arcs.length) && statesB d.arcs.length d.labels d.arcs
def chkD (d : D) : Int := if okB d then 0 else 1
def stepL : List Arc → Int → Int
  | [], _ => -1
  | a :: l, r => if a.lo ≤ r ∧ r ≤ a.hi then a.to else stepL l r
def runFrom (d : D) (s : Int) : List Int → Int
  | [] => d.labels.getD s.toNat 0
  | r :: l => if stepL (d.arcs.getD s.toNat []) r < 0 then -1 else runFrom d (stepL (d.arcs.getD s.toNat []) r) l

theorem arcs_above {n : Int} : ∀ (l : List Arc) (h : Int), arcsB n (some h) l = true → ∀ b, b ∈ l → h < b.lo
  | [], _, _, b, hb => by cases hb
  | a :: l, h, hk, b, hb => by
    simp only [arcsB, arcOk, Bool.and_eq_true, decide_eq_true_eq] at hk
    rcases List.mem_cons.1 hb with rfl | hb
    · omega
    · have := arcs_above l a.hi hk.2 b hb; omega
theorem step_none : ∀ (l : List Arc) (r : Int), (∀ b, b ∈ l → r < b.lo) → stepL l r = -1
  | [], _, _ => rfl
  | a :: l, r, h => by
    have := h a (by simp)
    rw [stepL, if_neg (by omega), step_none l r (fun b hb => h b (by simp [hb]))]
/-- The arc that a search finds is the first that fits. -/
theorem step_search {n : Int} : ∀ (l : List Arc) (prev : Option Int), arcsB n prev l = true → ∀ (r : Int) (k : Nat), k ≤ l.length → (∀ i, i < k → (l.getD i default).hi < r) → (k = l.length ∨ r ≤ (l.getD k default).hi) →
    stepL l r = if k < l.length ∧ (l.getD k default).lo ≤ r then (l.getD k default).to else -1
  | [], _, _, r, k, hk, _, _ => by simp [stepL]
  | a :: l, prev, h, r, 0, hk, _, h2 => by
    simp only [arcsB, Bool.and_eq_true] at h
    have h2' : r ≤ a.hi := by simpa using h2
    simp only [List.getD_cons_zero, List.length_cons, Nat.zero_lt_succ, true_and, stepL]
    by_cases hlo : a.lo ≤ r
    · rw [if_pos ⟨hlo, h2'⟩, if_pos hlo]
    · rw [if_neg (fun g => hlo g.1), if_neg hlo]
      exact step_none l r fun b hb => by have := arcs_above l a.hi h.2 b hb; omega
  | a :: l, prev, h, r, k + 1, hk, h1, h2 => by
    simp only [arcsB, Bool.and_eq_true] at h
    have ha : a.hi < r := by simpa using h1 0 (by omega)
    rw [stepL, if_neg (by omega), step_search l (some a.hi) h.2 r k (by simpa using hk) (fun i hi => by simpa using h1 (i + 1) (by omega)) (by simpa using h2)]
    simp
theorem states_get {n : Int} : ∀ (ls : List Int) (rws : List (List Arc)) (i : Nat), statesB n ls rws = true → i < rws.length → ls.length = rws.length → -1 ≤ ls.getD i 0 ∧ arcsB n none (rws.getD i []) = true
  | [], rws, i, h, hi, hl => by simp at hl; omega
  | x :: ls, [], i, h, hi, hl => by simp at hi
  | x :: ls, a :: rws, 0, h, hi, hl => by
    simp only [statesB, Bool.and_eq_true, decide_eq_true_eq] at h
    exact ⟨by simpa using h.1.1, by simpa using h.1.2⟩
  | x :: ls, a :: rws, i + 1, h, hi, hl => by
    simp only [statesB, Bool.and_eq_true, decide_eq_true_eq] at h
    have := states_get ls rws i h.2 (by simpa using hi) (by simpa using hl)
    simpa using this
theorem step_range {n : Int} : ∀ (l : List Arc) (prev : Option Int), arcsB n prev l = true → ∀ r, stepL l r = -1 ∨ (0 ≤ stepL l r ∧ stepL l r < n)
  | [], _, _, r => .inl rfl
  | a :: l, prev, h, r => by
    simp only [arcsB, arcOk, Bool.and_eq_true, decide_eq_true_eq] at h
    rw [stepL]
    split
    · right; omega
    · exact step_range l _ h.2 r
end Dfa
/- Calls of the library by its contracts. -/


set_option linter.unusedVariables false
set_option linter.unusedSimpArgs false
namespace Nv
open Go Go.RowKit

def sc : AV → Bool
  | .d (.int _ _) => true
  | .d (.bool _) => true
  | .d (.str _) => true
  | _ => false
def scv : AV → Value
  | .d (.int k n) => .int k n
  | .d (.bool b) => .bool b
  | .d (.str s) => .string ⟨s.toArray⟩
  | _ => undef

section
variable {P : Program} {ρ ρ' : RHO} {σ σ' : ST} {I I' : Nat → Prop} {w w' : World}

theorem sc_inv {a : AV} {v : Value} (h : sc a = true) (hv : V ρ σ I w a v) : v = scv a := by
  cases hv <;> try (simp [sc] at h; done)
  rename_i x hx
  cases x <;> simp [sc] at h
  · exact hx.int_inv
  · exact hx.bool_inv
  · exact hx.str_inv
theorem sc_V (ρ : RHO) (σ : ST) (I : Nat → Prop) (w : World) {a : AV} (h : sc a = true) : V ρ σ I w a (scv a) := by
  cases a <;> simp [sc] at h
  rename_i x
  cases x <;> simp [sc] at h
  · exact .d (.int _ _)
  · exact .d (.bool _)
  · exact .d (.str _)

theorem scs_inv {args : List AV} {vs : Array Value} (h : args.all sc = true) (hv : VL ρ σ I w args vs) : vs = (args.map scv).toArray := by
  apply Array.ext
  · simp [hv.1]
  · intro i h1 h2
    have hl : i < args.length := by rw [hv.1]; exact h1
    have := sc_inv (List.all_eq_true.1 h _ (List.getElem_mem hl)) (hv.2 i _ (List.getElem?_eq_getElem hl))
    simp only [Array.getD_eq_getD_getElem?, h1, Array.getElem?_eq_getElem, Option.getD_some] at this
    simp [this]

theorem Step.heap (h : w'.heap = w.heap) (ha : Around w w') : Step ρ I w σ ρ I w' σ :=
  ⟨fun _ _ _ => by rw [h], fun _ h => h, fun _ h => .inl h, fun _ h => .inl h, by rw [h]; exact Nat.le_refl _, fun b blk h => ⟨blk, h, Compat.refl _ _⟩, ha⟩
theorem RS.heap (hr : RS P ρ I w σ) (h : w'.heap = w.heap) (ha : Around w w') : RS P ρ I w' σ :=
  ⟨fun i blk hi => RB.heap h (hr.blk i blk hi) hr (Step.heap h ha), hr.inj, hr.sep, fun B hB => by rw [h]; exact hr.bound B hB, (Step.heap h ha).tabs hr⟩

/-- A contract over worlds, at arguments and a result that hold no address: the heap is avl it was. -/
theorem PCall.of_calls {f : FuncId} {args : List AV} {r : AV} (ha : args.all sc = true) (hr : sc r = true)
    (h : ∀ w : World, Calls P f (args.map scv).toArray w fun e w' => e = .returned (scv r) ∧ w'.heap = w.heap ∧ Around w w') : PCall P f args r := by
  intro σ ρ I w vs hrs hv
  rw [scs_inv ha hv]
  refine (h w).mono ?_
  rintro e w' ⟨rfl, hh, ha⟩
  exact ⟨ρ, I, σ, .ret r, Step.heap hh ha, hrs.heap hh ha, sc_V _ _ _ _ hr, rfl, rfl⟩

/-- A contract over worlds that hold the program's tables; the heap may grow. -/
theorem PCall.of_callsT {f : FuncId} {args : List AV} {r : AV} (ha : args.all sc = true) (hr : sc r = true)
    (h : ∀ (w : World) (I : Nat → Prop), Tabs P I w → Calls P f (args.map scv).toArray w fun e w' => e = .returned (scv r) ∧ Below w.heap.size w w') : PCall P f args r := by
  intro σ ρ I w vs hrs hv
  rw [scs_inv ha hv]
  refine (h w I hrs.tabs).mono ?_
  rintro e w' ⟨rfl, hb⟩
  have hx : Ext w w' := ⟨hb.size, ⟨hb.os, hb.tape, hb.output⟩⟩
  exact ⟨ρ, I, σ, .ret r, Step.more hx hb.block, hrs.more hx hb.block, sc_V _ _ _ _ hr, rfl, rfl⟩

theorem PCall.of_calls' {f : FuncId} {args : List AV} {r : AV} (ha : args.all sc = true) (hr : sc r = true)
    (h : ∀ w : World, Calls P f (args.map scv).toArray w fun e w' => e = .returned (scv r) ∧ w' = w) : PCall P f args r :=
  .of_calls ha hr fun w => (h w).mono fun e w' ⟨h1, h2⟩ => ⟨h1, by rw [h2], h2 ▸ Around.refl w⟩
end
end Nv
/- A nil slice seen avl a list without elements: contracts at data that says less. -/

set_option linter.unusedVariables false
set_option linter.unusedSimpArgs false
namespace Nv
open Go

def WkD (x y : DV) : Prop := x = y ∨ (x = .nilslice ∧ ∃ e, y = .list e [])

inductive WkA : AV → AV → Prop
  | refl (a : AV) : WkA a a
  | nil (e : Nat) : WkA (.d .nilslice) (.d (.list e []))
  | rows {xs ys : List DV} : xs.length = ys.length → (∀ i, i < xs.length → WkD (xs.getD i default) (ys.getD i default)) → WkA (.d (.list 1 xs)) (.d (.list 1 ys))
  | agg {cs ds : List AV} : cs.length = ds.length → (∀ i, i < cs.length → WkA (cs.getD i .any) (ds.getD i .any)) → WkA (.agg cs) (.agg ds)

section
variable {P : Program} {ρ : RHO} {σ : ST} {I : Nat → Prop} {w : World}

theorem VD.wkd {x y : DV} {v : Value} (h : WkD x y) (hv : VD I w x v) : VD I w y v := by
  rcases h with rfl | ⟨rfl, e, rfl⟩
  · exact hv
  · cases hv; exact .listNil _ _

theorem V.wk {a b : AV} (h : WkA a b) : ∀ {v : Value}, V ρ σ I w a v → V ρ σ I w b v := by
  induction h with
  | refl a => exact fun hv => hv
  | nil e => intro v hv; exact .d (VD.wkd (.inr ⟨rfl, e, rfl⟩) hv.d_inv)
  | @rows xs ys hl hx =>
    intro v hv
    cases hv.d_inv with
    | listNil _ p =>
      obtain rfl : ys = [] := List.length_eq_zero_iff.1 (by simpa using hl.symm)
      exact .d (.listNil _ _)
    | @list _ _ b off n cap us q1 q2 q0 q3 q4 =>
      have hy0 : ∀ i, i < ys.length → Uni 1 (ys.getD i default) := by
        intro i hi
        rcases hx i (by omega) with h | ⟨h, e, h'⟩
        · rw [← h]
          refine q0 _ ?_
          rw [List.getD_eq_getElem?_getD, List.getElem?_eq_getElem (by omega)]
          exact List.getElem_mem _
        · rw [h']; exact ⟨rfl, by simp [DV.isAgg]⟩
      have hy : ∀ y, y ∈ ys → Uni 1 y := by
        intro y hm
        obtain ⟨i, hi, rfl⟩ := List.getElem_of_mem hm
        have := hy0 i hi
        rwa [List.getD_eq_getElem?_getD, List.getElem?_eq_getElem hi] at this
      have key : ∀ (j : Nat) (c : DV), (flat ys)[j]? = some c → ∃ c', (flat xs)[j]? = some c' ∧ WkD c' c := by
        intro j c hj
        have hjl : j < (flat ys).length := by
          rcases Nat.lt_or_ge j (flat ys).length with h | h
          · exact h
          · rw [List.getElem?_eq_none h] at hj; cases hj
        rw [flat_len hy, Nat.mul_one] at hjl
        have e1 := flat_get hy (i := j) (o := 0) hjl (by omega)
        have e2 := flat_get q0 (i := j) (o := 0) (by omega) (by omega)
        rw [Nat.mul_one, Nat.add_zero] at e1 e2
        rw [hj] at e1
        rcases hx j (by omega) with h | ⟨h, e, h'⟩
        · rw [h, ← e1] at e2
          exact ⟨c, e2, .inl rfl⟩
        · rw [h'] at e1
          rw [h] at e2
          simp only [DV.cells, List.getElem?_cons_zero, Option.some.injEq] at e1 e2
          exact ⟨_, e2, .inr ⟨rfl, e, e1⟩⟩
      refine .d (.list us (by omega) q2 hy (fun j c hj => ?_) (fun j c hj => ?_))
      · obtain ⟨c', h1, h2⟩ := key j c hj
        exact q3 j c' h1
      · obtain ⟨c', h1, h2⟩ := key j c hj
        exact VD.wkd h2 (q4 j c' h1)
  | @agg cs ds hl _ ih =>
    intro v hv
    cases hv with | agg k1 k2 =>
    refine .agg (by omega) (fun j c hj => ?_)
    have hjl : j < ds.length := by
      rcases Nat.lt_or_ge j ds.length with h | h
      · exact h
      · rw [List.getElem?_eq_none h] at hj; cases hj
    have h1 : cs[j]? = some (cs.getD j .any) := by rw [List.getD_eq_getElem?_getD, List.getElem?_eq_getElem (by omega)]; rfl
    have := ih j (by omega) (k2 j _ h1)
    rwa [List.getD_eq_getElem?_getD, hj] at this

theorem PCall.wk {f : FuncId} {args args' : List AV} {r : AV} (h : PCall P f args' r) (hl : args.length = args'.length) (ha : ∀ i, i < args.length → WkA (args.getD i .any) (args'.getD i .any)) : PCall P f args r := by
  intro σ ρ I w vs hr hv
  refine h σ ρ I w vs hr ⟨by rw [← hl]; exact hv.1, fun j a hj => ?_⟩
  have hjl : j < args'.length := by
    rcases Nat.lt_or_ge j args'.length with h | h
    · exact h
    · rw [List.getElem?_eq_none h] at hj; cases hj
  have h1 : args[j]? = some (args.getD j .any) := by rw [List.getD_eq_getElem?_getD, List.getElem?_eq_getElem (by omega)]; rfl
  have := V.wk (ha j (by omega)) (hv.2 j _ h1)
  rwa [List.getD_eq_getElem?_getD, hj] at this
end
end Nv
set_option linter.unusedVariables false
set_option linter.unusedSimpArgs false
set_option maxRecDepth 100000
namespace Go.Proofs.YtefpcfooahogkaaGreatDoor
open Go Nv Dfa

/- Automata as data; what a character is. -/
def arcD (a : Arc) : DV := .agg [.int .i32 a.lo, .int .i32 a.hi, .int .i64 a.to]
def arcsD (l : List Arc) : DV := .list 3 (l.map arcD)
def statesD (rs : List (List Arc)) : DV := .list 1 (rs.map arcsD)
def labelsD (ls : List Int) : DV := .list 1 (ls.map (DV.int .i64))
def dfaF (d : D) : List AV := [.d (.int .i64 d.start), .d (statesD d.arcs), .d (labelsD d.labels)]
def dfaA (d : D) : AV := .agg (dfaF d)
theorem arcD_cells (a : Arc) : (arcD a).cells = [.int .i32 a.lo, .int .i32 a.hi, .int .i64 a.to] := rfl
theorem arcsD_cells (l : List Arc) : (arcsD l).cells = [arcsD l] := rfl
theorem list_cells (e : Nat) (xs : List DV) : (DV.list e xs).cells = [.list e xs] := rfl
theorem i64_cells (n : Int) : (DV.int .i64 n).cells = [.int .i64 n] := rfl
theorem map_getD {α : Type} [Inhabited α] (f : α → DV) (l : List α) (j : Nat) (h : j < l.length) : (l.map f).getD j default = f (l.getD j default) := by
  simp [List.getD_eq_getElem?_getD, h]
theorem character23 (r : Int) : PCall Tryz.prog 23 [.d (.int .i32 r)] (.d (.bool (charOk r))) := by
  refine fn23.pure noHint (Nat.le_refl _) (by simp only [go_sem]) (by simp only [go_sem]) ?_
  by_cases h1 : 0 ≤ r <;> by_cases h2 : r ≤ 55295 <;> by_cases h3 : 57344 ≤ r <;> by_cases h4 : r ≤ 1114111
  all_goals first
    | (exfalso; omega)
    | (have e : charOk r = true := by { simp only [charOk, Bool.and_eq_true, Bool.or_eq_true, decide_eq_true_eq]; omega }
       simp (disch := omega) only [go_sem, reduceIte, reduceCtorEq, Nat.reduceBEq, Nat.reduceEqDiff, Nat.reduceAdd, Nat.reduceLT, Nat.reduceLeDiff, Int.reduceNeg, Int.reduceAdd, Int.reduceLT, Int.reduceLE, Int.reduceEq, Int.reduceNe, h1, h2, h3, h4, e]; done)
    | (have e : charOk r = false := by { rw [Bool.eq_false_iff]; simp only [charOk, ne_eq, Bool.and_eq_true, Bool.or_eq_true, decide_eq_true_eq]; omega }
       simp (disch := omega) only [go_sem, reduceIte, reduceCtorEq, Nat.reduceBEq, Nat.reduceEqDiff, Nat.reduceAdd, Nat.reduceLT, Nat.reduceLeDiff, Int.reduceNeg, Int.reduceAdd, Int.reduceLT, Int.reduceLE, Int.reduceEq, Int.reduceNe, h1, h2, h3, h4, e]; done)
theorem char42 (r : Int) : PCall Tryz.prog 42 [.d (.int .i32 r)] (.d (.bool (charOk r))) := by
  refine fn42.pure noHint (Nat.le_refl _) (by simp only [go_sem]) (by simp only [go_sem]) ?_
  by_cases h1 : 0 ≤ r <;> by_cases h2 : r ≤ 1114111 <;> by_cases h3 : r < 55296 <;> by_cases h4 : 57343 < r
  all_goals first
    | (exfalso; omega)
    | (have e : charOk r = true := by { simp only [charOk, Bool.and_eq_true, Bool.or_eq_true, decide_eq_true_eq]; omega }
       simp (disch := omega) only [go_sem, reduceIte, reduceCtorEq, Nat.reduceBEq, Nat.reduceEqDiff, Nat.reduceAdd, Nat.reduceLT, Nat.reduceLeDiff, Int.reduceNeg, Int.reduceAdd, Int.reduceLT, Int.reduceLE, Int.reduceEq, Int.reduceNe, h1, h2, h3, h4, e]; done)
    | (have e : charOk r = false := by { rw [Bool.eq_false_iff]; simp only [charOk, ne_eq, Bool.and_eq_true, Bool.or_eq_true, decide_eq_true_eq]; omega }
       simp (disch := omega) only [go_sem, reduceIte, reduceCtorEq, Nat.reduceBEq, Nat.reduceEqDiff, Nat.reduceAdd, Nat.reduceLT, Nat.reduceLeDiff, Int.reduceNeg, Int.reduceAdd, Int.reduceLT, Int.reduceLE, Int.reduceEq, Int.reduceNe, h1, h2, h3, h4, e]; done)
end Go.Proofs.YtefpcfooahogkaaGreatDoor
set_option linter.unusedVariables false
set_option linter.unusedSimpArgs false
set_option maxRecDepth 100000
namespace Go.Proofs.YtefpcfooahogkaaGreatDoor
open Go Nv Dfa

/- The reference's arcs and Check. -/
def prevA (l : List Arc) (j : Nat) : Option Int := if j = 0 then none else some (l.getD (j - 1) default).hi
theorem prev_succ {l : List Arc} {j : Nat} : prevA l (j + 1) = some (l.getD j default).hi := by rw [prevA, if_neg (by omega)]; rfl
theorem arc_drop {l : List Arc} {j : Nat} (h : j < l.length) : l.drop j = l.getD j default :: l.drop (j + 1) := by
  rw [List.drop_eq_getElem_cons h]; simp [List.getD_eq_getElem?_getD, h]
theorem arcs26 (l : List Arc) (n : Nat) (hl : l.length ≤ 1000000) : PCall Tryz.prog 26 [.d (arcsD l), .d (.int .i64 n)] (.d (.bool (arcsB n none l))) := by
  refine fn26.pure noHint (Nat.le_refl _) (by simp only [go_sem, arcsD]) (by simp only [go_sem]) ?_
  simp (disch := omega) only [go_sem, reduceIte, reduceCtorEq, Nat.reduceBEq, Nat.reduceEqDiff, Nat.reduceAdd, Nat.reduceLT, Nat.reduceLeDiff, Int.reduceNeg, Int.reduceAdd, Int.reduceLT, Int.reduceLE, Int.reduceEq, Int.reduceNe, arcsD]
  refine wL_ind (fun (j : Nat) fr σ => j ≤ l.length ∧ fr 0 = .d (.list 3 (l.map arcD)) ∧ fr 1 = .d (.int .i64 n) ∧ fr 5 = .d (.int .i64 j) ∧ arcsB n none l = arcsB n (prevA l j) (l.drop j)) (fun j => l.length - j) ?_ 0 ?_
  · rintro j fr σ ⟨hj, f0, f1, f5, hb⟩ ih
    by_cases hlt : j < l.length
    · obtain ⟨a, ha⟩ : ∃ a, a = l.getD j default := ⟨_, rfl⟩
      have hg := map_getD arcD l j hlt
      rw [← ha] at hg
      rw [arc_drop hlt, ← ha, arcsB] at hb
      have no : arcOk n (prevA l j) a = false → arcsB n none l = false := fun h => by rw [hb, h]; rfl
      simp (disch := omega) only [go_sem, reduceIte, reduceCtorEq, Nat.reduceBEq, Nat.reduceEqDiff, Nat.reduceAdd, Nat.reduceLT, Nat.reduceLeDiff, Int.reduceNeg, Int.reduceAdd, Int.reduceLT, Int.reduceLE, Int.reduceEq, Int.reduceNe, f0, f1, f5, List.length_map, hlt, hg, arcD_cells]
      refine (char42 a.lo).dat ?_
      cases c1 : charOk a.lo
      · have e := no (by simp [arcOk, c1])
        simp (disch := omega) only [go_sem, reduceIte, reduceCtorEq, Nat.reduceBEq, Nat.reduceEqDiff, Nat.reduceAdd, Nat.reduceLT, Nat.reduceLeDiff, Int.reduceNeg, Int.reduceAdd, Int.reduceLT, Int.reduceLE, Int.reduceEq, Int.reduceNe, e]
        done
      simp (disch := omega) only [go_sem, reduceIte, reduceCtorEq, Nat.reduceBEq, Nat.reduceEqDiff, Nat.reduceAdd, Nat.reduceLT, Nat.reduceLeDiff, Int.reduceNeg, Int.reduceAdd, Int.reduceLT, Int.reduceLE, Int.reduceEq, Int.reduceNe]
      refine (char42 a.hi).dat ?_
      cases c2 : charOk a.hi
      · have e := no (by simp [arcOk, c2])
        simp (disch := omega) only [go_sem, reduceIte, reduceCtorEq, Nat.reduceBEq, Nat.reduceEqDiff, Nat.reduceAdd, Nat.reduceLT, Nat.reduceLeDiff, Int.reduceNeg, Int.reduceAdd, Int.reduceLT, Int.reduceLE, Int.reduceEq, Int.reduceNe, e]
        done
      by_cases c3 : a.hi < a.lo
      · have e := no (by simp [arcOk, show ¬ a.lo ≤ a.hi by omega])
        simp (disch := omega) only [go_sem, reduceIte, reduceCtorEq, Nat.reduceBEq, Nat.reduceEqDiff, Nat.reduceAdd, Nat.reduceLT, Nat.reduceLeDiff, Int.reduceNeg, Int.reduceAdd, Int.reduceLT, Int.reduceLE, Int.reduceEq, Int.reduceNe, c3, e]
        done
      by_cases c4 : a.to < 0
      · have e := no (by simp [arcOk, show ¬ 0 ≤ a.to by omega])
        simp (disch := omega) only [go_sem, reduceIte, reduceCtorEq, Nat.reduceBEq, Nat.reduceEqDiff, Nat.reduceAdd, Nat.reduceLT, Nat.reduceLeDiff, Int.reduceNeg, Int.reduceAdd, Int.reduceLT, Int.reduceLE, Int.reduceEq, Int.reduceNe, c3, c4, e]
        done
      by_cases c5 : (n : Int) ≤ a.to
      · have e := no (by simp [arcOk, show ¬ a.to < n by omega])
        simp (disch := omega) only [go_sem, reduceIte, reduceCtorEq, Nat.reduceBEq, Nat.reduceEqDiff, Nat.reduceAdd, Nat.reduceLT, Nat.reduceLeDiff, Int.reduceNeg, Int.reduceAdd, Int.reduceLT, Int.reduceLE, Int.reduceEq, Int.reduceNe, f1, c3, c4, c5, e]
        done
      have ok0 : (charOk a.lo && charOk a.hi && decide (a.lo ≤ a.hi) && decide (0 ≤ a.to) && decide (a.to < (n : Int))) = true := by
        simp only [c1, c2, Bool.true_and, Bool.and_eq_true, decide_eq_true_eq]; omega
      by_cases c6 : 0 < (j : Int)
      · obtain ⟨b, hbb⟩ : ∃ b, b = l.getD (j - 1) default := ⟨_, rfl⟩
        have hg1 := map_getD arcD l (j - 1) (by omega)
        rw [← hbb] at hg1
        have hj1 : (j : Int) - 1 = ((j - 1 : Nat) : Int) := by omega
        have hlt1 : j - 1 < l.length := by omega
        have hp : prevA l j = some b.hi := by rw [prevA, if_neg (by omega), hbb]
        by_cases c7 : a.lo ≤ b.hi
        · have e := no (by simp [arcOk, hp, show ¬ b.hi < a.lo by omega])
          simp (disch := omega) only [go_sem, reduceIte, reduceCtorEq, Nat.reduceBEq, Nat.reduceEqDiff, Nat.reduceAdd, Nat.reduceLT, Nat.reduceLeDiff, Int.reduceNeg, Int.reduceAdd, Int.reduceLT, Int.reduceLE, Int.reduceEq, Int.reduceNe, f0, f1, f5, List.length_map, c3, c4, c5, c6, c7, hg1, hj1, hlt1, arcD_cells, e]
          done
        · have ok : arcOk n (prevA l j) a = true := by unfold arcOk; rw [ok0, hp]; simp; omega
          simp (disch := omega) only [go_sem, reduceIte, reduceCtorEq, Nat.reduceBEq, Nat.reduceEqDiff, Nat.reduceAdd, Nat.reduceLT, Nat.reduceLeDiff, Int.reduceNeg, Int.reduceAdd, Int.reduceLT, Int.reduceLE, Int.reduceEq, Int.reduceNe, f0, f1, f5, List.length_map, c3, c4, c5, c6, c7, hg1, hj1, hlt1, arcD_cells]
          refine ih (j + 1) _ _ (by omega) ⟨by omega, ?_, ?_, ?_, ?_⟩
          · simp (disch := omega) only [go_sem, reduceIte, reduceCtorEq, Nat.reduceBEq, Nat.reduceEqDiff, Nat.reduceAdd, Nat.reduceLT, Nat.reduceLeDiff, Int.reduceNeg, Int.reduceAdd, Int.reduceLT, Int.reduceLE, Int.reduceEq, Int.reduceNe, f0]
          · simp (disch := omega) only [go_sem, reduceIte, reduceCtorEq, Nat.reduceBEq, Nat.reduceEqDiff, Nat.reduceAdd, Nat.reduceLT, Nat.reduceLeDiff, Int.reduceNeg, Int.reduceAdd, Int.reduceLT, Int.reduceLE, Int.reduceEq, Int.reduceNe, f1]
          · simp (disch := omega) only [go_sem, reduceIte, reduceCtorEq, Nat.reduceBEq, Nat.reduceEqDiff, Nat.reduceAdd, Nat.reduceLT, Nat.reduceLeDiff, Int.reduceNeg, Int.reduceAdd, Int.reduceLT, Int.reduceLE, Int.reduceEq, Int.reduceNe, f5]
          · rw [hb, ok, Bool.true_and, prev_succ, ← ha]
      · have hp : prevA l j = none := by rw [prevA, if_pos (by omega)]
        have ok : arcOk n (prevA l j) a = true := by unfold arcOk; rw [ok0, hp]; rfl
        simp (disch := omega) only [go_sem, reduceIte, reduceCtorEq, Nat.reduceBEq, Nat.reduceEqDiff, Nat.reduceAdd, Nat.reduceLT, Nat.reduceLeDiff, Int.reduceNeg, Int.reduceAdd, Int.reduceLT, Int.reduceLE, Int.reduceEq, Int.reduceNe, f0, f1, f5, List.length_map, c3, c4, c5, c6]
        refine ih (j + 1) _ _ (by omega) ⟨by omega, ?_, ?_, ?_, ?_⟩
        · simp (disch := omega) only [go_sem, reduceIte, reduceCtorEq, Nat.reduceBEq, Nat.reduceEqDiff, Nat.reduceAdd, Nat.reduceLT, Nat.reduceLeDiff, Int.reduceNeg, Int.reduceAdd, Int.reduceLT, Int.reduceLE, Int.reduceEq, Int.reduceNe, f0]
        · simp (disch := omega) only [go_sem, reduceIte, reduceCtorEq, Nat.reduceBEq, Nat.reduceEqDiff, Nat.reduceAdd, Nat.reduceLT, Nat.reduceLeDiff, Int.reduceNeg, Int.reduceAdd, Int.reduceLT, Int.reduceLE, Int.reduceEq, Int.reduceNe, f1]
        · simp (disch := omega) only [go_sem, reduceIte, reduceCtorEq, Nat.reduceBEq, Nat.reduceEqDiff, Nat.reduceAdd, Nat.reduceLT, Nat.reduceLeDiff, Int.reduceNeg, Int.reduceAdd, Int.reduceLT, Int.reduceLE, Int.reduceEq, Int.reduceNe, f5]
        · rw [hb, ok, Bool.true_and, prev_succ, ← ha]
    · have e : arcsB n none l = true := by rw [hb, List.drop_eq_nil_of_le (by omega)]; rfl
      simp (disch := omega) only [go_sem, reduceIte, reduceCtorEq, Nat.reduceBEq, Nat.reduceEqDiff, Nat.reduceAdd, Nat.reduceLT, Nat.reduceLeDiff, Int.reduceNeg, Int.reduceAdd, Int.reduceLT, Int.reduceLE, Int.reduceEq, Int.reduceNe, f0, f1, f5, List.length_map, hlt, e]
  · refine ⟨by omega, ?_, ?_, ?_, rfl⟩ <;> simp (disch := omega) only [go_sem, reduceIte, reduceCtorEq, Nat.reduceBEq, Nat.reduceEqDiff, Nat.reduceAdd, Nat.reduceLT, Nat.reduceLeDiff, Int.reduceNeg, Int.reduceAdd, Int.reduceLT, Int.reduceLE, Int.reduceEq, Int.reduceNe]
end Go.Proofs.YtefpcfooahogkaaGreatDoor
set_option linter.unusedVariables false
set_option linter.unusedSimpArgs false
set_option maxRecDepth 100000
namespace Go.Proofs.YtefpcfooahogkaaGreatDoor
open Go Nv Dfa

/- Both functions Check. -/
structure Fair (d : D) : Prop where
  rows : d.arcs.length ≤ 1000000
  arcs : ∀ l, l ∈ d.arcs → l.length ≤ 1000000
  labels : d.labels.length ≤ 1000000
theorem rows_mem {d : D} {j : Nat} (h : j < d.arcs.length) : d.arcs.getD j default ∈ d.arcs := by
  rw [List.getD_eq_getElem?_getD, List.getElem?_eq_getElem h]; exact List.getElem_mem h
theorem drop_get {α : Type} [Inhabited α] {l : List α} {j : Nat} (h : j < l.length) : l.drop j = l.getD j default :: l.drop (j + 1) := by
  rw [List.drop_eq_getElem_cons h]; simp [List.getD_eq_getElem?_getD, h]
theorem chk_bad {d : D} (h : ¬ (1 ≤ d.arcs.length ∧ d.arcs.length ≤ 3000 ∧ d.labels.length = d.arcs.length ∧ 0 ≤ d.start ∧ d.start < d.arcs.length)) : chkD d = 1 := by
  have : okB d = false := by
    rw [Bool.eq_false_iff]
    intro hk
    simp only [okB, Bool.and_eq_true, decide_eq_true_eq] at hk
    omega
  rw [chkD, this]; rfl
theorem chk_rows {d : D} (h : 1 ≤ d.arcs.length ∧ d.arcs.length ≤ 3000 ∧ d.labels.length = d.arcs.length ∧ 0 ≤ d.start ∧ d.start < d.arcs.length) : chkD d = if statesB d.arcs.length d.labels d.arcs then 0 else 1 := by
  have : okB d = statesB d.arcs.length d.labels d.arcs := by
    unfold okB
    rw [decide_eq_true h.1, decide_eq_true h.2.1, decide_eq_true h.2.2.1, decide_eq_true h.2.2.2.1, decide_eq_true h.2.2.2.2]; simp
  rw [chkD, this]
theorem checkRef (d : D) (hf : Fair d) : PCall Tryz.prog 13 [dfaA d] (.d (.int .i64 (chkD d))) := by
  refine fn13.pure noHint (Nat.le_refl _) (by simp only [go_sem, dfaA, dfaF, statesD, labelsD]) (by simp only [go_sem]) ?_
  have hr := hf.rows
  have hlb := hf.labels
  by_cases c1 : (d.arcs.length : Int) < 1
  · have e := chk_bad (d := d) (by omega)
    simp (disch := omega) only [go_sem, reduceIte, reduceCtorEq, Nat.reduceBEq, Nat.reduceEqDiff, Nat.reduceAdd, Nat.reduceLT, Nat.reduceLeDiff, Int.reduceNeg, Int.reduceAdd, Int.reduceLT, Int.reduceLE, Int.reduceEq, Int.reduceNe, dfaA, dfaF, statesD, labelsD, List.length_map, c1, e]
    done
  by_cases c2 : (3000 : Int) < d.arcs.length
  · have e := chk_bad (d := d) (by omega)
    simp (disch := omega) only [go_sem, reduceIte, reduceCtorEq, Nat.reduceBEq, Nat.reduceEqDiff, Nat.reduceAdd, Nat.reduceLT, Nat.reduceLeDiff, Int.reduceNeg, Int.reduceAdd, Int.reduceLT, Int.reduceLE, Int.reduceEq, Int.reduceNe, dfaA, dfaF, statesD, labelsD, List.length_map, c1, c2, e]
    done
  by_cases c3 : (d.labels.length : Int) = d.arcs.length
  case neg =>
    have e := chk_bad (d := d) (by omega)
    have c3' : ¬ d.labels.length = d.arcs.length := by omega
    simp (disch := omega) only [go_sem, reduceIte, reduceCtorEq, Nat.reduceBEq, Nat.reduceEqDiff, Nat.reduceAdd, Nat.reduceLT, Nat.reduceLeDiff, Int.reduceNeg, Int.reduceAdd, Int.reduceLT, Int.reduceLE, Int.reduceEq, Int.reduceNe, dfaA, dfaF, statesD, labelsD, List.length_map, c1, c2, c3', e]
    done
  by_cases c4 : d.start < 0
  · have e := chk_bad (d := d) (by omega)
    simp (disch := omega) only [go_sem, reduceIte, reduceCtorEq, Nat.reduceBEq, Nat.reduceEqDiff, Nat.reduceAdd, Nat.reduceLT, Nat.reduceLeDiff, Int.reduceNeg, Int.reduceAdd, Int.reduceLT, Int.reduceLE, Int.reduceEq, Int.reduceNe, dfaA, dfaF, statesD, labelsD, List.length_map, c1, c2, c3, c4, e]
    done
  by_cases c5 : (d.arcs.length : Int) ≤ d.start
  · have e := chk_bad (d := d) (by omega)
    simp (disch := omega) only [go_sem, reduceIte, reduceCtorEq, Nat.reduceBEq, Nat.reduceEqDiff, Nat.reduceAdd, Nat.reduceLT, Nat.reduceLeDiff, Int.reduceNeg, Int.reduceAdd, Int.reduceLT, Int.reduceLE, Int.reduceEq, Int.reduceNe, dfaA, dfaF, statesD, labelsD, List.length_map, c1, c2, c3, c4, c5, e]
    done
  have hlen : d.labels.length = d.arcs.length := by omega
  have e := chk_rows (d := d) (by omega)
  rw [e]
  simp (disch := omega) only [go_sem, reduceIte, reduceCtorEq, Nat.reduceBEq, Nat.reduceEqDiff, Nat.reduceAdd, Nat.reduceLT, Nat.reduceLeDiff, Int.reduceNeg, Int.reduceAdd, Int.reduceLT, Int.reduceLE, Int.reduceEq, Int.reduceNe, dfaA, dfaF, statesD, labelsD, List.length_map, c1, c2, c3, c4, c5]
  refine wL_ind (fun (j : Nat) fr σ => j ≤ d.arcs.length ∧ fr 1 = .ptr 0 0 ∧ fr 3 = .d (.int .i64 d.arcs.length) ∧ fr 4 = .d (.int .i64 j) ∧ σ = [.box 29 (dfaF d)] ∧
    statesB d.arcs.length d.labels d.arcs = statesB d.arcs.length (d.labels.drop j) (d.arcs.drop j)) (fun j => d.arcs.length - j) ?_ 0 ?_
  · rintro j fr σ ⟨hj, f1, f3, f4, rfl, hb⟩ ih
    by_cases hlt : j < d.arcs.length
    · have hlt2 : j < d.labels.length := by omega
      obtain ⟨l, hl⟩ : ∃ l, l = d.arcs.getD j default := ⟨_, rfl⟩
      obtain ⟨x, hx⟩ : ∃ x, x = d.labels.getD j default := ⟨_, rfl⟩
      have hm := hf.arcs l (by rw [hl]; exact rows_mem hlt)
      have hg := map_getD arcsD d.arcs j hlt
      have hg2 := map_getD (DV.int .i64) d.labels j hlt2
      rw [← hl] at hg
      rw [← hx] at hg2
      rw [drop_get hlt, drop_get hlt2, ← hl, ← hx, statesB] at hb
      by_cases d1 : x < -1
      · have eb : statesB d.arcs.length d.labels d.arcs = false := by rw [hb, decide_eq_false (by omega)]; rfl
        simp (disch := omega) only [go_sem, reduceIte, reduceCtorEq, Nat.reduceBEq, Nat.reduceEqDiff, Nat.reduceAdd, Nat.reduceLT, Nat.reduceLeDiff, Int.reduceNeg, Int.reduceAdd, Int.reduceLT, Int.reduceLE, Int.reduceEq, Int.reduceNe, f1, f3, f4, dfaF, statesD, labelsD, List.length_map, hlt, hlt2, hg, hg2, arcsD_cells, i64_cells, d1, eb]
        done
      have har := arcs26 l d.arcs.length hm
      simp only [arcsD] at har
      simp (disch := omega) only [go_sem, reduceIte, reduceCtorEq, Nat.reduceBEq, Nat.reduceEqDiff, Nat.reduceAdd, Nat.reduceLT, Nat.reduceLeDiff, Int.reduceNeg, Int.reduceAdd, Int.reduceLT, Int.reduceLE, Int.reduceEq, Int.reduceNe, f1, f3, f4, dfaF, statesD, labelsD, List.length_map, hlt, hlt2, hg, hg2, arcsD_cells, i64_cells, d1]
      refine (arcs26 l d.arcs.length hm).at ?_
      cases ho : arcsB d.arcs.length none l
      · have eb : statesB d.arcs.length d.labels d.arcs = false := by rw [hb, ho]; simp
        simp (disch := omega) only [go_sem, reduceIte, reduceCtorEq, Nat.reduceBEq, Nat.reduceEqDiff, Nat.reduceAdd, Nat.reduceLT, Nat.reduceLeDiff, Int.reduceNeg, Int.reduceAdd, Int.reduceLT, Int.reduceLE, Int.reduceEq, Int.reduceNe, eb]
      · simp (disch := omega) only [go_sem, reduceIte, reduceCtorEq, Nat.reduceBEq, Nat.reduceEqDiff, Nat.reduceAdd, Nat.reduceLT, Nat.reduceLeDiff, Int.reduceNeg, Int.reduceAdd, Int.reduceLT, Int.reduceLE, Int.reduceEq, Int.reduceNe, f4]
        refine ih (j + 1) _ _ (by omega) ⟨by omega, ?_, ?_, ?_, rfl, ?_⟩
        · simp (disch := omega) only [go_sem, reduceIte, reduceCtorEq, Nat.reduceBEq, Nat.reduceEqDiff, Nat.reduceAdd, Nat.reduceLT, Nat.reduceLeDiff, Int.reduceNeg, Int.reduceAdd, Int.reduceLT, Int.reduceLE, Int.reduceEq, Int.reduceNe, f1]
        · simp (disch := omega) only [go_sem, reduceIte, reduceCtorEq, Nat.reduceBEq, Nat.reduceEqDiff, Nat.reduceAdd, Nat.reduceLT, Nat.reduceLeDiff, Int.reduceNeg, Int.reduceAdd, Int.reduceLT, Int.reduceLE, Int.reduceEq, Int.reduceNe, f3]
        · simp (disch := omega) only [go_sem, reduceIte, reduceCtorEq, Nat.reduceBEq, Nat.reduceEqDiff, Nat.reduceAdd, Nat.reduceLT, Nat.reduceLeDiff, Int.reduceNeg, Int.reduceAdd, Int.reduceLT, Int.reduceLE, Int.reduceEq, Int.reduceNe, f4]
        · rw [hb, ho, decide_eq_true (by omega)]; rfl
    · have eb : statesB d.arcs.length d.labels d.arcs = true := by rw [hb, List.drop_eq_nil_of_le (by omega), List.drop_eq_nil_of_le (by omega)]; rfl
      simp (disch := omega) only [go_sem, reduceIte, reduceCtorEq, Nat.reduceBEq, Nat.reduceEqDiff, Nat.reduceAdd, Nat.reduceLT, Nat.reduceLeDiff, Int.reduceNeg, Int.reduceAdd, Int.reduceLT, Int.reduceLE, Int.reduceEq, Int.reduceNe, f1, f3, f4, hlt, eb]
  · refine ⟨by omega, ?_, ?_, ?_, rfl, rfl⟩ <;> first | (simp (disch := omega) only [go_sem, reduceIte, reduceCtorEq, Nat.reduceBEq, Nat.reduceEqDiff, Nat.reduceAdd, Nat.reduceLT, Nat.reduceLeDiff, Int.reduceNeg, Int.reduceAdd, Int.reduceLT, Int.reduceLE, Int.reduceEq, Int.reduceNe]; done) | (simp (disch := omega) only [go_sem, reduceIte, reduceCtorEq, Nat.reduceBEq, Nat.reduceEqDiff, Nat.reduceAdd, Nat.reduceLT, Nat.reduceLeDiff, Int.reduceNeg, Int.reduceAdd, Int.reduceLT, Int.reduceLE, Int.reduceEq, Int.reduceNe, List.length_map]; done) | rfl
end Go.Proofs.YtefpcfooahogkaaGreatDoor
set_option linter.unusedVariables false
set_option linter.unusedSimpArgs false
set_option maxRecDepth 100000
namespace Go.Proofs.YtefpcfooahogkaaGreatDoor
open Go Nv Dfa

set_option maxHeartbeats 4000000 in
theorem checkDfa (d : D) (hf : Fair d) : PCall Tryz.prog 11 [dfaA d] (.d (.int .i64 (chkD d))) := by
  refine fn11.pure noHint (Nat.le_refl _) (by simp only [go_sem, dfaA, dfaF, statesD, labelsD]) (by simp only [go_sem]) ?_
  have hr := hf.rows
  have hlb := hf.labels
  by_cases c1 : (d.arcs.length : Int) < 1
  · have e := chk_bad (d := d) (by omega)
    simp (disch := omega) only [go_sem, reduceIte, reduceCtorEq, Nat.reduceBEq, Nat.reduceEqDiff, Nat.reduceAdd, Nat.reduceLT, Nat.reduceLeDiff, Int.reduceNeg, Int.reduceAdd, Int.reduceLT, Int.reduceLE, Int.reduceEq, Int.reduceNe, dfaA, dfaF, statesD, labelsD, List.length_map, c1, e]
    done
  by_cases c2 : (3000 : Int) < d.arcs.length
  · have e := chk_bad (d := d) (by omega)
    simp (disch := omega) only [go_sem, reduceIte, reduceCtorEq, Nat.reduceBEq, Nat.reduceEqDiff, Nat.reduceAdd, Nat.reduceLT, Nat.reduceLeDiff, Int.reduceNeg, Int.reduceAdd, Int.reduceLT, Int.reduceLE, Int.reduceEq, Int.reduceNe, dfaA, dfaF, statesD, labelsD, List.length_map, c1, c2, e]
    done
  by_cases c3 : (d.labels.length : Int) = d.arcs.length
  case neg =>
    have e := chk_bad (d := d) (by omega)
    have c3' : ¬ d.labels.length = d.arcs.length := by omega
    simp (disch := omega) only [go_sem, reduceIte, reduceCtorEq, Nat.reduceBEq, Nat.reduceEqDiff, Nat.reduceAdd, Nat.reduceLT, Nat.reduceLeDiff, Int.reduceNeg, Int.reduceAdd, Int.reduceLT, Int.reduceLE, Int.reduceEq, Int.reduceNe, dfaA, dfaF, statesD, labelsD, List.length_map, c1, c2, c3', e]
    done
  by_cases c4 : d.start < 0
  · have e := chk_bad (d := d) (by omega)
    simp (disch := omega) only [go_sem, reduceIte, reduceCtorEq, Nat.reduceBEq, Nat.reduceEqDiff, Nat.reduceAdd, Nat.reduceLT, Nat.reduceLeDiff, Int.reduceNeg, Int.reduceAdd, Int.reduceLT, Int.reduceLE, Int.reduceEq, Int.reduceNe, dfaA, dfaF, statesD, labelsD, List.length_map, c1, c2, c3, c4, e]
    done
  by_cases c5 : (d.arcs.length : Int) ≤ d.start
  · have e := chk_bad (d := d) (by omega)
    simp (disch := omega) only [go_sem, reduceIte, reduceCtorEq, Nat.reduceBEq, Nat.reduceEqDiff, Nat.reduceAdd, Nat.reduceLT, Nat.reduceLeDiff, Int.reduceNeg, Int.reduceAdd, Int.reduceLT, Int.reduceLE, Int.reduceEq, Int.reduceNe, dfaA, dfaF, statesD, labelsD, List.length_map, c1, c2, c3, c4, c5, e]
    done
  have hlen : d.labels.length = d.arcs.length := by omega
  have e := chk_rows (d := d) (by omega)
  rw [e]
  simp (disch := omega) only [go_sem, reduceIte, reduceCtorEq, Nat.reduceBEq, Nat.reduceEqDiff, Nat.reduceAdd, Nat.reduceLT, Nat.reduceLeDiff, Int.reduceNeg, Int.reduceAdd, Int.reduceLT, Int.reduceLE, Int.reduceEq, Int.reduceNe, dfaA, dfaF, statesD, labelsD, List.length_map, c1, c2, c3, c4, c5]
  refine wL_ind (fun (i : Nat) fr σ => i ≤ d.arcs.length ∧ fr 1 = .ptr 0 0 ∧ fr 3 = .d (.int .i64 d.arcs.length) ∧ fr 36 = .d (.list 1 (d.arcs.map arcsD)) ∧ fr 37 = .d (.int .i64 d.arcs.length) ∧ fr 38 = .d (.int .i64 i) ∧ (∃ B, σ = .box 29 (dfaF d) :: B) ∧
    statesB d.arcs.length d.labels d.arcs = statesB d.arcs.length (d.labels.drop i) (d.arcs.drop i)) (fun i => d.arcs.length - i) ?_ 0 ?_
  · rintro i fr σ ⟨hi, f1, f3, f36, f37, f38, ⟨B, rfl⟩, hb⟩ ih
    by_cases hlt : i < d.arcs.length
    · have hlt2 : i < d.labels.length := by omega
      obtain ⟨l, hl⟩ : ∃ l, l = d.arcs.getD i default := ⟨_, rfl⟩
      obtain ⟨x, hx⟩ : ∃ x, x = d.labels.getD i default := ⟨_, rfl⟩
      have hm := hf.arcs l (by rw [hl]; exact rows_mem hlt)
      have hg := map_getD arcsD d.arcs i hlt
      have hg2 := map_getD (DV.int .i64) d.labels i hlt2
      rw [← hl] at hg
      rw [← hx] at hg2
      rw [drop_get hlt, drop_get hlt2, ← hl, ← hx, statesB] at hb
      by_cases d1 : x < -1
      · have eb : statesB d.arcs.length d.labels d.arcs = false := by rw [hb, decide_eq_false (by omega)]; rfl
        simp (disch := omega) only [go_sem, reduceIte, reduceCtorEq, Nat.reduceBEq, Nat.reduceEqDiff, Nat.reduceAdd, Nat.reduceLT, Nat.reduceLeDiff, Int.reduceNeg, Int.reduceAdd, Int.reduceLT, Int.reduceLE, Int.reduceEq, Int.reduceNe, f1, f3, f36, f37, f38, dfaF, statesD, labelsD, List.length_map, hlt, hlt2, hg, hg2, arcsD_cells, i64_cells, d1, eb]
        done
      rw [decide_eq_true (show -1 ≤ x by omega), Bool.true_and] at hb
      simp (disch := omega) only [go_sem, reduceIte, reduceCtorEq, Nat.reduceBEq, Nat.reduceEqDiff, Nat.reduceAdd, Nat.reduceLT, Nat.reduceLeDiff, Int.reduceNeg, Int.reduceAdd, Int.reduceLT, Int.reduceLE, Int.reduceEq, Int.reduceNe, f1, f3, f36, f37, f38, dfaF, statesD, labelsD, List.length_map, hlt, hlt2, hg, hg2, arcsD_cells, i64_cells, d1, arcsD]
      refine wL_ind (fun (j : Nat) fr σ => j ≤ l.length ∧ fr 1 = .ptr 0 0 ∧ fr 3 = .d (.int .i64 d.arcs.length) ∧ fr 36 = .d (.list 1 (d.arcs.map arcsD)) ∧ fr 37 = .d (.int .i64 d.arcs.length) ∧ fr 38 = .d (.int .i64 i) ∧
        fr 5 = .d (.list 3 (l.map arcD)) ∧ fr 49 = .d (.list 3 (l.map arcD)) ∧ fr 50 = .d (.int .i64 l.length) ∧ fr 51 = .d (.int .i64 j) ∧ (∃ B, σ = .box 29 (dfaF d) :: B) ∧ arcsB d.arcs.length none l = arcsB d.arcs.length (prevA l j) (l.drop j)) (fun j => l.length - j) ?_ 0 ?_
      · rintro j fr σ ⟨hj, f1, f3, f36, f37, f38, f5, f49, f50, f51, ⟨B, rfl⟩, hba⟩ ih2
        by_cases hltj : j < l.length
        · obtain ⟨a, ha⟩ : ∃ a, a = l.getD j default := ⟨_, rfl⟩
          have hga := map_getD arcD l j hltj
          rw [← ha] at hga
          rw [arc_drop hltj, ← ha, arcsB] at hba
          have no : arcOk d.arcs.length (prevA l j) a = false → statesB d.arcs.length d.labels d.arcs = false := fun h => by rw [hb, hba, h]; simp
          simp (disch := omega) only [go_sem, reduceIte, reduceCtorEq, Nat.reduceBEq, Nat.reduceEqDiff, Nat.reduceAdd, Nat.reduceLT, Nat.reduceLeDiff, Int.reduceNeg, Int.reduceAdd, Int.reduceLT, Int.reduceLE, Int.reduceEq, Int.reduceNe, f5, f49, f50, f51, List.length_map, hltj, hga, arcD_cells]
          refine (character23 a.lo).dat ?_
          cases k1 : charOk a.lo
          · have e := no (by simp [arcOk, k1])
            simp (disch := omega) only [go_sem, reduceIte, reduceCtorEq, Nat.reduceBEq, Nat.reduceEqDiff, Nat.reduceAdd, Nat.reduceLT, Nat.reduceLeDiff, Int.reduceNeg, Int.reduceAdd, Int.reduceLT, Int.reduceLE, Int.reduceEq, Int.reduceNe, e]
            done
          simp (disch := omega) only [go_sem, reduceIte, reduceCtorEq, Nat.reduceBEq, Nat.reduceEqDiff, Nat.reduceAdd, Nat.reduceLT, Nat.reduceLeDiff, Int.reduceNeg, Int.reduceAdd, Int.reduceLT, Int.reduceLE, Int.reduceEq, Int.reduceNe]
          refine (character23 a.hi).dat ?_
          cases k2 : charOk a.hi
          · have e := no (by simp [arcOk, k2])
            simp (disch := omega) only [go_sem, reduceIte, reduceCtorEq, Nat.reduceBEq, Nat.reduceEqDiff, Nat.reduceAdd, Nat.reduceLT, Nat.reduceLeDiff, Int.reduceNeg, Int.reduceAdd, Int.reduceLT, Int.reduceLE, Int.reduceEq, Int.reduceNe, e]
            done
          by_cases k3 : a.hi < a.lo
          · have e := no (by simp [arcOk, show ¬ a.lo ≤ a.hi by omega])
            simp (disch := omega) only [go_sem, reduceIte, reduceCtorEq, Nat.reduceBEq, Nat.reduceEqDiff, Nat.reduceAdd, Nat.reduceLT, Nat.reduceLeDiff, Int.reduceNeg, Int.reduceAdd, Int.reduceLT, Int.reduceLE, Int.reduceEq, Int.reduceNe, k3, e]
            done
          by_cases k4 : a.to < 0
          · have e := no (by simp [arcOk, show ¬ 0 ≤ a.to by omega])
            simp (disch := omega) only [go_sem, reduceIte, reduceCtorEq, Nat.reduceBEq, Nat.reduceEqDiff, Nat.reduceAdd, Nat.reduceLT, Nat.reduceLeDiff, Int.reduceNeg, Int.reduceAdd, Int.reduceLT, Int.reduceLE, Int.reduceEq, Int.reduceNe, k3, k4, e]
            done
          by_cases k5 : (d.arcs.length : Int) ≤ a.to
          · have e := no (by simp [arcOk, show ¬ a.to < d.arcs.length by omega])
            simp (disch := omega) only [go_sem, reduceIte, reduceCtorEq, Nat.reduceBEq, Nat.reduceEqDiff, Nat.reduceAdd, Nat.reduceLT, Nat.reduceLeDiff, Int.reduceNeg, Int.reduceAdd, Int.reduceLT, Int.reduceLE, Int.reduceEq, Int.reduceNe, f3, k3, k4, k5, e]
            done
          have ok0 : (charOk a.lo && charOk a.hi && decide (a.lo ≤ a.hi) && decide (0 ≤ a.to) && decide (a.to < (d.arcs.length : Int))) = true := by
            simp only [k1, k2, Bool.true_and, Bool.and_eq_true, decide_eq_true_eq]; omega
          by_cases k6 : 0 < (j : Int)
          · obtain ⟨b, hbb⟩ : ∃ b, b = l.getD (j - 1) default := ⟨_, rfl⟩
            have hg1 := map_getD arcD l (j - 1) (by omega)
            rw [← hbb] at hg1
            have hj1 : (j : Int) - 1 = ((j - 1 : Nat) : Int) := by omega
            have hlt1 : j - 1 < l.length := by omega
            have hp : prevA l j = some b.hi := by rw [prevA, if_neg (by omega), hbb]
            by_cases k7 : a.lo ≤ b.hi
            · have e := no (by simp [arcOk, hp, show ¬ b.hi < a.lo by omega])
              simp (disch := omega) only [go_sem, reduceIte, reduceCtorEq, Nat.reduceBEq, Nat.reduceEqDiff, Nat.reduceAdd, Nat.reduceLT, Nat.reduceLeDiff, Int.reduceNeg, Int.reduceAdd, Int.reduceLT, Int.reduceLE, Int.reduceEq, Int.reduceNe, f3, f5, f49, f50, f51, List.length_map, k3, k4, k5, k6, k7, hg1, hj1, hlt1, arcD_cells, e]
              done
            · have ok : arcOk d.arcs.length (prevA l j) a = true := by unfold arcOk; rw [ok0, hp]; simp; omega
              simp (disch := omega) only [go_sem, reduceIte, reduceCtorEq, Nat.reduceBEq, Nat.reduceEqDiff, Nat.reduceAdd, Nat.reduceLT, Nat.reduceLeDiff, Int.reduceNeg, Int.reduceAdd, Int.reduceLT, Int.reduceLE, Int.reduceEq, Int.reduceNe, f3, f5, f49, f50, f51, List.length_map, k3, k4, k5, k6, k7, hg1, hj1, hlt1, arcD_cells]
              refine ih2 (j + 1) _ _ (by omega) ⟨by omega, ?_, ?_, ?_, ?_, ?_, ?_, ?_, ?_, ?_, ⟨_, rfl⟩, ?_⟩
              all_goals first | (simp (disch := omega) only [go_sem, reduceIte, reduceCtorEq, Nat.reduceBEq, Nat.reduceEqDiff, Nat.reduceAdd, Nat.reduceLT, Nat.reduceLeDiff, Int.reduceNeg, Int.reduceAdd, Int.reduceLT, Int.reduceLE, Int.reduceEq, Int.reduceNe, f1, f3, f36, f37, f38, f5, f49, f50, f51]; done) | (rw [hba, ok, Bool.true_and, prev_succ, ← ha])
          · have hp : prevA l j = none := by rw [prevA, if_pos (by omega)]
            have ok : arcOk d.arcs.length (prevA l j) a = true := by unfold arcOk; rw [ok0, hp]; rfl
            simp (disch := omega) only [go_sem, reduceIte, reduceCtorEq, Nat.reduceBEq, Nat.reduceEqDiff, Nat.reduceAdd, Nat.reduceLT, Nat.reduceLeDiff, Int.reduceNeg, Int.reduceAdd, Int.reduceLT, Int.reduceLE, Int.reduceEq, Int.reduceNe, f3, f5, f49, f50, f51, List.length_map, k3, k4, k5, k6]
            refine ih2 (j + 1) _ _ (by omega) ⟨by omega, ?_, ?_, ?_, ?_, ?_, ?_, ?_, ?_, ?_, ⟨_, rfl⟩, ?_⟩
            all_goals first | (simp (disch := omega) only [go_sem, reduceIte, reduceCtorEq, Nat.reduceBEq, Nat.reduceEqDiff, Nat.reduceAdd, Nat.reduceLT, Nat.reduceLeDiff, Int.reduceNeg, Int.reduceAdd, Int.reduceLT, Int.reduceLE, Int.reduceEq, Int.reduceNe, f1, f3, f36, f37, f38, f5, f49, f50, f51]; done) | (rw [hba, ok, Bool.true_and, prev_succ, ← ha])
        · have eb : arcsB d.arcs.length none l = true := by rw [hba, List.drop_eq_nil_of_le (by omega)]; rfl
          simp (disch := omega) only [go_sem, reduceIte, reduceCtorEq, Nat.reduceBEq, Nat.reduceEqDiff, Nat.reduceAdd, Nat.reduceLT, Nat.reduceLeDiff, Int.reduceNeg, Int.reduceAdd, Int.reduceLT, Int.reduceLE, Int.reduceEq, Int.reduceNe, f38, f50, f51, hltj]
          refine ih (i + 1) _ _ (by omega) ⟨by omega, ?_, ?_, ?_, ?_, ?_, ⟨_, rfl⟩, ?_⟩
          all_goals first | (simp (disch := omega) only [go_sem, reduceIte, reduceCtorEq, Nat.reduceBEq, Nat.reduceEqDiff, Nat.reduceAdd, Nat.reduceLT, Nat.reduceLeDiff, Int.reduceNeg, Int.reduceAdd, Int.reduceLT, Int.reduceLE, Int.reduceEq, Int.reduceNe, f1, f3, f36, f37, f38]; done) | (rw [hb, eb, Bool.true_and])
      · refine ⟨by omega, ?_, ?_, ?_, ?_, ?_, ?_, ?_, ?_, ?_, ⟨_, rfl⟩, rfl⟩ <;> first | (simp (disch := omega) only [go_sem, reduceIte, reduceCtorEq, Nat.reduceBEq, Nat.reduceEqDiff, Nat.reduceAdd, Nat.reduceLT, Nat.reduceLeDiff, Int.reduceNeg, Int.reduceAdd, Int.reduceLT, Int.reduceLE, Int.reduceEq, Int.reduceNe, f1, f3, f36, f37, f38, List.length_map]; done) | rfl
    · have eb : statesB d.arcs.length d.labels d.arcs = true := by rw [hb, List.drop_eq_nil_of_le (by omega), List.drop_eq_nil_of_le (by omega)]; rfl
      simp (disch := omega) only [go_sem, reduceIte, reduceCtorEq, Nat.reduceBEq, Nat.reduceEqDiff, Nat.reduceAdd, Nat.reduceLT, Nat.reduceLeDiff, Int.reduceNeg, Int.reduceAdd, Int.reduceLT, Int.reduceLE, Int.reduceEq, Int.reduceNe, f1, f3, f36, f37, f38, hlt, eb]
  · refine ⟨by omega, ?_, ?_, ?_, ?_, ?_, ⟨_, rfl⟩, rfl⟩ <;> first | (simp (disch := omega) only [go_sem, reduceIte, reduceCtorEq, Nat.reduceBEq, Nat.reduceEqDiff, Nat.reduceAdd, Nat.reduceLT, Nat.reduceLeDiff, Int.reduceNeg, Int.reduceAdd, Int.reduceLT, Int.reduceLE, Int.reduceEq, Int.reduceNe]; done) | (simp (disch := omega) only [go_sem, reduceIte, reduceCtorEq, Nat.reduceBEq, Nat.reduceEqDiff, Nat.reduceAdd, Nat.reduceLT, Nat.reduceLeDiff, Int.reduceNeg, Int.reduceAdd, Int.reduceLT, Int.reduceLE, Int.reduceEq, Int.reduceNe, List.length_map]; done) | rfl
end Go.Proofs.YtefpcfooahogkaaGreatDoor
set_option linter.unusedVariables false
set_option linter.unusedSimpArgs false
set_option maxRecDepth 100000
namespace Go.Proofs.YtefpcfooahogkaaGreatDoor
open Go Nv Dfa

/- The program's next: a search. -/
theorem wrap_u64 {n : Int} (h1 : 0 ≤ n) (h2 : n < 18446744073709551616) : IntKind.u64.wrap n = n := by
  have e1 : (2 : Int) ^ 64 = 18446744073709551616 := by decide
  simp only [IntKind.wrap, IntKind.bits, IntKind.signed, Bool.false_and, e1, if_false, Bool.false_eq_true]
  omega
theorem half (i j : Nat) (h : i + j ≤ 2000000) : IntKind.i64.wrap ((IntKind.u64.wrap ((i : Int) + (j : Int))).fdiv (2 ^ min 1 64)) = (((i + j) / 2 : Nat) : Int) := by
  rw [wrap_u64 (by omega) (by omega)]
  have e : ((i : Int) + (j : Int)).fdiv (2 ^ min 1 64) = (((i + j) / 2 : Nat) : Int) := by
    have e1 : ((2 : Int) ^ min 1 64) = ((2 : Nat) : Int) := by decide
    have e2 : (i : Int) + (j : Int) = ((i + j : Nat) : Int) := by omega
    rw [e1, e2, Int.fdiv_eq_ediv_of_nonneg _ (by decide)]; omega
  rw [e, wrap_id (by omega) (by omega)]
def nextS (l : List Arc) (r : Int) : Nv.ST := [.box 40 [.d (arcsD l)], .box 21 [.d (.int .i32 r)]]
theorem next41 (l : List Arc) (r : Int) (h : Nat) (hh : h < l.length) : RCall Tryz.prog 41 [.d (.int .i64 h), .ptr 0 0, .ptr 1 0] (nextS l r) fun v σ' => v = .d (.bool (decide (r ≤ (l.getD h default).hi))) ∧ σ' = nextS l r := by
  refine fn41.rel noHint (Nat.le_refl _) ?_
  have hg := map_getD arcD l h hh
  simp (disch := omega) only [go_sem, reduceIte, reduceDIte, reduceCtorEq, Nat.reduceBEq, Nat.reduceEqDiff, Nat.reduceAdd, Nat.reduceSub, Nat.reduceMul, Nat.reduceLT, Nat.reduceLeDiff, Nat.reduceBNe, Int.reduceNeg, Int.reduceAdd, Int.reduceSub, Int.reduceMul, Int.reduceLT, Int.reduceLE, Int.reduceGT, Int.reduceGE, Int.reduceEq, Int.reduceNe, Int.reduceToNat, Int.reduceTMod, Int.reduceTDiv, nextS, arcsD, List.length_map, hh, hg, arcD_cells]
  exact ⟨_, rfl, rfl⟩
theorem search40 (l : List Arc) (r : Int) (hl : l.length ≤ 1000000) (hm : ∀ i j : Nat, i ≤ j → j < l.length → r ≤ (l.getD i default).hi → r ≤ (l.getD j default).hi) :
    RCall Tryz.prog 40 [.d (.int .i64 l.length), .func (.func 41) [] [.ptr 0 0, .ptr 1 0]] (nextS l r) fun v σ' => σ' = nextS l r ∧ ∃ k : Nat, v = .d (.int .i64 k) ∧ k ≤ l.length ∧ (∀ i, i < k → (l.getD i default).hi < r) ∧ (k = l.length ∨ r ≤ (l.getD k default).hi) := by
  refine fn40.rel noHint (Nat.le_refl _) ?_
  simp (disch := omega) only [go_sem, reduceIte, reduceDIte, reduceCtorEq, Nat.reduceBEq, Nat.reduceEqDiff, Nat.reduceAdd, Nat.reduceSub, Nat.reduceMul, Nat.reduceLT, Nat.reduceLeDiff, Nat.reduceBNe, Int.reduceNeg, Int.reduceAdd, Int.reduceSub, Int.reduceMul, Int.reduceLT, Int.reduceLE, Int.reduceGT, Int.reduceGE, Int.reduceEq, Int.reduceNe, Int.reduceToNat, Int.reduceTMod, Int.reduceTDiv]
  refine wL_ind (fun (p : Nat × Nat) fr σ => p.1 ≤ p.2 ∧ p.2 ≤ l.length ∧ fr 1 = .func (.func 41) [] [.ptr 0 0, .ptr 1 0] ∧ fr 5 = .d (.int .i64 p.1) ∧ fr 6 = .d (.int .i64 p.2) ∧ σ = nextS l r ∧
    (∀ i, i < p.1 → (l.getD i default).hi < r) ∧ (p.2 = l.length ∨ r ≤ (l.getD p.2 default).hi)) (fun p => p.2 - p.1) ?_ (0, l.length) ?_
  · rintro ⟨i, j⟩ fr σ ⟨hij, hjl, f1, f5, f6, rfl, h1, h2⟩ ih
    simp only at hij hjl f5 f6 h1 h2
    by_cases hlt : i < j
    · have hhf := half i j (by omega)
      obtain ⟨h, hh⟩ : ∃ h, h = (i + j) / 2 := ⟨_, rfl⟩
      have hi : i ≤ h ∧ h < j := by omega
      rw [← hh] at hhf
      simp (disch := omega) only [go_sem, reduceIte, reduceDIte, reduceCtorEq, Nat.reduceBEq, Nat.reduceEqDiff, Nat.reduceAdd, Nat.reduceSub, Nat.reduceMul, Nat.reduceLT, Nat.reduceLeDiff, Nat.reduceBNe, Int.reduceNeg, Int.reduceAdd, Int.reduceSub, Int.reduceMul, Int.reduceLT, Int.reduceLE, Int.reduceGT, Int.reduceGE, Int.reduceEq, Int.reduceNe, Int.reduceToNat, Int.reduceTMod, Int.reduceTDiv, f1, f5, f6, hlt, hhf]
      refine (next41 l r h (by omega)).at ?_
      rintro v σ' ⟨rfl, rfl⟩
      by_cases hr : r ≤ (l.getD h default).hi
      · simp (disch := omega) only [go_sem, reduceIte, reduceDIte, reduceCtorEq, Nat.reduceBEq, Nat.reduceEqDiff, Nat.reduceAdd, Nat.reduceSub, Nat.reduceMul, Nat.reduceLT, Nat.reduceLeDiff, Nat.reduceBNe, Int.reduceNeg, Int.reduceAdd, Int.reduceSub, Int.reduceMul, Int.reduceLT, Int.reduceLE, Int.reduceGT, Int.reduceGE, Int.reduceEq, Int.reduceNe, Int.reduceToNat, Int.reduceTMod, Int.reduceTDiv, hr]
        refine ih (i, h) _ _ (by simp only; omega) ⟨by simp only; omega, by simp only; omega, ?_, ?_, ?_, rfl, h1, .inr hr⟩ <;> simp (disch := omega) only [go_sem, reduceIte, reduceDIte, reduceCtorEq, Nat.reduceBEq, Nat.reduceEqDiff, Nat.reduceAdd, Nat.reduceSub, Nat.reduceMul, Nat.reduceLT, Nat.reduceLeDiff, Nat.reduceBNe, Int.reduceNeg, Int.reduceAdd, Int.reduceSub, Int.reduceMul, Int.reduceLT, Int.reduceLE, Int.reduceGT, Int.reduceGE, Int.reduceEq, Int.reduceNe, Int.reduceToNat, Int.reduceTMod, Int.reduceTDiv, f1, f5, f6]
      · simp (disch := omega) only [go_sem, reduceIte, reduceDIte, reduceCtorEq, Nat.reduceBEq, Nat.reduceEqDiff, Nat.reduceAdd, Nat.reduceSub, Nat.reduceMul, Nat.reduceLT, Nat.reduceLeDiff, Nat.reduceBNe, Int.reduceNeg, Int.reduceAdd, Int.reduceSub, Int.reduceMul, Int.reduceLT, Int.reduceLE, Int.reduceGT, Int.reduceGE, Int.reduceEq, Int.reduceNe, Int.reduceToNat, Int.reduceTMod, Int.reduceTDiv, hr]
        refine ih (h + 1, j) _ _ (by simp only; omega) ⟨by simp only; omega, by simp only; omega, ?_, ?_, ?_, rfl, ?_, h2⟩
        · simp (disch := omega) only [go_sem, reduceIte, reduceDIte, reduceCtorEq, Nat.reduceBEq, Nat.reduceEqDiff, Nat.reduceAdd, Nat.reduceSub, Nat.reduceMul, Nat.reduceLT, Nat.reduceLeDiff, Nat.reduceBNe, Int.reduceNeg, Int.reduceAdd, Int.reduceSub, Int.reduceMul, Int.reduceLT, Int.reduceLE, Int.reduceGT, Int.reduceGE, Int.reduceEq, Int.reduceNe, Int.reduceToNat, Int.reduceTMod, Int.reduceTDiv, f1]
        · simp (disch := omega) only [go_sem, reduceIte, reduceDIte, reduceCtorEq, Nat.reduceBEq, Nat.reduceEqDiff, Nat.reduceAdd, Nat.reduceSub, Nat.reduceMul, Nat.reduceLT, Nat.reduceLeDiff, Nat.reduceBNe, Int.reduceNeg, Int.reduceAdd, Int.reduceSub, Int.reduceMul, Int.reduceLT, Int.reduceLE, Int.reduceGT, Int.reduceGE, Int.reduceEq, Int.reduceNe, Int.reduceToNat, Int.reduceTMod, Int.reduceTDiv, f5]
        · simp (disch := omega) only [go_sem, reduceIte, reduceDIte, reduceCtorEq, Nat.reduceBEq, Nat.reduceEqDiff, Nat.reduceAdd, Nat.reduceSub, Nat.reduceMul, Nat.reduceLT, Nat.reduceLeDiff, Nat.reduceBNe, Int.reduceNeg, Int.reduceAdd, Int.reduceSub, Int.reduceMul, Int.reduceLT, Int.reduceLE, Int.reduceGT, Int.reduceGE, Int.reduceEq, Int.reduceNe, Int.reduceToNat, Int.reduceTMod, Int.reduceTDiv, f6]
        · intro a ha
          simp only at ha
          by_cases hx : r ≤ (l.getD a default).hi
          · exact absurd (hm a h (by omega) (by omega) hx) hr
          · omega
    · simp (disch := omega) only [go_sem, reduceIte, reduceDIte, reduceCtorEq, Nat.reduceBEq, Nat.reduceEqDiff, Nat.reduceAdd, Nat.reduceSub, Nat.reduceMul, Nat.reduceLT, Nat.reduceLeDiff, Nat.reduceBNe, Int.reduceNeg, Int.reduceAdd, Int.reduceSub, Int.reduceMul, Int.reduceLT, Int.reduceLE, Int.reduceGT, Int.reduceGE, Int.reduceEq, Int.reduceNe, Int.reduceToNat, Int.reduceTMod, Int.reduceTDiv, f1, f5, f6, hlt]
      have hjj : j = i := by omega
      subst hjj
      exact ⟨_, rfl, _, rfl, hjl, h1, h2⟩
  · refine ⟨by simp, by simp, ?_, ?_, ?_, rfl, by simp, .inl rfl⟩ <;> first | (simp (disch := omega) only [go_sem, reduceIte, reduceDIte, reduceCtorEq, Nat.reduceBEq, Nat.reduceEqDiff, Nat.reduceAdd, Nat.reduceSub, Nat.reduceMul, Nat.reduceLT, Nat.reduceLeDiff, Nat.reduceBNe, Int.reduceNeg, Int.reduceAdd, Int.reduceSub, Int.reduceMul, Int.reduceLT, Int.reduceLE, Int.reduceGT, Int.reduceGE, Int.reduceEq, Int.reduceNe, Int.reduceToNat, Int.reduceTMod, Int.reduceTDiv]; done) | (simp (disch := omega) only [go_sem, reduceIte, reduceDIte, reduceCtorEq, Nat.reduceBEq, Nat.reduceEqDiff, Nat.reduceAdd, Nat.reduceSub, Nat.reduceMul, Nat.reduceLT, Nat.reduceLeDiff, Nat.reduceBNe, Int.reduceNeg, Int.reduceAdd, Int.reduceSub, Int.reduceMul, Int.reduceLT, Int.reduceLE, Int.reduceGT, Int.reduceGE, Int.reduceEq, Int.reduceNe, Int.reduceToNat, Int.reduceTMod, Int.reduceTDiv]; rfl)
theorem highs {n : Int} : ∀ (l : List Arc) (p : Option Int), arcsB n p l = true → ∀ i j : Nat, i ≤ j → j < l.length → (l.getD i default).hi ≤ (l.getD j default).hi
  | [], _, _, i, j, _, h => by simp at h
  | a :: l, p, hb, 0, 0, _, _ => by simp
  | a :: l, p, hb, 0, j + 1, _, h => by
    simp only [arcsB, Bool.and_eq_true] at hb
    have hj : j < l.length := by simpa using h
    have hm : l.getD j default ∈ l := by rw [List.getD_eq_getElem?_getD, List.getElem?_eq_getElem hj]; exact List.getElem_mem hj
    have h1 := arcs_above l a.hi hb.2 _ hm
    have h2 : (l.getD j default).lo ≤ (l.getD j default).hi := each l _ hb.2 j hj
    simp only [List.getD_cons_zero, List.getD_cons_succ]; omega
  | a :: l, p, hb, i + 1, 0, hij, _ => by omega
  | a :: l, p, hb, i + 1, j + 1, hij, h => by
    simp only [arcsB, Bool.and_eq_true] at hb
    have := highs l _ hb.2 i j (by omega) (by simpa using h)
    simpa using this
where each {n : Int} : ∀ (l : List Arc) (p : Option Int), arcsB n p l = true → ∀ j : Nat, j < l.length → (l.getD j default).lo ≤ (l.getD j default).hi
  | [], _, _, j, h => by simp at h
  | a :: l, p, hb, 0, _ => by
    simp only [arcsB, arcOk, Bool.and_eq_true, decide_eq_true_eq] at hb
    simp only [List.getD_cons_zero]; omega
  | a :: l, p, hb, j + 1, h => by
    simp only [arcsB, Bool.and_eq_true] at hb
    have := each l _ hb.2 j (by simpa using h)
    simpa using this
theorem next25 (l : List Arc) (r n : Int) (hl : l.length ≤ 1000000) (hb : arcsB n none l = true) : PCall Tryz.prog 25 [.d (arcsD l), .d (.int .i32 r)] (.d (.int .i64 (stepL l r))) := by
  refine fn25.pure noHint (Nat.le_refl _) (by simp only [go_sem, arcsD]) (by simp only [go_sem]) ?_
  have hs := search40 l r hl (fun i j h1 h2 h3 => by have := highs l none hb i j h1 h2; omega)
  simp only [nextS, arcsD] at hs
  simp (disch := omega) only [go_sem, reduceIte, reduceDIte, reduceCtorEq, Nat.reduceBEq, Nat.reduceEqDiff, Nat.reduceAdd, Nat.reduceSub, Nat.reduceMul, Nat.reduceLT, Nat.reduceLeDiff, Nat.reduceBNe, Int.reduceNeg, Int.reduceAdd, Int.reduceSub, Int.reduceMul, Int.reduceLT, Int.reduceLE, Int.reduceGT, Int.reduceGE, Int.reduceEq, Int.reduceNe, Int.reduceToNat, Int.reduceTMod, Int.reduceTDiv, arcsD, List.length_map]
  refine hs.at ?_
  rintro v σ' ⟨rfl, k, rfl, hk, h1, h2⟩
  have hst := step_search l none hb r k hk h1 h2
  by_cases hlt : k < l.length
  · have hg := map_getD arcD l k hlt
    by_cases hlo : (l.getD k default).lo ≤ r
    · rw [if_pos ⟨hlt, hlo⟩] at hst
      simp (disch := omega) only [go_sem, reduceIte, reduceDIte, reduceCtorEq, Nat.reduceBEq, Nat.reduceEqDiff, Nat.reduceAdd, Nat.reduceSub, Nat.reduceMul, Nat.reduceLT, Nat.reduceLeDiff, Nat.reduceBNe, Int.reduceNeg, Int.reduceAdd, Int.reduceSub, Int.reduceMul, Int.reduceLT, Int.reduceLE, Int.reduceGT, Int.reduceGE, Int.reduceEq, Int.reduceNe, Int.reduceToNat, Int.reduceTMod, Int.reduceTDiv, List.length_map, hlt, hg, arcD_cells, hlo, hst]
    · rw [if_neg (fun h => hlo h.2)] at hst
      simp (disch := omega) only [go_sem, reduceIte, reduceDIte, reduceCtorEq, Nat.reduceBEq, Nat.reduceEqDiff, Nat.reduceAdd, Nat.reduceSub, Nat.reduceMul, Nat.reduceLT, Nat.reduceLeDiff, Nat.reduceBNe, Int.reduceNeg, Int.reduceAdd, Int.reduceSub, Int.reduceMul, Int.reduceLT, Int.reduceLE, Int.reduceGT, Int.reduceGE, Int.reduceEq, Int.reduceNe, Int.reduceToNat, Int.reduceTMod, Int.reduceTDiv, List.length_map, hlt, hg, arcD_cells, hlo, hst]
  · rw [if_neg (fun h => hlt h.1)] at hst
    simp (disch := omega) only [go_sem, reduceIte, reduceDIte, reduceCtorEq, Nat.reduceBEq, Nat.reduceEqDiff, Nat.reduceAdd, Nat.reduceSub, Nat.reduceMul, Nat.reduceLT, Nat.reduceLeDiff, Nat.reduceBNe, Int.reduceNeg, Int.reduceAdd, Int.reduceSub, Int.reduceMul, Int.reduceLT, Int.reduceLE, Int.reduceGT, Int.reduceGE, Int.reduceEq, Int.reduceNe, Int.reduceToNat, Int.reduceTMod, Int.reduceTDiv, List.length_map, hlt, hst]
end Go.Proofs.YtefpcfooahogkaaGreatDoor
