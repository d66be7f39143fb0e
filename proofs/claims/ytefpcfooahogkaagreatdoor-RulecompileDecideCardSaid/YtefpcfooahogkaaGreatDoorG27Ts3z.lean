/- Part of a proof about the functions of this seat. -/
import Derived.Test.YtefpcfooahogkaaGreatDoorG25Re3z
import Derived.Test.YtefpcfooahogkaaGreatDoorG26NvT2
import Derived.KernelRfl
import Derived.Test.YtefpcfooahogkaaGreatDoorG24Rc3z
import Derived.Test.YtefpcfooahogkaaGreatDoorG23Vu3z
import Derived.Test.YtefpcfooahogkaaGreatDoorG17Dj3z
set_option linter.unusedVariables false
set_option maxRecDepth 100000
namespace Go.Proofs.YtefpcfooahogkaaGreatDoor
open Go Nv Rul

def kP1 : List UInt8 := [97, 46, 42]
def kP2 : List UInt8 := [46, 42, 98]
def kRules : List Rule := [⟨[116, 111, 112], kP1, 0, 2, 1, 0⟩, ⟨[97, 108, 108], kP2, 0, 60, 2, 0⟩]
theorem kchk : chkR peM kRules = 0 := by kernel_rfl
theorem asc_ext : ∀ (a b : List Int), List.Pairwise (fun x y : Int => x < y) a → List.Pairwise (fun x y : Int => x < y) b → (∀ x, x ∈ a ↔ x ∈ b) → a = b
  | [], [], _, _, _ => rfl
  | [], y :: b, _, _, h => by have := (h y).2 (by simp); cases this
  | x :: a, [], _, _, h => by have := (h x).1 (by simp); cases this
  | x :: a, y :: b, ha, hb, h => by
    rw [List.pairwise_cons] at ha hb
    have hxy : x = y := by
      rcases List.mem_cons.1 ((h x).1 (by simp)) with e | e
      · exact e
      · rcases List.mem_cons.1 ((h y).2 (by simp)) with e' | e'
        · exact e'.symm
        · have := hb.1 x e; have := ha.1 y e'; omega
    subst hxy
    rw [asc_ext a b ha.2 hb.2 fun z => ?_]
    constructor
    · intro hz
      have h1 := ha.1 z hz
      rcases List.mem_cons.1 ((h z).1 (by simp [hz])) with e | e
      · omega
      · exact e
    · intro hz
      have h1 := hb.1 z hz
      rcases List.mem_cons.1 ((h z).2 (by simp [hz])) with e | e
      · omega
      · exact e
theorem kcuts : cuts kRules = [0, 2, 60] := by
  refine asc_ext _ _ (cuts_asc _) (by simp) fun x => ?_
  rw [mem_cuts]
  simp only [kRules, List.mem_cons, List.not_mem_nil, or_false]
  constructor
  · rintro (h | h | ⟨r, rfl | rfl, h | h⟩)
    · omega
    · omega
    · simp only at h; omega
    · simp only at h; omega
    · simp only at h; omega
    · simp only at h; omega
  · rintro (h | h | h)
    · exact .inl h
    · exact .inr (.inr ⟨_, .inl rfl, .inr h⟩)
    · exact .inr (.inl h)
theorem kbands : bandsD kRules = spansD [(0, 2), (2, 60)] := by rw [bandsD, if_pos kchk, kcuts]; rfl
def kI (n : Int) : DV := .int .i64 n
def kR (a b : Int) : DV := .agg [.int .i32 a, .int .i32 b]
def kS (a b : Int) : DV := .agg [kI 2, .list 2 [kR a b], .nilslice, kI 0, kI 0]
def kAll : DV := .agg [kI 2, .list 2 [kR 0 55295, kR 57344 1114111], .nilslice, kI 0, kI 0]
def kAny : DV := .agg [kI 5, .nilslice, .list 5 [kAll], kI 0, kI (-1)]
def kN1 : AV := .agg [.d (kI 3), .d .nilslice, .d (.list 5 [kS 97 97, kAny]), .d (kI 0), .d (kI 0)]
def kN2 : AV := .agg [.d (kI 3), .d .nilslice, .d (.list 5 [kAny, kS 98 98]), .d (kI 0), .d (kI 0)]
def hF (d : Nat) : Nat → Hint := fun i => bif Nat.beq i d then .freeze else .no
def hints : Nat → Nat → Hint
  | 35 => hF 20
  | 58 => hF 32
  | 75 => hF 6
  | 80 => hF 40
  | 89 => hF 3
  | 90 => hF 39
  | 4 => fun i => bif Nat.beq i 5 || Nat.beq i 11 then .freeze else .no
  | _ => fun _ => .no
def gcs : Nat → Bool
  | 4 => true
  | 9 => true
  | 10 => true
  | 20 => true
  | 21 => true
  | 22 => true
  | 33 => true
  | 57 => true
  | 37 => true
  | 60 => true
  | 61 => true
  | 74 => true
  | 76 => true
  | 83 => true
  | 98 => true
  | 99 => true
  | 101 => true
  | _ => false
def spec (g : Nat) (args : List AV) : Option AV :=
  bif Nat.beq g 45 then match args with
    | [.d (.str s), .d (.str [c])] => some (.d (.bool (decide (0 ≤ Lib.indexByte s c))))
    | _ => none
  else none
noncomputable def E35 : Eenv := ⟨stdTab Tryz.prog hints gcs, spec, fun g => false⟩
theorem E35_ok : EnvOK Tryz.prog E35 := by
  refine ⟨stdTab_ok foll, ?_, ?_⟩
  · intro g args r h
    simp only [E35, spec] at h
    cases hg : Nat.beq g 45
    · rw [hg] at h; cases h
    · have := Nat.eq_of_beq_eq_true hg
      subst this
      rw [hg] at h
      simp only [cond_true] at h
      split at h
      · simp only [Option.some.injEq] at h; subst h; exact ⟨contains_one _ _, by kernel_rfl⟩
      · cases h
  · intro g h; cases h
theorem kparse1 : PCall Tryz.prog 21 [.d (.str kP1)] (.tuple [kN1, .d (kI 0)]) := ev_pcall E35_ok (n := 400) (by kernel_rfl)
theorem kparse2 : PCall Tryz.prog 21 [.d (.str kP2)] (.tuple [kN2, .d (kI 0)]) := ev_pcall E35_ok (n := 400) (by kernel_rfl)
theorem kmatch1 : PCall Tryz.prog 22 [kN1, .d (.str [97, 98])] (.d (.bool true)) := ev_pcall E35_ok (n := 600) (by kernel_rfl)
theorem kmatch2 : PCall Tryz.prog 22 [kN2, .d (.str [97, 98])] (.d (.bool true)) := ev_pcall E35_ok (n := 600) (by kernel_rfl)
theorem kmatch3 : PCall Tryz.prog 22 [kN2, .d (.str [99])] (.d (.bool false)) := ev_pcall E35_ok (n := 600) (by kernel_rfl)
theorem ksized : Sized kRules := by
  intro r hr
  rcases List.mem_cons.1 hr with rfl | hr
  · decide
  · rcases List.mem_cons.1 hr with rfl | hr
    · decide
    · cases hr
theorem kcheck : PCall Tryz.prog 15 [.d (rulesD kRules)] (.d (kI 0)) := by
  have := check6 kRules ksized
  rw [kchk] at this; exact this
theorem kbandsC : PCall Tryz.prog 8 [.d (rulesD kRules)] (.d (spansD [(0, 2), (2, 60)])) := by
  have := bands5 kRules ksized
  rw [kbands] at this; exact this
def kK : List Known := ⟨21, [.d (.str kP1)], .tuple [kN1, .d (kI 0)]⟩ :: ⟨21, [.d (.str kP2)], .tuple [kN2, .d (kI 0)]⟩ :: ⟨22, [kN1, .d (.str [97, 98])], .d (.bool true)⟩ ::
  ⟨22, [kN2, .d (.str [97, 98])], .d (.bool true)⟩ :: ⟨22, [kN2, .d (.str [99])], .d (.bool false)⟩ :: ⟨15, [.d (rulesD kRules)], .d (kI 0)⟩ ::
  ⟨8, [.d (rulesD kRules)], .d (spansD [(0, 2), (2, 60)])⟩ :: []
noncomputable def EK35 : Eenv := E35.know kK
theorem EK35_ok : EnvOK Tryz.prog EK35 := E35_ok.know ⟨⟨kparse1, by kernel_rfl⟩, ⟨kparse2, by kernel_rfl⟩, ⟨kmatch1, by kernel_rfl⟩, ⟨kmatch2, by kernel_rfl⟩, ⟨kmatch3, by kernel_rfl⟩, ⟨kcheck, by kernel_rfl⟩, ⟨kbandsC, by kernel_rfl⟩, trivial⟩
theorem awake4 : PCall Tryz.prog 4 [] (.d (.bool true)) := ev_pcall EK35_ok (n := 400) (by kernel_rfl)
end Go.Proofs.YtefpcfooahogkaaGreatDoor
set_option linter.unusedVariables false
set_option linter.unusedSimpArgs false
set_option maxRecDepth 100000
namespace Go.Proofs.YtefpcfooahogkaaGreatDoor
open Go Nv Rul

/- What comes in, as rules. -/
theorem int_td {n : Nat} {t : TypeId} {k : IntKind} {ds : List DV} (ht : Tryz.prog.underlying t = some (.int k)) (h : TD Tryz.prog n t ds) : ∃ z, ds = [.int k z] ∧ (Lit.int k z).wf = true := by
  cases n with
  | zero => exact h.elim
  | succ n => simp only [TD, ht] at h; exact h
theorem str_td {n : Nat} {t : TypeId} {ds : List DV} (ht : Tryz.prog.underlying t = some .string) (h : TD Tryz.prog n t ds) : ∃ s : List UInt8, ds = [.str s] ∧ s.length ≤ 9223372036854775807 := by
  cases n with
  | zero => exact h.elim
  | succ n => simp only [TD, ht] at h; obtain ⟨s, h, h2⟩ := h; exact ⟨s, h, by unfold maxLen at h2; omega⟩
theorem rows_with {α : Type} {Q : α → Prop} {f : α → DV} : ∀ {xs : List DV}, (∀ x, x ∈ xs → ∃ a, x = f a ∧ Q a) → ∃ l : List α, xs = l.map f ∧ ∀ a, a ∈ l → Q a
  | [], _ => ⟨[], rfl, by simp⟩
  | x :: xs, h => by
    obtain ⟨a, rfl, ha⟩ := h x (by simp)
    obtain ⟨l, rfl, hl⟩ := rows_with (xs := xs) fun y hy => h y (by simp [hy])
    exact ⟨a :: l, rfl, fun b hb => by
      rcases List.mem_cons.1 hb with rfl | hb
      · exact ha
      · exact hl b hb⟩
theorem rule_td {n : Nat} {cs : List DV} (h : TD Tryz.prog n 33 cs) : ∃ r : Rule, cs = (ruleD r).cells ∧ r.name.length ≤ 9223372036854775807 ∧ r.pat.length ≤ 9223372036854775807 := by
  cases n with
  | zero => exact h.elim
  | succ n =>
    simp only [TD, go_sem, List.mem_cons, List.not_mem_nil, or_false, forall_eq_or_imp, forall_eq] at h
    obtain ⟨hl, h0, h1, h2, h3, h4, h5⟩ := h
    match cs, hl with
    | [a, b, c, d, e, f], _ =>
      simp only [List.drop, List.take] at h0 h1 h2 h3 h4 h5
      obtain ⟨s0, e0, k0⟩ := str_td Tryz.underlying9 h0
      obtain ⟨s1, e1, k1⟩ := str_td Tryz.underlying9 h1
      obtain ⟨z2, e2, _⟩ := int_td Tryz.underlying3 h2
      obtain ⟨z3, e3, _⟩ := int_td Tryz.underlying3 h3
      obtain ⟨z4, e4, _⟩ := int_td Tryz.underlying3 h4
      obtain ⟨z5, e5, _⟩ := int_td Tryz.underlying3 h5
      simp only [List.cons.injEq, and_true] at e0 e1 e2 e3 e4 e5
      exact ⟨⟨s0, s1, z2, z3, z4, z5⟩, by rw [e0, e1, e2, e3, e4, e5]; rfl, k0, k1⟩
theorem rules_td {n : Nat} {ds : List DV} (h : TD Tryz.prog n 34 ds) : ∃ l : List Rule, ds = [rulesD l] ∧ Sized l := by
  cases n with
  | zero => exact h.elim
  | succ n =>
    simp only [TD, go_sem] at h
    obtain ⟨xs, rfl, _, hx⟩ := h
    obtain ⟨l, rfl, hq⟩ := rows_with (Q := fun r : Rule => r.name.length ≤ 9223372036854775807 ∧ r.pat.length ≤ 9223372036854775807) (f := ruleD) fun x hm => by
      obtain ⟨cs, rfl, hc⟩ := hx x hm
      obtain ⟨r, rfl, h1, h2⟩ := rule_td hc
      exact ⟨r, by rw [ruleD_cells]; simp only [ofCells, go_sem, ruleD], h1, h2⟩
    exact ⟨l, rfl, hq⟩
end Go.Proofs.YtefpcfooahogkaaGreatDoor
set_option linter.unusedVariables false
set_option linter.unusedSimpArgs false
set_option maxRecDepth 100000
namespace Go.Proofs.YtefpcfooahogkaaGreatDoor
open Go Nv Dfa

/- What comes in, as bands and automata. -/
theorem rows_as {α : Type} {f : α → DV} {xs : List DV} (h : ∀ x, x ∈ xs → ∃ a, x = f a) : ∃ l : List α, xs = l.map f := by
  obtain ⟨l, hl, _⟩ := rows_with (Q := fun _ => True) (f := f) (xs := xs) fun x hx => by obtain ⟨a, ha⟩ := h x hx; exact ⟨a, ha, trivial⟩
  exact ⟨l, hl⟩
theorem bands_td {n : Nat} {ds : List DV} (h : TD Tryz.prog n 22 ds) : ∃ l : List (Int × Int), ds = [bandsL l] := by
  cases n with
  | zero => exact h.elim
  | succ n =>
    simp only [TD, go_sem] at h
    obtain ⟨xs, rfl, _, hx⟩ := h
    obtain ⟨l, rfl⟩ := rows_as (f := bandD) fun x hm => by
      obtain ⟨cs, rfl, hc⟩ := hx x hm
      cases n with
      | zero => exact hc.elim
      | succ n =>
        simp only [TD, go_sem, List.mem_cons, List.not_mem_nil, or_false, forall_eq_or_imp, forall_eq] at hc
        obtain ⟨hl, h0, h1⟩ := hc
        match cs, hl with
        | [a, b], _ =>
          simp only [List.drop, List.take] at h0 h1
          obtain ⟨z0, e0, _⟩ := int_td Tryz.underlying3 h0
          obtain ⟨z1, e1, _⟩ := int_td Tryz.underlying3 h1
          simp only [List.cons.injEq, and_true] at e0 e1
          exact ⟨(z0, z1), by rw [e0, e1]; simp only [ofCells, go_sem, bandD]⟩
    exact ⟨l, rfl⟩
theorem arc_td {n : Nat} {cs : List DV} (h : TD Tryz.prog n 60 cs) : ∃ a : Arc, cs = (arcD a).cells := by
  cases n with
  | zero => exact h.elim
  | succ n =>
    simp only [TD, go_sem, List.mem_cons, List.not_mem_nil, or_false, forall_eq_or_imp, forall_eq] at h
    obtain ⟨hl, h0, h1⟩ := h
    match cs, hl with
    | [a, b, c], _ =>
      simp only [List.drop, List.take] at h0 h1
      obtain ⟨z2, e2, _⟩ := int_td Tryz.underlying3 h1
      cases n with
      | zero => exact h0.elim
      | succ n =>
        simp only [TD, go_sem, List.mem_cons, List.not_mem_nil, or_false, forall_eq_or_imp, forall_eq] at h0
        obtain ⟨k0, k1⟩ := h0
        obtain ⟨z0, e0, _⟩ := int_td Tryz.underlying21 k0
        obtain ⟨z1, e1, _⟩ := int_td Tryz.underlying21 k1
        simp only [List.cons.injEq, and_true] at e0 e1 e2
        exact ⟨⟨z0, z1, z2⟩, by rw [e0, e1, e2]; rfl⟩
theorem arcs_td {n : Nat} {ds : List DV} (h : TD Tryz.prog n 40 ds) : ∃ l : List Arc, ds = [arcsD l] := by
  cases n with
  | zero => exact h.elim
  | succ n =>
    simp only [TD, go_sem] at h
    obtain ⟨xs, rfl, _, hx⟩ := h
    obtain ⟨l, rfl⟩ := rows_as (f := arcD) fun x hm => by
      obtain ⟨cs, rfl, hc⟩ := hx x hm
      obtain ⟨a, rfl⟩ := arc_td hc
      exact ⟨a, by rw [arcD_cells]; simp only [ofCells, go_sem, arcD]⟩
    exact ⟨l, rfl⟩
theorem states_td {n : Nat} {ds : List DV} (h : TD Tryz.prog n 26 ds) : ∃ l : List (List Arc), ds = [statesD l] := by
  cases n with
  | zero => exact h.elim
  | succ n =>
    simp only [TD, go_sem] at h
    obtain ⟨xs, rfl, _, hx⟩ := h
    obtain ⟨l, rfl⟩ := rows_as (f := arcsD) fun x hm => by
      obtain ⟨cs, rfl, hc⟩ := hx x hm
      obtain ⟨a, rfl⟩ := arcs_td hc
      exact ⟨a, by simp only [ofCells, go_sem]; rfl⟩
    exact ⟨l, rfl⟩
theorem ints_td {n : Nat} {ds : List DV} (h : TD Tryz.prog n 27 ds) : ∃ l : List Int, ds = [labelsD l] := by
  cases n with
  | zero => exact h.elim
  | succ n =>
    simp only [TD, go_sem] at h
    obtain ⟨xs, rfl, _, hx⟩ := h
    obtain ⟨l, rfl⟩ := rows_as (f := DV.int .i64) fun x hm => by
      obtain ⟨cs, rfl, hc⟩ := hx x hm
      obtain ⟨z, rfl, _⟩ := int_td Tryz.underlying3 hc
      exact ⟨z, by simp only [ofCells, go_sem]; rfl⟩
    exact ⟨l, rfl⟩
theorem dfas_td {n : Nat} {ds : List DV} (h : TD Tryz.prog n 23 ds) : ∃ l : List D, ds = [dfasD l] := by
  cases n with
  | zero => exact h.elim
  | succ n =>
    simp only [TD, go_sem] at h
    obtain ⟨xs, rfl, _, hx⟩ := h
    obtain ⟨l, rfl⟩ := rows_as (f := dfaD) fun x hm => by
      obtain ⟨cs, rfl, hc⟩ := hx x hm
      cases n with
      | zero => exact hc.elim
      | succ n =>
        simp only [TD, go_sem, List.mem_cons, List.not_mem_nil, or_false, forall_eq_or_imp, forall_eq] at hc
        obtain ⟨hl, h0, h1, h2⟩ := hc
        match cs, hl with
        | [a, b, c], _ =>
          simp only [List.drop, List.take] at h0 h1 h2
          obtain ⟨z0, e0, _⟩ := int_td Tryz.underlying3 h0
          obtain ⟨l1, e1⟩ := states_td h1
          obtain ⟨l2, e2⟩ := ints_td h2
          simp only [List.cons.injEq, and_true] at e0 e1 e2
          exact ⟨⟨z0, l1, l2⟩, by rw [e0, e1, e2]; simp only [ofCells, go_sem, dfaD]⟩
    exact ⟨l, rfl⟩
end Go.Proofs.YtefpcfooahogkaaGreatDoor
