/- The values of the abstract layer, their reading in a world, and how a reading is kept. -/
import Derived.WalkKit
import Derived.Lib.DecodeN
set_option linter.unusedVariables false
set_option linter.unusedSimpArgs false
namespace Nv
open Go

/-- An equation that the simplifier does not take for one by unfolding. -/
theorem nrfl {α : Sort _} {a b : α} (h : a = b) : a = b := h

/-- Data that no longer changes: a slice is the list of its elements. -/
inductive DV where
  | int (k : IntKind) (n : Int)
  | bool (b : Bool)
  | str (s : List UInt8)
  | nilptr
  | nilslice
  | nilmap
  | nilfunc
  | niliface
  | func (f : Fn)
  | iface (t : TypeId) (x : DV)
  | list (e : Nat) (xs : List DV)
  | agg (cs : List DV)
  deriving Inhabited

@[simp] def DV.cells : DV → List DV
  | .agg cs => cs
  | x => [x]

def flat (xs : List DV) : List DV := xs.flatMap DV.cells

def DV.isAgg : DV → Bool
  | .agg _ => true
  | _ => false

/-- An element of e cells. -/
def Uni (e : Nat) (x : DV) : Prop := x.cells.length = e ∧ ∀ c, c ∈ x.cells → c.isAgg = false

inductive VD (I : Nat → Prop) (w : World) : DV → Value → Prop
  | int (k : IntKind) (n : Int) : VD I w (.int k n) (.int k n)
  | bool (b : Bool) : VD I w (.bool b) (.bool b)
  | str (s : List UInt8) : VD I w (.str s) (.string ⟨s.toArray⟩)
  | nilptr : VD I w .nilptr (.pointer none)
  | nilslice : VD I w .nilslice (.slice none 0 0)
  | nilmap : VD I w .nilmap (.map none)
  | nilfunc : VD I w .nilfunc .nilFunc
  | niliface : VD I w .niliface .nilIface
  | func (f : Fn) : VD I w (.func f) (.func f #[] #[])
  | iface (t : TypeId) {x : DV} {v : Value} : VD I w x v → VD I w (.iface t x) (.iface t v)
  | listNil (e : Nat) (p : Option Addr) : VD I w (.list e []) (.slice p 0 0)
  | list {e : Nat} {xs : List DV} {b off n cap : Nat} (us : Nat → Value) : n = xs.length → n ≤ cap → (∀ x, x ∈ xs → Uni e x) →
      (∀ j c, (flat xs)[j]? = some c → I b ∧ w.cell? ⟨b, off + j, none⟩ = some (us j)) →
      (∀ j c, (flat xs)[j]? = some c → VD I w c (us j)) → VD I w (.list e xs) (.slice (some ⟨b, off, none⟩) n cap)
  | agg {cs : List DV} {vs : Array Value} : cs.length = vs.size → (∀ j c, cs[j]? = some c → VD I w c (vs.getD j undef)) → VD I w (.agg cs) (.agg vs)

theorem VD.mono {I I' : Nat → Prop} {w w' : World} (hI : ∀ b, I b → I' b) (hw : ∀ b, I b → w'.heap[b]? = w.heap[b]?) {x : DV} {v : Value} (h : VD I w x v) : VD I' w' x v := by
  induction h with
  | int => exact .int _ _
  | bool => exact .bool _
  | str => exact .str _
  | nilptr => exact .nilptr
  | nilslice => exact .nilslice
  | nilmap => exact .nilmap
  | nilfunc => exact .nilfunc
  | niliface => exact .niliface
  | func => exact .func _
  | iface t _ ih => exact .iface t ih
  | listNil e p => exact .listNil e p
  | list us h1 h2 h0 h3 h4 ih =>
    refine .list us h1 h2 h0 (fun j c hc => ?_) ih
    obtain ⟨hi, hcell⟩ := h3 j c hc
    refine ⟨hI _ hi, ?_⟩
    rw [← hcell]; simp only [World.cell?, hw _ hi]
  | agg h1 h2 ih => exact .agg h1 ih

/-- The values of a function's slots. -/
inductive AV where
  | d (x : DV)
  | any
  | ptr (b o : Nat)
  | own (b g off n : Nat)
  | eptr (b g i o : Nat)
  | iptr (cs : List DV)
  | aptr
  | agg (cs : List AV)
  | tuple (vs : List AV)
  | func (f : Fn) (first cap : List AV)
  | iface (t : TypeId) (x : AV)
  | map (b : Nat)
  | itr (b : Nat)
  deriving Inhabited

@[simp] def AV.cells : AV → List AV
  | .agg cs => cs
  | x => [x]

/-- What a row's elements are: so many cells, of this type. -/
structure ET where
  n : Nat
  t : Nat
  deriving DecidableEq, Inhabited
instance : Coe ET Nat := ⟨ET.n⟩
attribute [go_sem] ET.n ET.t

/-- A block of the abstract store. -/
inductive Blk where
  | box (t : Nat) (cs : List AV)
  | arr (g : Nat) (e : ET) (xs : List DV)
  | map (es : List (DV × DV))
  | iter (s : List UInt8) (pos : Nat)
  | dead
  deriving Inhabited

def Blk.live : Blk → Prop
  | .dead => False
  | _ => True

structure Place where
  blk : Option Nat
  base : Nat
  cap : Nat
  deriving Inhabited

abbrev ST := List Blk
abbrev FR := Nat → AV
abbrev RHO := Nat → Place

inductive V (ρ : RHO) (σ : ST) (I : Nat → Prop) (w : World) : AV → Value → Prop
  | any (v : Value) : V ρ σ I w .any v
  | aptr (p : Option Addr) : V ρ σ I w .aptr (.pointer p)
  | d {x : DV} {v : Value} : VD I w x v → V ρ σ I w (.d x) v
  | ptr {b o B t : Nat} {cs : List AV} : σ[b]? = some (.box t cs) → (ρ b).blk = some B → V ρ σ I w (.ptr b o) (.pointer (some ⟨B, o, none⟩))
  | ownOld {b g off n : Nat} {blk : Blk} {p : Option Addr} {m c : Nat} : σ[b]? = some blk → (∀ g' e xs, blk = .arr g' e xs → g < g') → V ρ σ I w (.own b g off n) (.slice p m c)
  | ownNil {b g off : Nat} {e : ET} {xs : List DV} {p : Option Addr} : σ[b]? = some (.arr g e xs) → (∀ a, p = some a → a.spot = none ∧ a.block < w.heap.size) → V ρ σ I w (.own b g off 0) (.slice p 0 0)
  | own {b g off n B cap : Nat} {e : ET} {xs : List DV} : σ[b]? = some (.arr g e xs) → (ρ b).blk = some B → n ≤ cap → off + cap ≤ (ρ b).cap →
      V ρ σ I w (.own b g off n) (.slice (some ⟨B, (ρ b).base + off * e, none⟩) n cap)
  | eptrOld {b g i o : Nat} {blk : Blk} {p : Option Addr} : σ[b]? = some blk → (∀ g' e xs, blk = .arr g' e xs → g < g') → V ρ σ I w (.eptr b g i o) (.pointer p)
  | eptr {b g i o B : Nat} {e : ET} {xs : List DV} : σ[b]? = some (.arr g e xs) → (ρ b).blk = some B →
      V ρ σ I w (.eptr b g i o) (.pointer (some ⟨B, (ρ b).base + i * e + o, none⟩))
  | iptr {cs : List DV} {B off : Nat} (us : Nat → Value) : (∀ j c, cs[j]? = some c → I B ∧ w.cell? ⟨B, off + j, none⟩ = some (us j) ∧ VD I w c (us j)) →
      V ρ σ I w (.iptr cs) (.pointer (some ⟨B, off, none⟩))
  | agg {cs : List AV} {vs : Array Value} : cs.length = vs.size → (∀ j c, cs[j]? = some c → V ρ σ I w c (vs.getD j undef)) → V ρ σ I w (.agg cs) (.agg vs)
  | tuple {cs : List AV} {vs : Array Value} : cs.length = vs.size → (∀ j c, cs[j]? = some c → V ρ σ I w c (vs.getD j undef)) → V ρ σ I w (.tuple cs) (.tuple vs)
  | func {f : Fn} {fs cs : List AV} {us vs : Array Value} : fs.length = us.size → (∀ j c, fs[j]? = some c → V ρ σ I w c (us.getD j undef)) →
      cs.length = vs.size → (∀ j c, cs[j]? = some c → V ρ σ I w c (vs.getD j undef)) → V ρ σ I w (.func f fs cs) (.func f us vs)
  | iface (t : TypeId) {x : AV} {v : Value} : V ρ σ I w x v → V ρ σ I w (.iface t x) (.iface t v)
  | map {b B : Nat} {es : List (DV × DV)} : σ[b]? = some (.map es) → (ρ b).blk = some B → V ρ σ I w (.map b) (.map (some B))
  | itr {b B : Nat} {s : List UInt8} {pos : Nat} : σ[b]? = some (.iter s pos) → (ρ b).blk = some B → V ρ σ I w (.itr b) (.pointer (some ⟨B, 0, none⟩))

/-- A list of values, place by place. -/
def VL (ρ : RHO) (σ : ST) (I : Nat → Prop) (w : World) (as : List AV) (vs : Array Value) : Prop :=
  as.length = vs.size ∧ ∀ j a, as[j]? = some a → V ρ σ I w a (vs.getD j undef)

/-- A block as it lies in the world. -/
inductive RB (ρ : RHO) (σ : ST) (I : Nat → Prop) (w : World) (p : Place) : Blk → Prop
  | box {cs : List AV} {B t : Nat} {us : Array Value} : p.blk = some B → w.heap[B]? = some (.cells us t (0, 0)) → cs.length = us.size →
      (∀ j c, cs[j]? = some c → V ρ σ I w c (us.getD j undef)) → RB ρ σ I w p (.box t cs)
  | arrNil {g : Nat} {e : ET} : p.blk = none → p.cap = 0 → RB ρ σ I w p (.arr g e [])
  | arr {g B : Nat} {e : ET} {xs : List DV} {us : Array Value} : p.blk = some B → w.heap[B]? = some (.cells us e.t (0, 0)) →
      p.base + p.cap * e ≤ us.size → xs.length ≤ p.cap → (∀ x, x ∈ xs → Uni e x) →
      (∀ j c, (flat xs)[j]? = some c → VD I w c (us.getD (p.base + j) undef)) → RB ρ σ I w p (.arr g e xs)
  | map {es : List (DV × DV)} {B clock : Nat} {ents : Array MapEntry} : p.blk = some B → w.heap[B]? = some (.map ents clock) → ents.size = es.length →
      (∀ (j : Nat) (y : DV × DV), es[j]? = some y → ∃ e : MapEntry, ents[j]? = some e ∧ VD I w y.1 e.key ∧ VD I w y.2 e.val) → RB ρ σ I w p (.map es)
  | iter {s : List UInt8} {pos B : Nat} : p.blk = some B → w.heap[B]? = some (.stringIter ⟨s.toArray⟩ pos) → RB ρ σ I w p (.iter s pos)
  | dead : RB ρ σ I w p .dead

def Lives (ρ : RHO) (σ : ST) (B : Nat) : Prop := ∃ i blk, σ[i]? = some blk ∧ blk.live ∧ (ρ i).blk = some B

/-- What the program's tables hold. -/
structure Tabs (P : Program) (I : Nat → Prop) (w : World) : Prop where
  utf8 : ∀ g3 g4, P.globalNamed "unicode/utf8.first" = some g3 → P.globalNamed "unicode/utf8.acceptRanges" = some g4 → I g3 ∧ I g4 ∧ (∀ c, c < 256 → w.cell? ⟨g3, c, none⟩ = some (.int .u8 (Lib.firstT c))) ∧
    (∀ i, i < 16 → w.cell? ⟨g4, 2 * i, none⟩ = some (.int .u8 (Lib.accLo i)) ∧ w.cell? ⟨g4, 2 * i + 1, none⟩ = some (.int .u8 (Lib.accHi i)))

theorem Tabs.keep {P : Program} {I I' : Nat → Prop} {w w' : World} (h : Tabs P I w) (hI : ∀ b, I b → I' b) (hk : ∀ b, I b → w'.heap[b]? = w.heap[b]?) : Tabs P I' w' := by
  refine ⟨fun g3 g4 h3 h4 => ?_⟩
  obtain ⟨i3, i4, h1, h2⟩ := h.utf8 g3 g4 h3 h4
  have e3 : ∀ c, w'.cell? ⟨g3, c, none⟩ = w.cell? ⟨g3, c, none⟩ := fun c => by simp only [World.cell?, hk _ i3]
  have e4 : ∀ c, w'.cell? ⟨g4, c, none⟩ = w.cell? ⟨g4, c, none⟩ := fun c => by simp only [World.cell?, hk _ i4]
  exact ⟨hI _ i3, hI _ i4, fun c hc => by rw [e3]; exact h1 c hc, fun i hi => by rw [e4, e4]; exact h2 i hi⟩

structure RS (P : Program) (ρ : RHO) (I : Nat → Prop) (w : World) (σ : ST) : Prop where
  blk : ∀ i blk, σ[i]? = some blk → RB ρ σ I w (ρ i) blk
  inj : ∀ i j bi bj B, σ[i]? = some bi → σ[j]? = some bj → bi.live → bj.live → (ρ i).blk = some B → (ρ j).blk = some B → i = j
  sep : ∀ B, Lives ρ σ B → ¬ I B
  bound : ∀ B, I B → B < w.heap.size
  tabs : Tabs P I w

def Compat (b : Blk) (p : Place) (b' : Blk) (p' : Place) : Prop :=
  match b, b' with
  | .box t cs, .box t' cs' => p' = p ∧ cs'.length = cs.length ∧ t' = t
  | .arr g e xs, .arr g' e' xs' => (g' = g ∧ e' = e ∧ p' = p ∧ xs'.length = xs.length) ∨ g < g'
  | .arr _ _ _, .dead => True
  | .map _, .map _ => p' = p
  | .iter s _, .iter s' _ => p' = p ∧ s' = s
  | .dead, .dead => True
  | _, _ => False

/-- What surrounds the heap stays. -/
structure Around (w w' : World) : Prop where
  os : w'.os = w.os
  tape : w'.tape = w.tape
  output : w'.output = w.output
theorem Around.refl (w : World) : Around w w := ⟨rfl, rfl, rfl⟩
theorem Around.trans {a b c : World} (h : Around a b) (k : Around b c) : Around a c := ⟨k.os.trans h.os, k.tape.trans h.tape, k.output.trans h.output⟩

structure Ext (w w' : World) : Prop where
  size : w.heap.size ≤ w'.heap.size
  env : Around w w'
theorem Ext.of {w w' : World} (h : w.heap.size ≤ w'.heap.size) (e : Around w w' := by exact ⟨rfl, rfl, rfl⟩) : Ext w w' := ⟨h, e⟩

structure Step (ρ : RHO) (I : Nat → Prop) (w : World) (σ : ST) (ρ' : RHO) (I' : Nat → Prop) (w' : World) (σ' : ST) : Prop where
  keep : ∀ b, b < w.heap.size → ¬ Lives ρ σ b → w'.heap[b]? = w.heap[b]?
  mono : ∀ b, I b → I' b
  inew : ∀ b, I' b → I b ∨ Lives ρ σ b ∨ w.heap.size ≤ b
  fpn : ∀ b, Lives ρ' σ' b → Lives ρ σ b ∨ w.heap.size ≤ b
  hsz : w.heap.size ≤ w'.heap.size
  compat : ∀ b blk, σ[b]? = some blk → ∃ blk', σ'[b]? = some blk' ∧ Compat blk (ρ b) blk' (ρ' b)
  env : Around w w'

theorem Compat.refl (b : Blk) (p : Place) : Compat b p b p := by cases b <;> simp [Compat]

theorem Compat.trans {a b c : Blk} {p q r : Place} (h : Compat a p b q) (h' : Compat b q c r) : Compat a p c r := by
  cases a <;> cases b <;> cases c <;> simp only [Compat] at h h' ⊢ <;> try contradiction
  case box.box.box => exact ⟨h'.1.trans h.1, h'.2.1.trans h.2.1, h'.2.2.trans h.2.2⟩
  case arr.arr.arr =>
    rcases h with ⟨h1, h2, h3, h5⟩ | h <;> rcases h' with ⟨k1, k2, k3, k5⟩ | h'
    · exact .inl ⟨by omega, by rw [k2, h2], by rw [k3, h3], by omega⟩
    · exact .inr (by omega)
    · exact .inr (by omega)
    · exact .inr (by omega)
  case map.map.map => rw [h', h]
  case iter.iter.iter => exact ⟨h'.1.trans h.1, h'.2.trans h.2⟩

theorem Step.refl (ρ : RHO) (I : Nat → Prop) (w : World) (σ : ST) : Step ρ I w σ ρ I w σ :=
  ⟨fun _ _ _ => rfl, fun _ h => h, fun _ h => .inl h, fun _ h => .inl h, Nat.le_refl _, fun b blk h => ⟨blk, h, Compat.refl _ _⟩, Around.refl w⟩

theorem Step.trans {ρ ρ' ρ'' : RHO} {I I' I'' : Nat → Prop} {w w' w'' : World} {σ σ' σ'' : ST}
    (h : Step ρ I w σ ρ' I' w' σ') (h' : Step ρ' I' w' σ' ρ'' I'' w'' σ'') : Step ρ I w σ ρ'' I'' w'' σ'' where
  keep b hb hl := by
    rw [h'.keep b (Nat.lt_of_lt_of_le hb h.hsz) (fun hl' => (h.fpn b hl').elim hl (fun hge => by omega)), h.keep b hb hl]
  mono b hb := h'.mono b (h.mono b hb)
  inew b hb := by
    rcases h'.inew b hb with h1 | h1 | h1
    · exact h.inew b h1
    · exact (h.fpn b h1).elim (fun x => .inr (.inl x)) (fun x => .inr (.inr x))
    · exact .inr (.inr (Nat.le_trans h.hsz h1))
  fpn b hb := by
    rcases h'.fpn b hb with h1 | h1
    · exact h.fpn b h1
    · exact .inr (Nat.le_trans h.hsz h1)
  hsz := Nat.le_trans h.hsz h'.hsz
  env := h.env.trans h'.env
  compat b blk hb := by
    obtain ⟨blk', h1, h2⟩ := h.compat b blk hb
    obtain ⟨blk'', h3, h4⟩ := h'.compat b blk' h1
    exact ⟨blk'', h3, h2.trans h4⟩

section
variable {P : Program} {ρ ρ' : RHO} {I I' : Nat → Prop} {w w' : World} {σ σ' : ST}

theorem Step.iheap (hr : RS P ρ I w σ) (hs : Step ρ I w σ ρ' I' w' σ') (b : Nat) (hb : I b) : w'.heap[b]? = w.heap[b]? :=
  hs.keep b (hr.bound b hb) (fun hl => hr.sep b hl hb)

theorem Step.tabs (hr : RS P ρ I w σ) (hs : Step ρ I w σ ρ' I' w' σ') : Tabs P I' w' := hr.tabs.keep hs.mono (hs.iheap hr)

theorem Step.vd (hr : RS P ρ I w σ) (hs : Step ρ I w σ ρ' I' w' σ') {x : DV} {v : Value} (h : VD I w x v) : VD I' w' x v :=
  h.mono hs.mono (hs.iheap hr)

theorem Step.old (hs : Step ρ I w σ ρ' I' w' σ') {b g : Nat} {blk : Blk} (h : σ[b]? = some blk) (hg : ∀ g' e xs, blk = .arr g' e xs → g < g') :
    ∃ blk', σ'[b]? = some blk' ∧ ∀ g' e xs, blk' = .arr g' e xs → g < g' := by
  obtain ⟨blk', h1, h2⟩ := hs.compat b blk h
  refine ⟨blk', h1, fun g' e xs he => ?_⟩
  subst he
  cases blk with
  | arr g0 e0 xs0 =>
    have := hg _ _ _ rfl
    simp only [Compat] at h2
    rcases h2 with h2 | h2 <;> omega
  | _ => simp [Compat] at h2

theorem Step.v (hr : RS P ρ I w σ) (hs : Step ρ I w σ ρ' I' w' σ') {a : AV} {v : Value} (h : V ρ σ I w a v) : V ρ' σ' I' w' a v := by
  induction h with
  | any v => exact .any v
  | aptr p => exact .aptr p
  | d h => exact .d (hs.vd hr h)
  | ptr h1 h2 =>
    obtain ⟨blk', h3, h4⟩ := hs.compat _ _ h1
    cases blk' <;> simp only [Compat] at h4
    exact .ptr h3 (by rw [h4.1]; exact h2)
  | ownOld h1 h2 => obtain ⟨b', h3, h4⟩ := hs.old h1 h2; exact .ownOld h3 h4
  | eptrOld h1 h2 => obtain ⟨b', h3, h4⟩ := hs.old h1 h2; exact .eptrOld h3 h4
  | ownNil h1 h2 =>
    obtain ⟨blk', h3, h4⟩ := hs.compat _ _ h1
    cases blk' with
    | arr g' e' xs' =>
      simp only [Compat] at h4
      rcases h4 with ⟨rfl, rfl, h5, h6⟩ | h4
      · exact .ownNil h3 (fun a ha => ⟨(h2 a ha).1, Nat.lt_of_lt_of_le (h2 a ha).2 hs.hsz⟩)
      · exact .ownOld h3 (fun _ _ _ he => by cases he; exact h4)
    | dead => exact .ownOld h3 (fun _ _ _ he => by cases he)
    | _ => simp [Compat] at h4
  | own h1 h2 h3 h4 =>
    obtain ⟨blk', k1, k2⟩ := hs.compat _ _ h1
    cases blk' with
    | arr g' e' xs' =>
      simp only [Compat] at k2
      rcases k2 with ⟨rfl, rfl, k3, k4⟩ | k2
      · rw [← k3]; exact .own k1 (by rw [k3]; exact h2) h3 (by rw [k3]; exact h4)
      · exact .ownOld k1 (fun _ _ _ he => by cases he; exact k2)
    | dead => exact .ownOld k1 (fun _ _ _ he => by cases he)
    | _ => simp [Compat] at k2
  | eptr h1 h2 =>
    obtain ⟨blk', k1, k2⟩ := hs.compat _ _ h1
    cases blk' with
    | arr g' e' xs' =>
      simp only [Compat] at k2
      rcases k2 with ⟨rfl, rfl, k3, k4⟩ | k2
      · rw [← k3]; exact .eptr k1 (by rw [k3]; exact h2)
      · exact .eptrOld k1 (fun _ _ _ he => by cases he; exact k2)
    | dead => exact .eptrOld k1 (fun _ _ _ he => by cases he)
    | _ => simp [Compat] at k2
  | iptr us h1 =>
    refine .iptr us (fun j c hc => ?_)
    obtain ⟨k1, k2, k3⟩ := h1 j c hc
    exact ⟨hs.mono _ k1, by rw [← k2]; simp only [World.cell?, hs.iheap hr _ k1], hs.vd hr k3⟩
  | agg h1 h2 ih => exact .agg h1 ih
  | tuple h1 h2 ih => exact .tuple h1 ih
  | func h1 h2 h3 h4 ih1 ih2 => exact .func h1 ih1 h3 ih2
  | iface t h ih => exact .iface t ih
  | map h1 h2 =>
    obtain ⟨blk', h3, h4⟩ := hs.compat _ _ h1
    cases blk' with
    | map es => simp only [Compat] at h4; exact .map h3 (by rw [h4]; exact h2)
    | _ => simp [Compat] at h4
  | itr h1 h2 =>
    obtain ⟨blk', h3, h4⟩ := hs.compat _ _ h1
    cases blk' with
    | iter s' pos' => simp only [Compat] at h4; exact .itr h3 (by rw [h4.1]; exact h2)
    | _ => simp [Compat] at h4

end
end Nv
