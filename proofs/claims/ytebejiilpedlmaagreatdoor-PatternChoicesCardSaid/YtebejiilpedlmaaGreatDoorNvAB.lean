/- Part of a proof about the functions of this seat. -/
import Derived.WalkKit
import Derived.Lib.DecodeN
import Derived.Lib.LaidU8T
import Derived.WalkLawsBesides
/- The values of the abstract layer, their reading in a world, and how a reading is kept. -/



set_option linter.unusedVariables false
set_option linter.unusedSimpArgs false
namespace Nv
open Go

/-- An equation that the simplifier does not take for one by unfolding. -/
theorem nrfl {α : Sort _} {a b : α} (h : a = b) : a = b := h

/-- Data that no longer changes: a slice is the list of its elements. -/
inductive DV where
  | int (k : IntKind) (n : Int)
  | bool (b : Bool)
  | str (s : List UInt8)
  | nilptr
  | nilslice
  | nilmap
  | nilfunc
  | niliface
  | func (f : Fn)
  | iface (t : TypeId) (x : DV)
  | list (e : Nat) (xs : List DV)
  | agg (cs : List DV)
  deriving Inhabited

@[simp] def DV.cells : DV → List DV
  | .agg cs => cs
  | x => [x]

def flat (xs : List DV) : List DV := xs.flatMap DV.cells

def DV.isAgg : DV → Bool
  | .agg _ => true
  | _ => false

/-- An element of e cells. -/
def Uni (e : Nat) (x : DV) : Prop := x.cells.length = e ∧ ∀ c, c ∈ x.cells → c.isAgg = false

inductive VD (I : Nat → Prop) (w : World) : DV → Value → Prop
  | int (k : IntKind) (n : Int) : VD I w (.int k n) (.int k n)
  | bool (b : Bool) : VD I w (.bool b) (.bool b)
  | str (s : List UInt8) : VD I w (.str s) (.string ⟨s.toArray⟩)
  | nilptr : VD I w .nilptr (.pointer none)
  | nilslice : VD I w .nilslice (.slice none 0 0)
  | nilmap : VD I w .nilmap (.map none)
  | nilfunc : VD I w .nilfunc .nilFunc
  | niliface : VD I w .niliface .nilIface
  | func (f : Fn) : VD I w (.func f) (.func f #[] #[])
  | iface (t : TypeId) {x : DV} {v : Value} : VD I w x v → VD I w (.iface t x) (.iface t v)
  | listNil (e : Nat) (p : Option Addr) : VD I w (.list e []) (.slice p 0 0)
  | list {e : Nat} {xs : List DV} {b off n cap : Nat} (us : Nat → Value) : n = xs.length → n ≤ cap → (∀ x, x ∈ xs → Uni e x) →
      (∀ j c, (flat xs)[j]? = some c → I b ∧ w.cell? ⟨b, off + j, none⟩ = some (us j)) →
      (∀ j c, (flat xs)[j]? = some c → VD I w c (us j)) → VD I w (.list e xs) (.slice (some ⟨b, off, none⟩) n cap)
  | agg {cs : List DV} {vs : Array Value} : cs.length = vs.size → (∀ j c, cs[j]? = some c → VD I w c (vs.getD j undef)) → VD I w (.agg cs) (.agg vs)

theorem VD.mono {I I' : Nat → Prop} {w w' : World} (hI : ∀ b, I b → I' b) (hw : ∀ b, I b → w'.heap[b]? = w.heap[b]?) {x : DV} {v : Value} (h : VD I w x v) : VD I' w' x v := by
  induction h with
  | int => exact .int _ _
  | bool => exact .bool _
  | str => exact .str _
  | nilptr => exact .nilptr
  | nilslice => exact .nilslice
  | nilmap => exact .nilmap
  | nilfunc => exact .nilfunc
  | niliface => exact .niliface
  | func => exact .func _
  | iface t _ ih => exact .iface t ih
  | listNil e p => exact .listNil e p
  | list us h1 h2 h0 h3 h4 ih =>
    refine .list us h1 h2 h0 (fun j c hc => ?_) ih
    obtain ⟨hi, hcell⟩ := h3 j c hc
    refine ⟨hI _ hi, ?_⟩
    rw [← hcell]; simp only [World.cell?, hw _ hi]
  | agg h1 h2 ih => exact .agg h1 ih

/-- The values of a function's slots. -/
inductive AV where
  | d (x : DV)
  | any
  | ptr (b o : Nat)
  | own (b g off n : Nat)
  | eptr (b g i o : Nat)
  | iptr (cs : List DV)
  | aptr
  | agg (cs : List AV)
  | tuple (vs : List AV)
  | func (f : Fn) (first cap : List AV)
  | iface (t : TypeId) (x : AV)
  | map (b : Nat)
  | itr (b : Nat)
  deriving Inhabited

@[simp] def AV.cells : AV → List AV
  | .agg cs => cs
  | x => [x]

/-- What a row's elements are: so many cells, of this type. -/
structure ET where
  n : Nat
  t : Nat
  deriving DecidableEq, Inhabited
instance : Coe ET Nat := ⟨ET.n⟩
attribute [go_sem] ET.n ET.t

/-- A block of the abstract store. -/
inductive Blk where
  | box (t : Nat) (cs : List AV)
  | arr (g : Nat) (e : ET) (xs : List DV)
  | map (es : List (DV × DV))
  | iter (s : List UInt8) (pos : Nat)
  | dead
  deriving Inhabited

def Blk.live : Blk → Prop
  | .dead => False
  | _ => True

structure Place where
  blk : Option Nat
  base : Nat
  cap : Nat
  deriving Inhabited

abbrev ST := List Blk
abbrev FR := Nat → AV
abbrev RHO := Nat → Place

inductive V (ρ : RHO) (σ : ST) (I : Nat → Prop) (w : World) : AV → Value → Prop
  | any (v : Value) : V ρ σ I w .any v
  | aptr (p : Option Addr) : V ρ σ I w .aptr (.pointer p)
  | d {x : DV} {v : Value} : VD I w x v → V ρ σ I w (.d x) v
  | ptr {b o B t : Nat} {cs : List AV} : σ[b]? = some (.box t cs) → (ρ b).blk = some B → V ρ σ I w (.ptr b o) (.pointer (some ⟨B, o, none⟩))
  | ownOld {b g off n : Nat} {blk : Blk} {p : Option Addr} {m c : Nat} : σ[b]? = some blk → (∀ g' e xs, blk = .arr g' e xs → g < g') → V ρ σ I w (.own b g off n) (.slice p m c)
  | ownNil {b g off : Nat} {e : ET} {xs : List DV} {p : Option Addr} : σ[b]? = some (.arr g e xs) → (∀ a, p = some a → a.spot = none ∧ a.block < w.heap.size) → V ρ σ I w (.own b g off 0) (.slice p 0 0)
  | own {b g off n B cap : Nat} {e : ET} {xs : List DV} : σ[b]? = some (.arr g e xs) → (ρ b).blk = some B → n ≤ cap → off + cap ≤ (ρ b).cap →
      V ρ σ I w (.own b g off n) (.slice (some ⟨B, (ρ b).base + off * e, none⟩) n cap)
  | eptrOld {b g i o : Nat} {blk : Blk} {p : Option Addr} : σ[b]? = some blk → (∀ g' e xs, blk = .arr g' e xs → g < g') → V ρ σ I w (.eptr b g i o) (.pointer p)
  | eptr {b g i o B : Nat} {e : ET} {xs : List DV} : σ[b]? = some (.arr g e xs) → (ρ b).blk = some B →
      V ρ σ I w (.eptr b g i o) (.pointer (some ⟨B, (ρ b).base + i * e + o, none⟩))
  | iptr {cs : List DV} {B off : Nat} (us : Nat → Value) : (∀ j c, cs[j]? = some c → I B ∧ w.cell? ⟨B, off + j, none⟩ = some (us j) ∧ VD I w c (us j)) →
      V ρ σ I w (.iptr cs) (.pointer (some ⟨B, off, none⟩))
  | agg {cs : List AV} {vs : Array Value} : cs.length = vs.size → (∀ j c, cs[j]? = some c → V ρ σ I w c (vs.getD j undef)) → V ρ σ I w (.agg cs) (.agg vs)
  | tuple {cs : List AV} {vs : Array Value} : cs.length = vs.size → (∀ j c, cs[j]? = some c → V ρ σ I w c (vs.getD j undef)) → V ρ σ I w (.tuple cs) (.tuple vs)
  | func {f : Fn} {fs cs : List AV} {us vs : Array Value} : fs.length = us.size → (∀ j c, fs[j]? = some c → V ρ σ I w c (us.getD j undef)) →
      cs.length = vs.size → (∀ j c, cs[j]? = some c → V ρ σ I w c (vs.getD j undef)) → V ρ σ I w (.func f fs cs) (.func f us vs)
  | iface (t : TypeId) {x : AV} {v : Value} : V ρ σ I w x v → V ρ σ I w (.iface t x) (.iface t v)
  | map {b B : Nat} {es : List (DV × DV)} : σ[b]? = some (.map es) → (ρ b).blk = some B → V ρ σ I w (.map b) (.map (some B))
  | itr {b B : Nat} {s : List UInt8} {pos : Nat} : σ[b]? = some (.iter s pos) → (ρ b).blk = some B → V ρ σ I w (.itr b) (.pointer (some ⟨B, 0, none⟩))

/-- A list of values, place by place. -/
def VL (ρ : RHO) (σ : ST) (I : Nat → Prop) (w : World) (avl : List AV) (vs : Array Value) : Prop :=
  avl.length = vs.size ∧ ∀ j a, avl[j]? = some a → V ρ σ I w a (vs.getD j undef)

/-- A block avl it lies in the world. -/
inductive RB (ρ : RHO) (σ : ST) (I : Nat → Prop) (w : World) (p : Place) : Blk → Prop
  | box {cs : List AV} {B t : Nat} {us : Array Value} : p.blk = some B → w.heap[B]? = some (.cells us t (0, 0)) → cs.length = us.size →
      (∀ j c, cs[j]? = some c → V ρ σ I w c (us.getD j undef)) → RB ρ σ I w p (.box t cs)
  | arrNil {g : Nat} {e : ET} : p.blk = none → p.cap = 0 → RB ρ σ I w p (.arr g e [])
  | arr {g B : Nat} {e : ET} {xs : List DV} {us : Array Value} : p.blk = some B → w.heap[B]? = some (.cells us e.t (0, 0)) →
      p.base + p.cap * e ≤ us.size → xs.length ≤ p.cap → (∀ x, x ∈ xs → Uni e x) →
      (∀ j c, (flat xs)[j]? = some c → VD I w c (us.getD (p.base + j) undef)) → RB ρ σ I w p (.arr g e xs)
  | map {es : List (DV × DV)} {B clock : Nat} {ents : Array MapEntry} : p.blk = some B → w.heap[B]? = some (.map ents clock) → ents.size = es.length →
      (∀ (j : Nat) (y : DV × DV), es[j]? = some y → ∃ e : MapEntry, ents[j]? = some e ∧ VD I w y.1 e.key ∧ VD I w y.2 e.val) → RB ρ σ I w p (.map es)
  | iter {s : List UInt8} {pos B : Nat} : p.blk = some B → w.heap[B]? = some (.stringIter ⟨s.toArray⟩ pos) → RB ρ σ I w p (.iter s pos)
  | dead : RB ρ σ I w p .dead

def Lives (ρ : RHO) (σ : ST) (B : Nat) : Prop := ∃ i blk, σ[i]? = some blk ∧ blk.live ∧ (ρ i).blk = some B

/-- What the program's variables hold, which no function of it turns: they lie avl in a world of the program's own shape in which the two tables of utf8 lie avl the program lays them. -/
structure Tabs (P : Program) (I : Nat → Prop) (w : World) : Prop where
  base : ∃ w0 : World, w0.ShapedOpen P ∧ (∀ r : Shelf.Ren, Proofs.U8Types P r → Proofs.U8Extra P r → Lib.Utf8Tabs (r.g 3) (r.g 4) w0) ∧ ∀ b, b < P.globals.size → I b ∧ w.heap[b]? = w0.heap[b]?

theorem Tabs.keep {P : Program} {I I' : Nat → Prop} {w w' : World} (h : Tabs P I w) (hI : ∀ b, I b → I' b) (hk : ∀ b, I b → w'.heap[b]? = w.heap[b]?) : Tabs P I' w' := by
  obtain ⟨w0, h1, h2, h3⟩ := h.base
  exact ⟨w0, h1, h2, fun b hb => ⟨hI _ (h3 b hb).1, (hk _ (h3 b hb).1).trans (h3 b hb).2⟩⟩
theorem lt_of_global {P : Program} {g t : Nat} (h : (P.globals[g]?).map (·.type) = some t) : g < P.globals.size := by
  rcases Nat.lt_or_ge g P.globals.size with h' | h'
  · exact h'
  · rw [Array.getElem?_eq_none h'] at h; cases h
theorem Tabs.utf8 {P : Program} {I : Nat → Prop} {w : World} (h : Tabs P I w) {r : Shelf.Ren} (T : Proofs.U8Types P r) (X : Proofs.U8Extra P r) : Lib.Utf8Tabs (r.g 3) (r.g 4) w := by
  obtain ⟨w0, h1, h2, h3⟩ := h.base
  obtain ⟨k1, k2⟩ := h2 r T X
  have e3 : ∀ c, w.cell? ⟨r.g 3, c, none⟩ = w0.cell? ⟨r.g 3, c, none⟩ := fun c => by simp only [World.cell?, (h3 _ (lt_of_global X.y3)).2]
  have e4 : ∀ c, w.cell? ⟨r.g 4, c, none⟩ = w0.cell? ⟨r.g 4, c, none⟩ := fun c => by simp only [World.cell?, (h3 _ (lt_of_global X.y4)).2]
  exact ⟨fun c hc => by rw [e3]; exact k1 c hc, fun i hi => by rw [e4, e4]; exact k2 i hi⟩
/-- What the cell of a variable of the program holds in every world of its shape, it holds. -/
theorem Tabs.cell {P : Program} {I : Nat → Prop} {w : World} (h : Tabs P I w) {g : Nat} (hg : g < P.globals.size) {Q : Option Value → Prop} (hq : ∀ w0 : World, w0.ShapedOpen P → Q (w0.cell? ⟨g, 0, none⟩)) : Q (w.cell? ⟨g, 0, none⟩) := by
  obtain ⟨w0, h1, h2, h3⟩ := h.base
  have e : w.cell? ⟨g, 0, none⟩ = w0.cell? ⟨g, 0, none⟩ := by simp only [World.cell?, (h3 _ hg).2]
  rw [e]; exact hq w0 h1
theorem Tabs.of {P : Program} {w : World} (hs : w.ShapedOpen P) (h : ∀ r : Shelf.Ren, Proofs.U8Types P r → Proofs.U8Extra P r → Lib.Utf8Tabs (r.g 3) (r.g 4) w) (hn : P.globals.size ≤ w.heap.size) : Tabs P (fun b => b < w.heap.size) w :=
  ⟨w, hs, h, fun b hb => ⟨Nat.lt_of_lt_of_le hb hn, rfl⟩⟩

structure RS (P : Program) (ρ : RHO) (I : Nat → Prop) (w : World) (σ : ST) : Prop where
  blk : ∀ i blk, σ[i]? = some blk → RB ρ σ I w (ρ i) blk
  inj : ∀ i j bi bj B, σ[i]? = some bi → σ[j]? = some bj → bi.live → bj.live → (ρ i).blk = some B → (ρ j).blk = some B → i = j
  sep : ∀ B, Lives ρ σ B → ¬ I B
  bound : ∀ B, I B → B < w.heap.size
  tabs : Tabs P I w

def Compat (b : Blk) (p : Place) (b' : Blk) (p' : Place) : Prop :=
  match b, b' with
  | .box t cs, .box t' cs' => p' = p ∧ cs'.length = cs.length ∧ t' = t
  | .arr g e xs, .arr g' e' xs' => (g' = g ∧ e' = e ∧ p' = p ∧ xs'.length = xs.length) ∨ g < g'
  | .arr _ _ _, .dead => True
  | .map _, .map _ => p' = p
  | .iter s _, .iter s' _ => p' = p ∧ s' = s
  | .dead, .dead => True
  | _, _ => False

/-- What surrounds the heap stays. -/
structure Around (w w' : World) : Prop where
  os : w'.os = w.os
  tape : w'.tape = w.tape
  output : w'.output = w.output
theorem Around.refl (w : World) : Around w w := ⟨rfl, rfl, rfl⟩
theorem Around.trans {a b c : World} (h : Around a b) (k : Around b c) : Around a c := ⟨k.os.trans h.os, k.tape.trans h.tape, k.output.trans h.output⟩

structure Ext (w w' : World) : Prop where
  size : w.heap.size ≤ w'.heap.size
  env : Around w w'
theorem Ext.of {w w' : World} (h : w.heap.size ≤ w'.heap.size) (e : Around w w' := by exact ⟨rfl, rfl, rfl⟩) : Ext w w' := ⟨h, e⟩

structure Step (ρ : RHO) (I : Nat → Prop) (w : World) (σ : ST) (ρ' : RHO) (I' : Nat → Prop) (w' : World) (σ' : ST) : Prop where
  keep : ∀ b, b < w.heap.size → ¬ Lives ρ σ b → w'.heap[b]? = w.heap[b]?
  mono : ∀ b, I b → I' b
  inew : ∀ b, I' b → I b ∨ Lives ρ σ b ∨ w.heap.size ≤ b
  fpn : ∀ b, Lives ρ' σ' b → Lives ρ σ b ∨ w.heap.size ≤ b
  hsz : w.heap.size ≤ w'.heap.size
  compat : ∀ b blk, σ[b]? = some blk → ∃ blk', σ'[b]? = some blk' ∧ Compat blk (ρ b) blk' (ρ' b)
  env : Around w w'

theorem Compat.refl (b : Blk) (p : Place) : Compat b p b p := by cases b <;> simp [Compat]

theorem Compat.trans {a b c : Blk} {p q r : Place} (h : Compat a p b q) (h' : Compat b q c r) : Compat a p c r := by
  cases a <;> cases b <;> cases c <;> simp only [Compat] at h h' ⊢ <;> try contradiction
  case box.box.box => exact ⟨h'.1.trans h.1, h'.2.1.trans h.2.1, h'.2.2.trans h.2.2⟩
  case arr.arr.arr =>
    rcases h with ⟨h1, h2, h3, h5⟩ | h <;> rcases h' with ⟨k1, k2, k3, k5⟩ | h'
    · exact .inl ⟨by omega, by rw [k2, h2], by rw [k3, h3], by omega⟩
    · exact .inr (by omega)
    · exact .inr (by omega)
    · exact .inr (by omega)
  case map.map.map => rw [h', h]
  case iter.iter.iter => exact ⟨h'.1.trans h.1, h'.2.trans h.2⟩

theorem Step.refl (ρ : RHO) (I : Nat → Prop) (w : World) (σ : ST) : Step ρ I w σ ρ I w σ :=
  ⟨fun _ _ _ => rfl, fun _ h => h, fun _ h => .inl h, fun _ h => .inl h, Nat.le_refl _, fun b blk h => ⟨blk, h, Compat.refl _ _⟩, Around.refl w⟩

theorem Step.trans {ρ ρ' ρ'' : RHO} {I I' I'' : Nat → Prop} {w w' w'' : World} {σ σ' σ'' : ST}
    (h : Step ρ I w σ ρ' I' w' σ') (h' : Step ρ' I' w' σ' ρ'' I'' w'' σ'') : Step ρ I w σ ρ'' I'' w'' σ'' where
  keep b hb hl := by
    rw [h'.keep b (Nat.lt_of_lt_of_le hb h.hsz) (fun hl' => (h.fpn b hl').elim hl (fun hge => by omega)), h.keep b hb hl]
  mono b hb := h'.mono b (h.mono b hb)
  inew b hb := by
    rcases h'.inew b hb with h1 | h1 | h1
    · exact h.inew b h1
    · exact (h.fpn b h1).elim (fun x => .inr (.inl x)) (fun x => .inr (.inr x))
    · exact .inr (.inr (Nat.le_trans h.hsz h1))
  fpn b hb := by
    rcases h'.fpn b hb with h1 | h1
    · exact h.fpn b h1
    · exact .inr (Nat.le_trans h.hsz h1)
  hsz := Nat.le_trans h.hsz h'.hsz
  env := h.env.trans h'.env
  compat b blk hb := by
    obtain ⟨blk', h1, h2⟩ := h.compat b blk hb
    obtain ⟨blk'', h3, h4⟩ := h'.compat b blk' h1
    exact ⟨blk'', h3, h2.trans h4⟩

section
variable {P : Program} {ρ ρ' : RHO} {I I' : Nat → Prop} {w w' : World} {σ σ' : ST}

theorem Step.iheap (hr : RS P ρ I w σ) (hs : Step ρ I w σ ρ' I' w' σ') (b : Nat) (hb : I b) : w'.heap[b]? = w.heap[b]? :=
  hs.keep b (hr.bound b hb) (fun hl => hr.sep b hl hb)

theorem Step.tabs (hr : RS P ρ I w σ) (hs : Step ρ I w σ ρ' I' w' σ') : Tabs P I' w' := hr.tabs.keep hs.mono (hs.iheap hr)

theorem Step.vd (hr : RS P ρ I w σ) (hs : Step ρ I w σ ρ' I' w' σ') {x : DV} {v : Value} (h : VD I w x v) : VD I' w' x v :=
  h.mono hs.mono (hs.iheap hr)

theorem Step.old (hs : Step ρ I w σ ρ' I' w' σ') {b g : Nat} {blk : Blk} (h : σ[b]? = some blk) (hg : ∀ g' e xs, blk = .arr g' e xs → g < g') :
    ∃ blk', σ'[b]? = some blk' ∧ ∀ g' e xs, blk' = .arr g' e xs → g < g' := by
  obtain ⟨blk', h1, h2⟩ := hs.compat b blk h
  refine ⟨blk', h1, fun g' e xs he => ?_⟩
  subst he
  cases blk with
  | arr g0 e0 xs0 =>
    have := hg _ _ _ rfl
    simp only [Compat] at h2
    rcases h2 with h2 | h2 <;> omega
  | _ => simp [Compat] at h2

theorem Step.v (hr : RS P ρ I w σ) (hs : Step ρ I w σ ρ' I' w' σ') {a : AV} {v : Value} (h : V ρ σ I w a v) : V ρ' σ' I' w' a v := by
  induction h with
  | any v => exact .any v
  | aptr p => exact .aptr p
  | d h => exact .d (hs.vd hr h)
  | ptr h1 h2 =>
    obtain ⟨blk', h3, h4⟩ := hs.compat _ _ h1
    cases blk' <;> simp only [Compat] at h4
    exact .ptr h3 (by rw [h4.1]; exact h2)
  | ownOld h1 h2 => obtain ⟨b', h3, h4⟩ := hs.old h1 h2; exact .ownOld h3 h4
  | eptrOld h1 h2 => obtain ⟨b', h3, h4⟩ := hs.old h1 h2; exact .eptrOld h3 h4
  | ownNil h1 h2 =>
    obtain ⟨blk', h3, h4⟩ := hs.compat _ _ h1
    cases blk' with
    | arr g' e' xs' =>
      simp only [Compat] at h4
      rcases h4 with ⟨rfl, rfl, h5, h6⟩ | h4
      · exact .ownNil h3 (fun a ha => ⟨(h2 a ha).1, Nat.lt_of_lt_of_le (h2 a ha).2 hs.hsz⟩)
      · exact .ownOld h3 (fun _ _ _ he => by cases he; exact h4)
    | dead => exact .ownOld h3 (fun _ _ _ he => by cases he)
    | _ => simp [Compat] at h4
  | own h1 h2 h3 h4 =>
    obtain ⟨blk', k1, k2⟩ := hs.compat _ _ h1
    cases blk' with
    | arr g' e' xs' =>
      simp only [Compat] at k2
      rcases k2 with ⟨rfl, rfl, k3, k4⟩ | k2
      · rw [← k3]; exact .own k1 (by rw [k3]; exact h2) h3 (by rw [k3]; exact h4)
      · exact .ownOld k1 (fun _ _ _ he => by cases he; exact k2)
    | dead => exact .ownOld k1 (fun _ _ _ he => by cases he)
    | _ => simp [Compat] at k2
  | eptr h1 h2 =>
    obtain ⟨blk', k1, k2⟩ := hs.compat _ _ h1
    cases blk' with
    | arr g' e' xs' =>
      simp only [Compat] at k2
      rcases k2 with ⟨rfl, rfl, k3, k4⟩ | k2
      · rw [← k3]; exact .eptr k1 (by rw [k3]; exact h2)
      · exact .eptrOld k1 (fun _ _ _ he => by cases he; exact k2)
    | dead => exact .eptrOld k1 (fun _ _ _ he => by cases he)
    | _ => simp [Compat] at k2
  | iptr us h1 =>
    refine .iptr us (fun j c hc => ?_)
    obtain ⟨k1, k2, k3⟩ := h1 j c hc
    exact ⟨hs.mono _ k1, by rw [← k2]; simp only [World.cell?, hs.iheap hr _ k1], hs.vd hr k3⟩
  | agg h1 h2 ih => exact .agg h1 ih
  | tuple h1 h2 ih => exact .tuple h1 ih
  | func h1 h2 h3 h4 ih1 ih2 => exact .func h1 ih1 h3 ih2
  | iface t h ih => exact .iface t ih
  | map h1 h2 =>
    obtain ⟨blk', h3, h4⟩ := hs.compat _ _ h1
    cases blk' with
    | map es => simp only [Compat] at h4; exact .map h3 (by rw [h4]; exact h2)
    | _ => simp [Compat] at h4
  | itr h1 h2 =>
    obtain ⟨blk', h3, h4⟩ := hs.compat _ _ h1
    cases blk' with
    | iter s' pos' => simp only [Compat] at h4; exact .itr h3 (by rw [h4.1]; exact h2)
    | _ => simp [Compat] at h4

end
end Nv
/- The operations of the abstract layer: those that leave the store avl it is. -/


set_option linter.unusedVariables false
set_option linter.unusedSimpArgs false
namespace Nv
open Go

def ofD : Value → Option DV
  | .bool b => some (.bool b)
  | .int k n => some (.int k n)
  | .string s => some (.str s.data.toList)
  | .pointer none => some .nilptr
  | .slice none 0 0 => some .nilslice
  | .map none => some .nilmap
  | .nilFunc => some .nilfunc
  | .nilIface => some .niliface
  | .func f ⟨[]⟩ ⟨[]⟩ => some (.func f)
  | _ => none

def ofDs : List Value → Option (List DV)
  | [] => some []
  | v :: vs => match ofD v, ofDs vs with
    | some x, some xs => some (x :: xs)
    | _, _ => none

/-- A constant, or a type's zero value. -/
def ofVal : Value → AV
  | .agg ⟨vs⟩ => match ofDs vs with
    | some xs => .agg (xs.map .d)
    | none => .any
  | v => match ofD v with
    | some x => .d x
    | none => .any

theorem ofD_sound {I : Nat → Prop} {w : World} {v : Value} {x : DV} (h : ofD v = some x) : VD I w x v := by
  unfold ofD at h
  split at h <;> simp only [Option.some.injEq, reduceCtorEq] at h <;> subst h
  · exact .bool _
  · exact .int _ _
  · exact .str _
  · exact .nilptr
  · exact .nilslice
  · exact .nilmap
  · exact .nilfunc
  · exact .niliface
  · exact .func _

theorem ofDs_sound {I : Nat → Prop} {w : World} {vs : List Value} {xs : List DV} (h : ofDs vs = some xs) :
    xs.length = vs.length ∧ ∀ j c, xs[j]? = some c → VD I w c (vs.getD j undef) := by
  induction vs generalizing xs with
  | nil => simp only [ofDs, Option.some.injEq] at h; subst h; simp
  | cons v vs ih =>
    simp only [ofDs] at h
    split at h
    · rename_i x xs' h1 h2
      simp only [Option.some.injEq] at h; subst h
      obtain ⟨k1, k2⟩ := ih h2
      refine ⟨by simp [k1], fun j c hj => ?_⟩
      cases j with
      | zero => simp only [List.getElem?_cons_zero, Option.some.injEq] at hj; subst hj; simpa using ofD_sound h1
      | succ j => simpa using k2 j c (by simpa using hj)
    · cases h

theorem ofVal_sound {ρ : RHO} {σ : ST} {I : Nat → Prop} {w : World} (v : Value) : V ρ σ I w (ofVal v) v := by
  unfold ofVal
  split
  · rename_i vs
    split
    · rename_i xs h
      obtain ⟨h1, h2⟩ := ofDs_sound (I := I) (w := w) h
      refine .agg (by simp [h1]) (fun j c hj => ?_)
      simp only [List.getElem?_map] at hj
      cases hx : xs[j]? with
      | none => simp [hx] at hj
      | some y => simp only [hx, Option.map_some, Option.some.injEq] at hj; subst hj; exact .d (by simpa [Array.getD_eq_getD_getElem?] using h2 j y hx)
    · exact .any _
  · split
    · rename_i h; exact .d (ofD_sound h)
    · exact .any _

@[go_sem] theorem ofVal_bool (b : Bool) : ofVal (.bool b) = .d (.bool b) := nrfl rfl
@[go_sem] theorem ofVal_int (k : IntKind) (n : Int) : ofVal (.int k n) = .d (.int k n) := nrfl rfl
@[go_sem] theorem ofVal_string (l : List UInt8) : ofVal (.string ⟨⟨l⟩⟩) = .d (.str l) := nrfl rfl
@[go_sem] theorem ofVal_nilptr : ofVal (.pointer none) = .d .nilptr := nrfl rfl
@[go_sem] theorem ofVal_nilslice : ofVal (.slice none 0 0) = .d .nilslice := nrfl rfl
@[go_sem] theorem ofVal_nilmap : ofVal (.map none) = .d .nilmap := nrfl rfl
@[go_sem] theorem ofVal_nilFunc : ofVal .nilFunc = .d .nilfunc := nrfl rfl
@[go_sem] theorem ofVal_nilIface : ofVal .nilIface = .d .niliface := nrfl rfl
@[go_sem] theorem ofVal_agg (l : List Value) : ofVal (.agg ⟨l⟩) = match ofDs l with | some xs => .agg (xs.map .d) | none => .any := nrfl rfl
@[go_sem] theorem ofDs_nil : ofDs [] = some [] := nrfl rfl
@[go_sem] theorem ofDs_cons (v : Value) (l : List Value) : ofDs (v :: l) = match ofD v, ofDs l with | some x, some xs => some (x :: xs) | _, _ => none := nrfl rfl
attribute [go_sem] ofD

/-- A frame with one slot written anew. -/
def put (fr : FR) (dst : Option Nat) (a : AV) : FR :=
  match dst with
  | some d => fun i => bif Nat.beq i d then a else fr i
  | none => fr

@[go_sem] theorem put_none (fr : FR) (a : AV) : put fr none a = fr := nrfl rfl
@[go_sem] theorem put_some (fr : FR) (d i : Nat) (a : AV) : put fr (some d) a i = bif i == d then a else fr i := by
  have e : Nat.beq i d = (i == d) := by rw [Bool.eq_iff_iff]; simp
  rw [← e]; rfl

def aeval (fr : FR) : Operand → AV
  | .tmp t => fr t
  | .const v => ofVal v
  | .global _ => .any
  | .func f => .d (.func (.func f))

@[go_sem] theorem aeval_tmp (fr : FR) (t : Nat) : aeval fr (.tmp t) = fr t := nrfl rfl
@[go_sem] theorem aeval_const (fr : FR) (v : Value) : aeval fr (.const v) = ofVal v := nrfl rfl
@[go_sem] theorem aeval_func (fr : FR) (f : Nat) : aeval fr (.func f) = .d (.func (.func f)) := nrfl rfl

def stGet (σ : ST) (b : Nat) : Blk := σ.getD b .dead
def stSet (σ : ST) (b : Nat) (blk : Blk) : ST := σ.set b blk
theorem stGet_some {σ : ST} {b : Nat} {blk : Blk} (h : stGet σ b = blk) (hd : blk ≠ .dead) : σ[b]? = some blk := by
  unfold stGet at h
  rw [List.getD_eq_getElem?_getD] at h
  cases hb : σ[b]? with
  | none => rw [hb] at h; exact absurd h.symm hd
  | some x => rw [hb] at h; simpa using h

instance decBoolT (x : Option TypeDesc) : Decidable (x = some .bool) := by
  cases x with
  | none => exact isFalse (by simp)
  | some d => cases d <;> first | exact isTrue rfl | exact isFalse (by simp)

instance decAny (a : AV) : Decidable (a = .any) := by
  cases a <;> first | exact isTrue rfl | exact isFalse (by simp)

/-- What an operation comes to: a value and a store; what must hold for it; or nothing known. -/
inductive Res where
  | ok (v : AV) (σ : ST)
  | need (p : Prop) [d : Decidable p] (r : Res)
  | both (a b : Res)
  | bad

def Res.holds : Res → (AV → ST → Prop) → Prop
  | .ok v σ, R => R v σ
  | @Res.need p _ r, R => p ∧ r.holds R
  | .both a b, R => a.holds R ∧ b.holds R
  | .bad, _ => False

/-- The same where one outcome must be known. -/
def Res.dholds : Res → (AV → ST → Prop) → Prop
  | .ok v σ, R => R v σ
  | @Res.need p _ r, R => p ∧ r.dholds R
  | .both _ _, _ => False
  | .bad, _ => False

@[go_sem] theorem holds_ok (v : AV) (σ : ST) (R : AV → ST → Prop) : (Res.ok v σ).holds R = R v σ := nrfl rfl
@[go_sem] theorem holds_need (p : Prop) [Decidable p] (r : Res) (R : AV → ST → Prop) : (Res.need p r).holds R = (p ∧ r.holds R) := nrfl rfl
@[go_sem] theorem holds_bad (R : AV → ST → Prop) : Res.bad.holds R = False := nrfl rfl
@[go_sem] theorem holds_both (a b : Res) (R : AV → ST → Prop) : (Res.both a b).holds R = (a.holds R ∧ b.holds R) := nrfl rfl
theorem holds_congr {r r' : Res} {R : AV → ST → Prop} (h : r = r') : r.holds R = r'.holds R := by rw [h]

/-- What the frame holds, slot by slot. -/
def VF (ρ : RHO) (σ : ST) (I : Nat → Prop) (w : World) (fr : FR) (a : Act) : Prop := ∀ i, V ρ σ I w (fr i) (a.tmps.getD i undef)

theorem VF.eval {ρ : RHO} {σ : ST} {I : Nat → Prop} {w : World} {fr : FR} {a : Act} (h : VF ρ σ I w fr a) (x : Operand) : V ρ σ I w (aeval fr x) (a.eval x) := by
  cases x with
  | tmp t => exact h t
  | const v => exact ofVal_sound v
  | global g => exact .any _
  | func f => exact .d (.func _)

/-- An operation that computes a value and leaves the world alone. -/
def Pev (P : Program) (ρ : RHO) (σ : ST) (I : Nat → Prop) (w : World) (s : Sem Value) (r : Res) : Prop :=
  ∀ R : AV → ST → Prop, r.holds R → ∃ v av, s.run P w = .ok v w ∧ V ρ σ I w av v ∧ R av σ

theorem Pev.ok {P : Program} {ρ : RHO} {σ : ST} {I : Nat → Prop} {w : World} {s : Sem Value} {av : AV} {v : Value} (h : s.run P w = .ok v w) (hv : V ρ σ I w av v) :
    Pev P ρ σ I w s (.ok av σ) := fun _ hr => ⟨v, av, h, hv, hr⟩

theorem Pev.bad {P : Program} {ρ : RHO} {σ : ST} {I : Nat → Prop} {w : World} {s : Sem Value} : Pev P ρ σ I w s .bad := fun _ hr => hr.elim

theorem Pev.left {P : Program} {ρ : RHO} {σ : ST} {I : Nat → Prop} {w : World} {s : Sem Value} {a b : Res} (h : Pev P ρ σ I w s a) : Pev P ρ σ I w s (.both a b) := fun _ hr => h _ hr.1
theorem Pev.right {P : Program} {ρ : RHO} {σ : ST} {I : Nat → Prop} {w : World} {s : Sem Value} {a b : Res} (h : Pev P ρ σ I w s b) : Pev P ρ σ I w s (.both a b) := fun _ hr => h _ hr.2

theorem Pev.need {P : Program} {ρ : RHO} {σ : ST} {I : Nat → Prop} {w : World} {s : Sem Value} {p : Prop} [Decidable p] {r : Res} (h : p → Pev P ρ σ I w s r) :
    Pev P ρ σ I w s (.need p r) := fun _ hr => h hr.1 _ hr.2

section
variable {P : Program} {ρ : RHO} {σ : ST} {I : Nat → Prop} {w : World}

/- pick -/
def rPick (c a b : AV) (σ : ST) : Res :=
  match c with
  | .d (.bool c) => .ok (bif c then a else b) σ
  | _ => .bad
@[go_sem] theorem rPick_bool (c : Bool) (a b : AV) (σ : ST) : rPick (.d (.bool c)) a b σ = .ok (bif c then a else b) σ := nrfl rfl

theorem pick_sound {c a b : AV} {vc va vb : Value} (hc : V ρ σ I w c vc) (ha : V ρ σ I w a va) (hb : V ρ σ I w b vb) :
    Pev P ρ σ I w (do pure (if ← asBool vc then va else vb)) (rPick c a b σ) := by
  unfold rPick
  split
  · cases hc with | d hc => cases hc; rename_i c; refine .ok (v := if c then va else vb) (by simp [asBool]) ?_; cases c <;> simpa
  · exact .bad

/- binary operators -/
def bInt (op : BinOp) (k : IntKind) (x y : Int) (σ : ST) : Res :=
  match op with
  | .add => .ok (.d (.int k (k.wrap (x + y)))) σ
  | .sub => .ok (.d (.int k (k.wrap (x - y)))) σ
  | .mul => .ok (.d (.int k (k.wrap (x * y)))) σ
  | .quo => .need (y ≠ 0) (.ok (.d (.int k (k.wrap (x.tdiv y)))) σ)
  | .rem => .need (y ≠ 0) (.ok (.d (.int k (x.tmod y))) σ)
  | .and => .ok (.d (.int k (k.wrap (BitVec.ofInt k.bits x &&& BitVec.ofInt k.bits y).toNat))) σ
  | .or => .ok (.d (.int k (k.wrap (BitVec.ofInt k.bits x ||| BitVec.ofInt k.bits y).toNat))) σ
  | .eql => .ok (.d (.bool (decide (x = y)))) σ
  | .neq => .ok (.d (.bool (!decide (x = y)))) σ
  | .lss => .ok (.d (.bool (decide (x < y)))) σ
  | .leq => .ok (.d (.bool (decide (x ≤ y)))) σ
  | .gtr => .ok (.d (.bool (decide (y < x)))) σ
  | .geq => .ok (.d (.bool (decide (y ≤ x)))) σ
  | _ => .bad

def bStr (op : BinOp) (x y : List UInt8) (σ : ST) : Res :=
  match op with
  | .add => .need (x.length + y.length ≤ 9223372036854775807) (.ok (.d (.str (x ++ y))) σ)
  | .eql => .ok (.d (.bool (decide (x = y)))) σ
  | .neq => .ok (.d (.bool (!decide (x = y)))) σ
  | .lss => .ok (.d (.bool (Op.bytesLess x y))) σ
  | _ => .bad

def bBool (op : BinOp) (x y : Bool) (σ : ST) : Res :=
  match op with
  | .eql => .ok (.d (.bool (x == y))) σ
  | .neq => .ok (.d (.bool (!(x == y)))) σ
  | _ => .bad

/-- The kinds of a struct's fields, where all are single cells of integers (0), bools (1), strings (2). -/
def kindOf (P : Program) (t : TypeId) : Nat :=
  match P.underlying t with
  | some (.int _) => 0
  | some .bool => 1
  | some .string => 2
  | _ => 9

def plainFields (P : Program) : List Field → Nat → Bool
  | [], _ => true
  | f :: fs, i => f.offset == i && f.name != "_" && kindOf P f.type != 9 && plainFields P fs (i + 1)

def structKinds (P : Program) (t : TypeId) : Option (List Nat) :=
  match P.underlying t with
  | some (.struct fs) => if plainFields P fs.toList 0 && !P.stoodInHeld t && !P.eqGuardType P.depth t then some (fs.toList.map fun f => kindOf P f.type) else none
  | _ => none

/-- Cells of structs that are compared. -/
def scalarEq : List Nat → List AV → List AV → Option Bool
  | [], [], [] => some true
  | 0 :: ks, .d (.int k x) :: avl, .d (.int k' y) :: bs => if k = k' then (scalarEq ks avl bs).map fun r => decide (x = y) && r else none
  | 1 :: ks, .d (.bool x) :: avl, .d (.bool y) :: bs => (scalarEq ks avl bs).map fun r => (x == y) && r
  | 2 :: ks, .d (.str x) :: avl, .d (.str y) :: bs => (scalarEq ks avl bs).map fun r => decide (x = y) && r
  | _, _, _ => none

@[go_sem] theorem scalarEq_nil : scalarEq [] [] [] = some true := nrfl rfl
@[go_sem] theorem scalarEq_int (ks : List Nat) (k k' : IntKind) (x y : Int) (avl bs : List AV) :
    scalarEq (0 :: ks) (.d (.int k x) :: avl) (.d (.int k' y) :: bs) = if k = k' then (scalarEq ks avl bs).map fun r => decide (x = y) && r else none := nrfl rfl
@[go_sem] theorem scalarEq_bool (ks : List Nat) (x y : Bool) (avl bs : List AV) :
    scalarEq (1 :: ks) (.d (.bool x) :: avl) (.d (.bool y) :: bs) = (scalarEq ks avl bs).map fun r => (x == y) && r := nrfl rfl
@[go_sem] theorem scalarEq_str (ks : List Nat) (x y : List UInt8) (avl bs : List AV) :
    scalarEq (2 :: ks) (.d (.str x) :: avl) (.d (.str y) :: bs) = (scalarEq ks avl bs).map fun r => decide (x = y) && r := nrfl rfl

def bAgg (op : BinOp) (ks : Option (List Nat)) (x y : List AV) (σ : ST) : Res :=
  match op, ks.bind fun ks => scalarEq ks x y with
  | .eql, some r => .ok (.d (.bool r)) σ
  | .neq, some r => .ok (.d (.bool (!r))) σ
  | _, _ => .bad
@[go_sem] theorem bAgg_eql (ks : List Nat) (x y : List AV) (σ : ST) : bAgg .eql (some ks) x y σ = match scalarEq ks x y with | some r => .ok (.d (.bool r)) σ | none => .bad := by
  simp only [bAgg, Option.bind_some]; cases scalarEq ks x y <;> rfl
@[go_sem] theorem bAgg_neq (ks : List Nat) (x y : List AV) (σ : ST) : bAgg .neq (some ks) x y σ = match scalarEq ks x y with | some r => .ok (.d (.bool (!r))) σ | none => .bad := by
  simp only [bAgg, Option.bind_some]; cases scalarEq ks x y <;> rfl

def bR (op : BinOp) (b : Bool) (σ : ST) : Res :=
  match op with
  | .eql => .ok (.d (.bool b)) σ
  | .neq => .ok (.d (.bool (!b))) σ
  | _ => .bad
def bOpen (σ : ST) : Res := .both (.ok (.d (.bool true)) σ) (.ok (.d (.bool false)) σ)

/-- Comparisons of slices, pointers, functions, maps and interfaces with nil; of pointers. -/
def bEq (P : Program) (op : BinOp) (d : Option TypeDesc) (c : Bool) (x y : AV) (σ : ST) : Res :=
  match d, x, y with
  | some (.slice _), .d .nilslice, .d .nilslice => bR op true σ
  | some (.slice _), .d (.list _ []), .d .nilslice => bif (match op with | .eql | .neq => true | _ => false) then bOpen σ else .bad
  | some (.slice _), .d (.list _ (_ :: _)), .d .nilslice => bR op false σ
  | some (.slice _), .own b g _ n, .d .nilslice => match stGet σ b with
    | .arr g' _ _ => .need (g = g' ∧ 0 < n) (bR op false σ)
    | _ => .bad
  | some (.pointer _), .d .nilptr, .d .nilptr => bR op true σ
  | some (.pointer _), .ptr _ _, .d .nilptr => bR op false σ
  | some (.pointer el), .ptr b o, .ptr b' o' => .need (b = b' ∧ o = o' ∧ 0 < P.cellsOf el) (bR op true σ)
  | some (.interface ms), .d .niliface, .d .niliface => .need (c = true) (bR op true σ)
  | some (.interface _), .d (.iface _ _), .d .niliface => bR op false σ
  | some (.interface _), .iface _ _, .d .niliface => bR op false σ
  | some (.func _ _ _), .d .nilfunc, .d .nilfunc => bR op true σ
  | some (.func _ _ _), .d (.func _), .d .nilfunc => bR op false σ
  | some (.func _ _ _), .func _ _ _, .d .nilfunc => bR op false σ
  | some (.map _ _), .d .nilmap, .d .nilmap => bR op true σ
  | some (.map _ _), .map _, .d .nilmap => bR op false σ
  | _, _, _ => .bad

def isC : Operand → Bool
  | .const _ => true
  | _ => false
@[go_sem] theorem isC_const (v : Value) : isC (.const v) = true := nrfl rfl
@[go_sem] theorem isC_tmp (t : Nat) : isC (.tmp t) = false := nrfl rfl
@[go_sem] theorem isC_global (t : Nat) : isC (.global t) = false := nrfl rfl
@[go_sem] theorem isC_func (t : Nat) : isC (.func t) = false := nrfl rfl

/-- Shifts, whose count may be of another kind. -/
def bIntS (op : BinOp) (k k' : IntKind) (x y : Int) (σ : ST) : Res :=
  match op with
  | .shl => .need (0 ≤ y) (.ok (.d (.int k (k.wrap (x * 2 ^ min y.toNat k.bits)))) σ)
  | .shr => .need (0 ≤ y) (.ok (.d (.int k (x.fdiv (2 ^ min y.toNat k.bits)))) σ)
  | op => .need (k = k') (bInt op k x y σ)

def rBin (P : Program) (op : BinOp) (t : TypeId) (c : Bool) (x y : AV) (σ : ST) : Res :=
  match x, y with
  | .d (.int k x), .d (.int k' y) => bIntS op k k' x y σ
  | .d (.str x), .d (.str y) => bStr op x y σ
  | .d (.bool x), .d (.bool y) => .need (P.underlying t = some .bool) (bBool op x y σ)
  | .agg x, .agg y => bAgg op (structKinds P t) x y σ
  | x, y => bEq P op (P.underlying t) c x y σ

attribute [go_sem] bR bOpen bEq
attribute [go_sem] bInt bIntS bStr bBool
@[go_sem] theorem rBin_int (op : BinOp) (t : TypeId) (q : Bool) (k k' : IntKind) (x y : Int) (σ : ST) : rBin P op t q (.d (.int k x)) (.d (.int k' y)) σ = bIntS op k k' x y σ := nrfl rfl
@[go_sem] theorem rBin_str (op : BinOp) (t : TypeId) (q : Bool) (x y : List UInt8) (σ : ST) : rBin P op t q (.d (.str x)) (.d (.str y)) σ = bStr op x y σ := nrfl rfl
@[go_sem] theorem rBin_bool (op : BinOp) (t : TypeId) (q : Bool) (x y : Bool) (σ : ST) : rBin P op t q (.d (.bool x)) (.d (.bool y)) σ = .need (P.underlying t = some .bool) (bBool op x y σ) := nrfl rfl
@[go_sem] theorem rBin_agg (op : BinOp) (t : TypeId) (q : Bool) (x y : List AV) (σ : ST) : rBin P op t q (.agg x) (.agg y) σ = bAgg op (structKinds P t) x y σ := nrfl rfl

@[go_sem] theorem rBin_list (op : BinOp) (t : TypeId) (q : Bool) (e : Nat) (xs : List DV) (y : AV) (σ : ST) : rBin P op t q (.d (.list e xs)) y σ = bEq P op (P.underlying t) q (.d (.list e xs)) y σ := nrfl rfl
@[go_sem] theorem rBin_nilslice (op : BinOp) (t : TypeId) (q : Bool) (y : AV) (σ : ST) : rBin P op t q (.d .nilslice) y σ = bEq P op (P.underlying t) q (.d .nilslice) y σ := nrfl rfl
@[go_sem] theorem rBin_own (op : BinOp) (t : TypeId) (q : Bool) (b g off n : Nat) (y : AV) (σ : ST) : rBin P op t q (.own b g off n) y σ = bEq P op (P.underlying t) q (.own b g off n) y σ := nrfl rfl
@[go_sem] theorem rBin_nilptr (op : BinOp) (t : TypeId) (q : Bool) (y : AV) (σ : ST) : rBin P op t q (.d .nilptr) y σ = bEq P op (P.underlying t) q (.d .nilptr) y σ := nrfl rfl
@[go_sem] theorem rBin_ptr (op : BinOp) (t : TypeId) (q : Bool) (b o : Nat) (y : AV) (σ : ST) : rBin P op t q (.ptr b o) y σ = bEq P op (P.underlying t) q (.ptr b o) y σ := nrfl rfl
@[go_sem] theorem rBin_niliface (op : BinOp) (t : TypeId) (q : Bool) (y : AV) (σ : ST) : rBin P op t q (.d .niliface) y σ = bEq P op (P.underlying t) q (.d .niliface) y σ := nrfl rfl
@[go_sem] theorem rBin_iface (op : BinOp) (t : TypeId) (q : Bool) (u : TypeId) (x : DV) (y : AV) (σ : ST) : rBin P op t q (.d (.iface u x)) y σ = bEq P op (P.underlying t) q (.d (.iface u x)) y σ := nrfl rfl
@[go_sem] theorem rBin_ifacea (op : BinOp) (t : TypeId) (q : Bool) (u : TypeId) (x : AV) (y : AV) (σ : ST) : rBin P op t q (.iface u x) y σ = bEq P op (P.underlying t) q (.iface u x) y σ := nrfl rfl
@[go_sem] theorem rBin_nilfunc (op : BinOp) (t : TypeId) (q : Bool) (y : AV) (σ : ST) : rBin P op t q (.d .nilfunc) y σ = bEq P op (P.underlying t) q (.d .nilfunc) y σ := nrfl rfl
@[go_sem] theorem rBin_func (op : BinOp) (t : TypeId) (q : Bool) (f : Fn) (y : AV) (σ : ST) : rBin P op t q (.d (.func f)) y σ = bEq P op (P.underlying t) q (.d (.func f)) y σ := nrfl rfl
@[go_sem] theorem rBin_clo (op : BinOp) (t : TypeId) (q : Bool) (f : Fn) (a b : List AV) (y : AV) (σ : ST) : rBin P op t q (.func f a b) y σ = bEq P op (P.underlying t) q (.func f a b) y σ := nrfl rfl
@[go_sem] theorem rBin_nilmap (op : BinOp) (t : TypeId) (q : Bool) (y : AV) (σ : ST) : rBin P op t q (.d .nilmap) y σ = bEq P op (P.underlying t) q (.d .nilmap) y σ := nrfl rfl
@[go_sem] theorem rBin_map (op : BinOp) (t : TypeId) (q : Bool) (b : Nat) (y : AV) (σ : ST) : rBin P op t q (.map b) y σ = bEq P op (P.underlying t) q (.map b) y σ := nrfl rfl

theorem str_eq (x y : List UInt8) : ((⟨x.toArray⟩ : ByteArray).toList == (⟨y.toArray⟩ : ByteArray).toList) = decide (x = y) := by
  rw [Bool.eq_iff_iff]; simp

theorem int_beq (x y : Int) : (x == y) = decide (x = y) := by rw [Bool.eq_iff_iff]; simp

theorem bInt_sound (op : BinOp) (k : IntKind) (x y : Int) (t : TypeId) (ox oy : Operand) :
    Pev P ρ σ I w (do eqGuard op t ox oy (.int k x) (.int k y); binOp op t (.int k x) (.int k y)) (bInt op k x y σ) := by
  cases op <;> simp only [bInt] <;> try exact .bad
  case add => exact .ok (v := .int k (k.wrap (x + y))) (by simp [go_sem, Op.intArith]) (.d (.int _ _))
  case sub => exact .ok (v := .int k (k.wrap (x - y))) (by simp [go_sem, Op.intArith]) (.d (.int _ _))
  case mul => exact .ok (v := .int k (k.wrap (x * y))) (by simp [go_sem, Op.intArith]) (.d (.int _ _))
  case quo => exact .need fun hy => .ok (v := .int k (k.wrap (x.tdiv y))) (by simp [go_sem, Op.intDiv, hy]) (.d (.int _ _))
  case rem => exact .need fun hy => .ok (v := .int k (x.tmod y)) (by simp [go_sem, Op.intDiv, hy]) (.d (.int _ _))
  case and => exact .ok (by simp only [eqGuard_and, binOp_and]; rfl) (.d (.int _ _))
  case or => exact .ok (by simp only [eqGuard_or, binOp_or]; rfl) (.d (.int _ _))
  case eql => exact .ok (v := .bool (decide (x = y))) (by rw [← int_beq]; simp [go_sem]) (.d (.bool _))
  case neq => exact .ok (v := .bool (!decide (x = y))) (by rw [← int_beq]; simp [go_sem, bne]) (.d (.bool _))
  case lss => exact .ok (v := .bool _) (by simp [go_sem]) (.d (.bool _))
  case leq => exact .ok (v := .bool _) (by simp [go_sem]) (.d (.bool _))
  case gtr => exact .ok (v := .bool _) (by simp [go_sem]) (.d (.bool _))
  case geq => exact .ok (v := .bool _) (by simp [go_sem]) (.d (.bool _))

theorem bIntS_sound (op : BinOp) (k k' : IntKind) (x y : Int) (t : TypeId) (ox oy : Operand) :
    Pev P ρ σ I w (do eqGuard op t ox oy (.int k x) (.int k' y); binOp op t (.int k x) (.int k' y)) (bIntS op k k' x y σ) := by
  have other : Pev P ρ σ I w (do eqGuard op t ox oy (.int k x) (.int k' y); binOp op t (.int k x) (.int k' y)) (.need (k = k') (bInt op k x y σ)) :=
    .need fun h => by subst h; exact bInt_sound _ _ _ _ _ _ _
  cases op <;> simp only [bIntS] <;> try exact other
  case shl =>
    refine .need fun hy => .ok (v := .int k (k.wrap (x * 2 ^ min y.toNat k.bits))) ?_ (.d (.int _ _))
    have h : ¬ y < 0 := by omega
    simp [eqGuard, binOp, Op.shift, h]
  case shr =>
    refine .need fun hy => .ok (v := .int k (x.fdiv (2 ^ min y.toNat k.bits))) ?_ (.d (.int _ _))
    have h : ¬ y < 0 := by omega
    simp [eqGuard, binOp, Op.shift, h]

theorem bStr_sound (op : BinOp) (x y : List UInt8) (t : TypeId) (ox oy : Operand) :
    Pev P ρ σ I w (do eqGuard op t ox oy (.string ⟨x.toArray⟩) (.string ⟨y.toArray⟩); binOp op t (.string ⟨x.toArray⟩) (.string ⟨y.toArray⟩)) (bStr op x y σ) := by
  cases op <;> simp only [bStr] <;> try exact .bad
  case add =>
    refine .need fun hy => .ok (v := .string ⟨(x ++ y).toArray⟩) ?_ (.d (.str _))
    have h : ¬ ((9223372036854775807 : Int) < (x.length : Int) + (y.length : Int)) := by omega
    simp [go_sem, binOp, Op.stringOp, ByteArray.size, h]
    rfl
  case eql => exact .ok (v := .bool _) (by simp only [eqGuard_at_string, binOp, Op.stringOp, str_eq]; rfl) (.d (.bool _))
  case neq => exact .ok (v := .bool _) (by simp only [eqGuard_at_string, binOp, Op.stringOp, str_eq]; rfl) (.d (.bool _))
  case lss => exact .ok (v := .bool _) (by simp [eqGuard_at_string, binOp, Op.stringOp]) (.d (.bool _))

theorem equal_bool (x y : Bool) {t : TypeId} (ht : P.underlying t = some .bool) : (Op.equal t (.bool x) (.bool y)).run P w = .ok (x == y) w := by
  simp only [Op.equal, Op.maxDepth]
  rw [Op.equalIn]
  simp only [Sem.run_bind, run_underlying ht, Result.andThen_ok]
  rfl

theorem bBool_sound (op : BinOp) (x y : Bool) (t : TypeId) (ox oy : Operand) (ht : P.underlying t = some .bool) :
    Pev P ρ σ I w (do eqGuard op t ox oy (.bool x) (.bool y); binOp op t (.bool x) (.bool y)) (bBool op x y σ) := by
  cases op <;> simp only [bBool] <;> try exact .bad
  case eql => exact .ok (v := .bool _) (by simp [eqGuard_at_bool, equal_bool x y ht, binOp]) (.d (.bool _))
  case neq => exact .ok (v := .bool _) (by simp [eqGuard_at_bool, equal_bool x y ht, binOp]) (.d (.bool _))

theorem VD.int_inv {k : IntKind} {n : Int} {v : Value} (h : VD I w (.int k n) v) : v = .int k n := by cases h; rfl
theorem VD.bool_inv {b : Bool} {v : Value} (h : VD I w (.bool b) v) : v = .bool b := by cases h; rfl
theorem VD.str_inv {s : List UInt8} {v : Value} (h : VD I w (.str s) v) : v = .string ⟨s.toArray⟩ := by cases h; rfl
theorem V.d_inv {x : DV} {v : Value} (h : V ρ σ I w (.d x) v) : VD I w x v := by cases h; assumption

theorem run_part_plain {f : Field} {i : Nat} {zs : Array Value} (ho : f.offset = i) (hk : kindOf P f.type ≠ 9) (hz : i < zs.size) :
    (part f.type zs f.offset).run P w = .ok (zs.getD i undef) w := by
  have hagg : (isAgg f.type).run P w = .ok false w := by
    unfold isAgg
    unfold kindOf at hk
    split at hk <;> first | (rename_i h1; simp [run_underlying h1]; done) | exact absurd rfl hk
  unfold Go.part
  simp only [Sem.run_bind, hagg, Result.andThen_ok, Bool.false_eq_true, if_false, ho, Array.getElem?_eq_getElem hz]
  simp [Array.getD_eq_getD_getElem?, hz]

theorem kind_int {t : TypeId} (h : kindOf P t = 0) : ∃ k, P.underlying t = some (.int k) := by
  unfold kindOf at h; split at h <;> first | exact ⟨_, by assumption⟩ | omega
theorem kind_bool {t : TypeId} (h : kindOf P t = 1) : P.underlying t = some .bool := by
  unfold kindOf at h; split at h <;> first | assumption | omega
theorem kind_str {t : TypeId} (h : kindOf P t = 2) : P.underlying t = some .string := by
  unfold kindOf at h; split at h <;> first | assumption | omega

theorem tail (b r : Bool) (s : Sem Bool) (h : s.run P w = .ok r w) : (if (!b) = true then Result.ok false w else s.run P w) = .ok (b && r) w := by
  cases b <;> simp [h]

theorem eqFields_sound (d : Nat) (xs ys : Array Value) : ∀ (fs : List Field) (ks : List Nat) (avl bs : List AV) (i : Nat) (r : Bool), plainFields P fs i = true → ks = fs.map (fun f => kindOf P f.type) →
    scalarEq ks avl bs = some r →
    (∀ j c, avl[j]? = some c → V ρ σ I w c (xs.getD (i + j) undef)) → (∀ j c, bs[j]? = some c → V ρ σ I w c (ys.getD (i + j) undef)) → i + avl.length = xs.size → i + bs.length = ys.size →
    (Op.eqFields (d + 1) xs ys fs).run P w = .ok r w := by
  intro fs
  induction fs with
  | nil =>
    intro ks avl bs i r hp hk he hx hy sx sy
    simp only [List.map_nil] at hk; subst hk
    unfold scalarEq at he
    split at he <;> simp_all [Op.eqFields]
  | cons f fs ih =>
    intro ks avl bs i r hp hk he hx hy sx sy
    simp only [plainFields, Bool.and_eq_true, beq_iff_eq, bne_iff_ne] at hp
    obtain ⟨⟨⟨ho, hn⟩, h9⟩, hp⟩ := hp
    simp only [List.map_cons] at hk
    unfold scalarEq at he
    split at he <;> try (simp at he; done)
    · simp at hk
    all_goals
      rename_i e1 e2 e3
      simp only [List.cons.injEq] at hk
      obtain ⟨hk0, rfl⟩ := hk
      have hxa := hx 0 _ (by simp; rfl)
      have hyb := hy 0 _ (by simp; rfl)
      simp only [Nat.add_zero, List.length_cons] at hxa hyb sx sy
      have hx' : ∀ j c, _ → V ρ σ I w c (xs.getD (i + 1 + j) undef) := fun j c hc => by have := hx (j + 1) c (by simpa using hc); rwa [Nat.add_comm j 1, ← Nat.add_assoc] at this
      have hy' : ∀ j c, _ → V ρ σ I w c (ys.getD (i + 1 + j) undef) := fun j c hc => by have := hy (j + 1) c (by simpa using hc); rwa [Nat.add_comm j 1, ← Nat.add_assoc] at this
      unfold Op.eqFields
      simp only [ne_eq, hn, not_false_eq_true, if_true, Sem.run_bind, run_part_plain (P := P) (w := w) ho h9 (show i < xs.size by omega), run_part_plain (P := P) (w := w) ho h9 (show i < ys.size by omega), Result.andThen_ok]
    · split at he
      · rename_i hkk; subst hkk
        simp only [Option.map_eq_some_iff] at he
        obtain ⟨r', hr', rfl⟩ := he
        obtain ⟨kk, hkk⟩ := kind_int hk0.symm
        rw [hxa.d_inv.int_inv, hyb.d_inv.int_inv]
        simp only [run_equalIn_int w _ _ _ kk _ _ hkk, Result.andThen_ok, Sem.run_ite, Sem.run_pure, int_beq]
        exact tail _ _ _ (ih _ _ _ (i + 1) r' hp rfl hr' hx' hy' (by omega) (by omega))
      · simp at he
    · simp only [Option.map_eq_some_iff] at he
      obtain ⟨r', hr', rfl⟩ := he
      rw [hxa.d_inv.bool_inv, hyb.d_inv.bool_inv]
      simp only [run_equalIn_bool' w _ _ _ _ (kind_bool hk0.symm), Result.andThen_ok, Sem.run_ite, Sem.run_pure]
      exact tail _ _ _ (ih _ _ _ (i + 1) r' hp rfl hr' hx' hy' (by omega) (by omega))
    · simp only [Option.map_eq_some_iff] at he
      obtain ⟨r', hr', rfl⟩ := he
      rw [hxa.d_inv.str_inv, hyb.d_inv.str_inv]
      simp only [run_equalIn_string w _ _ _ _ (kind_str hk0.symm), Result.andThen_ok, Sem.run_ite, Sem.run_pure, str_eq]
      exact tail _ _ _ (ih _ _ _ (i + 1) r' hp rfl hr' hx' hy' (by omega) (by omega))
end
end Nv
