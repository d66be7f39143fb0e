/- Part of a proof about the functions of this seat. -/
import Derived.Test.YtebejiilpedlmaaGreatDoorG04NvJ8
/- The code of a function in the abstract layer: what it comes to; calls; soundness. -/

set_option linter.unusedVariables false
set_option linter.unusedSimpArgs false
namespace Nv
open Go

/-- What is done to a value that is moved. -/
inductive Hint where
  | no | freeze | own (e : ET) | lst (e : Nat)

structure POp where
  dst : Option Nat
  op : Op
  type : Nat
  guard : Option (Nat × Bool)

/-- An operation of a region whose order is open: does it change the store, may it run before or after operations that do and stand elsewhere in the text. -/
structure DP where
  o : POp
  eff : Bool
  back : Bool
  fwd : Bool

inductive PC where
  | skip | ret | other
  | region (ops : List POp)
  | draw (ops : List DP)
  | seq (a b : PC)
  | cond (c : Operand) (x y : PC)
  | block (id : Nat) (b : PC)
  | loop (b : PC)
  | exit (id : Nat)

def prepOp (ops : Array Oper) (o : Oper) : POp := ⟨o.dst, o.op, o.type, match o.guard with | some (g, b) => some (((ops[g]?).bind (·.dst)).getD 0, b) | none => none⟩

def isEff : Op → Bool
  | .store _ _ _ => true
  | .alloc _ => true
  | .box _ _ => true
  | .buildSlice _ _ _ => true
  | .makeSlice _ _ _ => true
  | .range _ _ => true
  | .makeMap _ _ => true
  | .mapUpdate _ _ _ _ => true
  | .next _ _ => true
  | .call ⟨.builtin .append, _, _⟩ => true
  | .call ⟨.builtin .unsafeString, _, _⟩ => true
  | .call ⟨.builtin .copy, _, _⟩ => true
  | _ => false

/-- Which operations must have run before one: a number's bits. -/
def maskOf (acc : List Nat) (es : List Edge) : Nat := es.foldr (fun e s => bif Region.binds .any e then s ||| (1 <<< e.on) ||| acc.getD e.on 0 else s) 0
def masks : List Oper → List Nat → List Nat
  | [], acc => acc
  | o :: l, acc => masks l (acc ++ [maskOf acc o.after.toList])
def effAt (ops : Array Oper) (j : Nat) : Bool := match ops[j]? with | some o => isEff o.op | none => false
def forced (ms : List Nat) (j i : Nat) : Bool := (ms.getD i 0).testBit j
def dpAt (ops : Array Oper) (ms : List Nat) (i : Nat) (o : Oper) : DP :=
  ⟨prepOp ops o, isEff o.op, (List.range i).any (fun j => effAt ops j && !forced ms j i), (List.range ops.size).any (fun j => Nat.blt i j && effAt ops j && !forced ms i j)⟩
def prepDraw (ops : Array Oper) : List DP := ops.toList.mapIdx (fun i o => dpAt ops (masks ops.toList []) i o)

def prep : Code → PC
  | .skip => .skip
  | .ret => .ret
  | .region _ ops false => .region (ops.toList.map (prepOp ops))
  | .region _ ops true => .draw (prepDraw ops)
  | .seq a b => .seq (prep a) (prep b)
  | .cond c x y => .cond c (prep x) (prep y)
  | .block id b => .block id (prep b)
  | .loop b => .loop (prep b)
  | .exit id => .exit id
  | _ => .other

def pcOf (f : Func) : PC := match f.body with | some c => prep c | none => .other

inductive Out where
  | ret (v : AV)
  | panic (v : AV)

inductive AExit where
  | normal | exit (id : Nat) | ret
  | panic (v : AV)

abbrev Post := AExit → FR → ST → Prop

/-- A call, in the abstract layer. -/
def ACall (P : Program) (f : FuncId) (args : List AV) (σ : ST) (K : Out → ST → Prop) : Prop :=
  ∀ ρ I w vs, RS P ρ I w σ → VL ρ σ I w args vs → Calls P f vs w fun e w' => ∃ ρ' I' σ' oc, Step ρ I w σ ρ' I' w' σ' ∧ RS P ρ' I' w' σ' ∧
    (match e, oc with
      | .returned v, .ret a => V ρ' σ' I' w' a v
      | .panicked ch, .panic a => ∃ v, ch = [{ v, recovered := false }] ∧ V ρ' σ' I' w' a v
      | _, _ => False) ∧ K oc σ'

theorem ACall_congr {P : Program} {f : FuncId} {args args' : List AV} {σ σ' : ST} {K : Out → ST → Prop} (h1 : args = args') (h2 : σ = σ') : ACall P f args σ K = ACall P f args' σ' K := by rw [h1, h2]

theorem ACall.mono {P : Program} {f : FuncId} {args : List AV} {σ : ST} {K K' : Out → ST → Prop} (h : ACall P f args σ K) (hk : ∀ oc σ', K oc σ' → K' oc σ') : ACall P f args σ K' :=
  fun ρ I w vs hr hv => (h ρ I w vs hr hv).mono fun e w' ⟨ρ', I', σ', oc, h1, h2, h3, h4⟩ => ⟨ρ', I', σ', oc, h1, h2, h3, hk _ _ h4⟩

def rMove (h : Hint) (x : AV) (σ : ST) : Res :=
  match h with
  | .no => .ok x σ
  | .freeze => rFreeze x σ
  | .own e => rNilOwn e x σ
  | .lst e => rNilList e x σ
@[go_sem] theorem rMove_no (x : AV) (σ : ST) : rMove .no x σ = .ok x σ := nrfl rfl
@[go_sem] theorem rMove_freeze (x : AV) (σ : ST) : rMove .freeze x σ = rFreeze x σ := nrfl rfl
@[go_sem] theorem rMove_own (e : ET) (x : AV) (σ : ST) : rMove (.own e) x σ = rNilOwn e x σ := nrfl rfl
@[go_sem] theorem rMove_lst (e : Nat) (x : AV) (σ : ST) : rMove (.lst e) x σ = rNilList e x σ := nrfl rfl

/-- An outcome, and what is done with it. -/
def Res.andThen : Res → (AV → ST → Res) → Res
  | .ok v σ, k => k v σ
  | @Res.need p _ r, k => .need p (r.andThen k)
  | .both a b, k => .both (a.andThen k) (b.andThen k)
  | .bad, _ => .bad
@[go_sem] theorem andThen_ok (v : AV) (σ : ST) (k : AV → ST → Res) : (Res.ok v σ).andThen k = k v σ := nrfl rfl
@[go_sem] theorem andThen_need (p : Prop) [Decidable p] (r : Res) (k : AV → ST → Res) : (Res.need p r).andThen k = .need p (r.andThen k) := nrfl rfl
@[go_sem] theorem andThen_bad (k : AV → ST → Res) : Res.bad.andThen k = .bad := nrfl rfl
@[go_sem] theorem andThen_both (a b : Res) (k : AV → ST → Res) : (Res.both a b).andThen k = .both (a.andThen k) (b.andThen k) := nrfl rfl
theorem holds_andThen {r : Res} {k : AV → ST → Res} {R : AV → ST → Prop} : (r.andThen k).holds R ↔ r.holds (fun v σ => (k v σ).holds R) := by
  induction r with
  | ok v σ => exact Iff.rfl
  | need p r ih => exact and_congr Iff.rfl ih
  | both a b iha ihb => exact and_congr iha ihb
  | bad => exact Iff.rfl

/-- What is done to a value that is made. -/
def rFin (h : Hint) (r : Res) : Res :=
  match h with
  | .no => r
  | h => r.andThen (rMove h)
@[go_sem] theorem rFin_no (r : Res) : rFin .no r = r := nrfl rfl
theorem rFin_bad (h : Hint) : rFin h .bad = .bad := by cases h <;> rfl
@[go_sem] theorem rFin_freeze (r : Res) : rFin .freeze r = r.andThen rFreeze := nrfl rfl

def hintOf (h : Nat → Hint) : Option Nat → Hint
  | some d => h d
  | none => .no
@[go_sem] theorem hintOf_some (h : Nat → Hint) (d : Nat) : hintOf h (some d) = h d := nrfl rfl

def rBuiltin (P : Program) (b : Builtin) (ty : Nat) (ts : List Nat) (args : List AV) (σ : ST) : Res :=
  match b, ts, args with
  | .len, t :: _, [x] => rLen P t x σ
  | .append, t :: xt :: _, [s, x] => rAppend P t xt s x σ
  | .min, _, args => rMin args σ
  | .max, _, args => rMax args σ
  | .unsafeSliceData, _, [x] => rUSD P ty x σ
  | .unsafeString, t :: _, [x, n] => rUStr P t x n σ
  | .copy, t :: _, [s, x] => rCopy P t s x σ
  | _, _, _ => .bad
@[go_sem] theorem rBuiltin_len (P : Program) (ty t : Nat) (ts : List Nat) (x : AV) (σ : ST) : rBuiltin P .len ty (t :: ts) [x] σ = rLen P t x σ := nrfl rfl
@[go_sem] theorem rBuiltin_append (P : Program) (ty t xt : Nat) (ts : List Nat) (s x : AV) (σ : ST) : rBuiltin P .append ty (t :: xt :: ts) [s, x] σ = rAppend P t xt s x σ := nrfl rfl
@[go_sem] theorem rBuiltin_min (P : Program) (ty : Nat) (ts : List Nat) (args : List AV) (σ : ST) : rBuiltin P .min ty ts args σ = rMin args σ := by cases ts <;> rfl
@[go_sem] theorem rBuiltin_max (P : Program) (ty : Nat) (ts : List Nat) (args : List AV) (σ : ST) : rBuiltin P .max ty ts args σ = rMax args σ := by cases ts <;> rfl
@[go_sem] theorem rBuiltin_usd (P : Program) (ty : Nat) (ts : List Nat) (x : AV) (σ : ST) : rBuiltin P .unsafeSliceData ty ts [x] σ = rUSD P ty x σ := by cases ts <;> rfl
@[go_sem] theorem rBuiltin_copy (P : Program) (ty t : Nat) (ts : List Nat) (s x : AV) (σ : ST) : rBuiltin P .copy ty (t :: ts) [s, x] σ = rCopy P t s x σ := nrfl rfl
@[go_sem] theorem rBuiltin_ustr (P : Program) (ty t : Nat) (ts : List Nat) (x n : AV) (σ : ST) : rBuiltin P .unsafeString ty (t :: ts) [x, n] σ = rUStr P t x n σ := nrfl rfl

def evalOp (P : Program) (h : Hint) (tt : Nat) (fr : FR) (σ : ST) : Op → Res
  | .move x => rMove h (aeval fr x) σ
  | .assign x => rMove h (aeval fr x) σ
  | .pick c a b => rPick (aeval fr c) (aeval fr a) (aeval fr b) σ
  | .alloc t => rBox t (zeroA P t) σ
  | .box t x => rBox t (aeval fr x) σ
  | .build t parts => rBuild P t (parts.toList.map fun p => (p.1, aeval fr p.2)) σ
  | .buildSlice t len parts => rFin h (rBuildSlice P t len (parts.toList.map fun p => (p.1, aeval fr p.2)) σ)
  | .load t a => rLoad P t (aeval fr a) σ
  | .store t a x => rStore P t (aeval fr a) (aeval fr x) σ
  | .nilCheck x => rNil (aeval fr x) σ
  | .binOp op xt x y _ => rBin P op xt (isC x || isC y) (aeval fr x) (aeval fr y) σ
  | .unOp op _ x => rUn op (aeval fr x) σ
  | .convert s d x => rFin h (rCv P s d (aeval fr x) σ)
  | .makeInterface t x => rIface P t (aeval fr x) σ
  | .makeFunc f first cap => rFunc f (first.toList.map (aeval fr)) (cap.toList.map (aeval fr)) σ
  | .makeSlice t l c => rMake P t (aeval fr l) (aeval fr c) σ
  | .slice t x lo hi none => rSlice P t (aeval fr x) (lo.map (aeval fr)) (hi.map (aeval fr)) σ
  | .fieldAddr s x f => rField P s f (aeval fr x) σ
  | .field s x f => rFieldV P s f (aeval fr x) σ
  | .indexAddr t x i => rIndex P t (aeval fr x) (aeval fr i) σ
  | .index t x i => rIndexV P t (aeval fr x) (aeval fr i) σ
  | .extract x i => rExtract (aeval fr x) i σ
  | .range t x => rRange P t (aeval fr x) σ
  | .makeMap _ none => rMakeMap σ
  | .lookup t x k ok => rLookup P t (aeval fr x) (aeval fr k) ok σ
  | .typeAssert x _ t ok => rAssert P t (aeval fr x) ok σ
  | .mapUpdate t m k x => rMapUpdate P t (aeval fr m) (aeval fr k) (aeval fr x) σ
  | .next x str => rNext (aeval fr x) str σ
  | .call { callee := .builtin b, args, argTypes } => rFin h (rBuiltin P b tt argTypes.toList (args.toList.map (aeval fr)) σ)
  | _ => .bad

section
variable {P : Program} {ρ ρ' : RHO} {σ σ' : ST} {I I' : Nat → Prop} {w w' : World}

theorem VF.vl {fr : FR} {a : Act} (h : VF ρ σ I w fr a) (xs : Array Operand) : VL ρ σ I w (xs.toList.map (aeval fr)) (xs.map a.eval) := by
  refine ⟨by simp, fun j c hj => ?_⟩
  simp only [List.getElem?_map, Option.map_eq_some_iff] at hj
  obtain ⟨x, hx, rfl⟩ := hj
  have hlt : j < xs.size := by
    rcases Nat.lt_or_ge j xs.size with h' | h'
    · exact h'
    · rw [List.getElem?_eq_none (by simpa using h')] at hx; cases hx
  have : (xs.map a.eval).getD j undef = a.eval x := by
    rw [Array.getElem?_toList, Array.getElem?_eq_getElem hlt] at hx
    simp only [Option.some.injEq] at hx
    simp [Array.getD_eq_getD_getElem?, hlt, hx]
  rw [this]; exact h.eval x

theorem VF.vp {fr : FR} {a : Act} (h : VF ρ σ I w fr a) (ps : Array (Nat × Operand)) : VP ρ σ I w (ps.toList.map fun p => (p.1, aeval fr p.2)) (ps.map fun p => (p.1, a.eval p.2)).toList := by
  rw [Array.toList_map]
  generalize ps.toList = l
  induction l with
  | nil => trivial
  | cons x l ih => exact ⟨rfl, h.eval x.2, ih⟩

theorem rMin_sound {avl : List AV} {vs : Array Value} (h : VL ρ σ I w avl vs) (ts : Array TypeId) (ty : TypeId) : Pev P ρ σ I w (Builtin.min_ ts ty vs) (rMin avl σ) := by
  have hsz := h.1
  obtain ⟨vs⟩ := vs
  unfold rMin
  split
  · match vs, hsz with
    | [v], _ =>
      have h0 := (h.2 0 _ rfl).d_inv.int_inv
      simp at h0; subst h0
      exact .ok rfl (.d (.int _ _))
  · match vs, hsz with
    | [v, u], _ =>
      have h0 := (h.2 0 _ rfl).d_inv.int_inv
      have h1 := (h.2 1 _ rfl).d_inv.int_inv
      simp at h0 h1; subst h0 h1
      exact .ok rfl (.d (.int _ _))
  · match vs, hsz with
    | [v, u, z], _ =>
      have h0 := (h.2 0 _ rfl).d_inv.int_inv
      have h1 := (h.2 1 _ rfl).d_inv.int_inv
      have h2 := (h.2 2 _ rfl).d_inv.int_inv
      simp at h0 h1 h2; subst h0 h1 h2
      exact .ok rfl (.d (.int _ _))
  · exact .bad

theorem rMax_sound {avl : List AV} {vs : Array Value} (h : VL ρ σ I w avl vs) (ts : Array TypeId) (ty : TypeId) : Pev P ρ σ I w (Builtin.max_ ts ty vs) (rMax avl σ) := by
  have hsz := h.1
  obtain ⟨vs⟩ := vs
  unfold rMax
  split
  · match vs, hsz with
    | [v], _ =>
      have h0 := (h.2 0 _ rfl).d_inv.int_inv
      simp at h0; subst h0
      exact .ok rfl (.d (.int _ _))
  · match vs, hsz with
    | [v, u], _ =>
      have h0 := (h.2 0 _ rfl).d_inv.int_inv
      have h1 := (h.2 1 _ rfl).d_inv.int_inv
      simp at h0 h1; subst h0 h1
      exact .ok rfl (.d (.int _ _))
  · exact .bad

/-- What an operation that is no call of a function does. -/
def OpEff (P : Program) (ρ : RHO) (σ : ST) (I : Nat → Prop) (w : World) (s : Sem Next) (r : Res) : Prop :=
  ∀ R : AV → ST → Prop, r.holds R → ∃ nx v av w' ρ' I' σ', s.run P w = .ok nx w' ∧ (nx = .value v ∨ (nx = .skip ∧ v = undef)) ∧ Step ρ I w σ ρ' I' w' σ' ∧ RS P ρ' I' w' σ' ∧ V ρ' σ' I' w' av v ∧ R av σ'

theorem Eff.op {s : Sem Value} {r : Res} (h : Eff P ρ σ I w s r) : OpEff P ρ σ I w (do pure (.value (← s))) r := fun R hR =>
  let ⟨v, av, w', ρ', I', σ', h1, h2⟩ := h R hR
  ⟨.value v, v, av, w', ρ', I', σ', by simp [h1], .inl rfl, h2⟩

theorem EffU.op {s : Sem Unit} {r : Res} (h : EffU P ρ σ I w s r) : OpEff P ρ σ I w (do s; pure .skip) r := fun R hR =>
  let ⟨av, w', ρ', I', σ', h1, h2⟩ := h R hR
  ⟨.skip, undef, av, w', ρ', I', σ', by simp [h1], .inr ⟨rfl, rfl⟩, h2⟩

theorem OpEff.bad {s : Sem Next} : OpEff P ρ σ I w s .bad := fun _ h => h.elim

theorem rMove_sound (hr : RS P ρ I w σ) (h : Hint) (x : AV) (v : Value) (hx : V ρ σ I w x v) : Eff P ρ σ I w (pure v) (rMove h x σ) := by
  cases h with
  | no => exact Pev.eff hr (.ok rfl hx)
  | freeze => exact rFreeze_sound hr x v hx rfl
  | own e => exact rNilOwn_sound hr e x v hx rfl
  | lst e => exact rNilList_sound hr e x v hx rfl

theorem rFin_sound (h : Hint) {s : Sem Value} {r : Res} (hs : Eff P ρ σ I w s r) : Eff P ρ σ I w s (rFin h r) := by
  have key : Eff P ρ σ I w s (r.andThen (rMove h)) := by
    intro R hR
    obtain ⟨v, av, w', ρ', I', σ', h1, h2, h3, h4, h5⟩ := hs _ (holds_andThen.1 hR)
    obtain ⟨v2, av2, w2, ρ2, I2, σ2, k1, k2, k3, k4, k5⟩ := rMove_sound (P := P) h3 h av v h4 R h5
    simp only [Sem.run_pure, Result.ok.injEq] at k1
    obtain ⟨rfl, rfl⟩ := k1
    exact ⟨v, av2, w', ρ2, I2, σ2, h1, h2.trans k2, k3, k4, k5⟩
  cases h with
  | no => exact hs
  | freeze => exact key
  | own e => exact key
  | lst e => exact key

theorem evalOp_sound (hr : RS P ρ I w σ) {fr : FR} {a : Act} (hf : VF ρ σ I w fr a) (h : Hint) (o : Oper) : OpEff P ρ σ I w (execOp a.eval o) (evalOp P h o.type fr σ o.op) := by
  unfold execOp
  cases hop : o.op <;> simp only [evalOp] <;> try exact OpEff.bad
  case move x => exact Eff.op (rMove_sound hr h _ _ (hf.eval x))
  case assign x => exact Eff.op (rMove_sound hr h _ _ (hf.eval x))
  case pick c x y =>
    have := Eff.op (Pev.eff hr (pick_sound (P := P) (hf.eval c) (hf.eval x) (hf.eval y)))
    intro R hR
    obtain ⟨nx, v, av, w', ρ', I', σ', h1, h2⟩ := this R hR
    exact ⟨nx, v, av, w', ρ', I', σ', by simpa using h1, h2⟩
  case alloc t => exact Eff.op (rAlloc_sound hr t)
  case box t x => exact Eff.op (rBox_sound hr t _ _ (hf.eval x))
  case build t ps => exact Eff.op (Pev.eff hr (rBuild_sound t _ _ (hf.vp ps)))
  case buildSlice t n ps => exact Eff.op (rFin_sound h (rBuildSlice_sound hr t n _ _ (hf.vp ps)))
  case load t x => exact Eff.op (Pev.eff hr (rLoad_sound hr t _ _ (hf.eval x)))
  case store t x y => exact EffU.op (rStore_sound hr t _ _ _ _ (hf.eval x) (hf.eval y))
  case nilCheck x =>
    intro R hR
    have hne : rNil (aeval fr x) σ ≠ .bad := by intro e; rw [e] at hR; exact hR.elim
    obtain ⟨h1, h2, h3, h4, h5⟩ := rNil_sound _ _ (hf.eval x) hne
    rw [h1] at hR
    refine ⟨.value (a.eval x), a.eval x, _, w, ρ, I, σ, ?_, .inl rfl, Step.refl _ _ _ _, hr, hf.eval x, hR⟩
    generalize a.eval x = v at *
    cases v with
    | pointer p => cases p <;> first | exact absurd rfl h2 | rfl
    | nilIface => exact absurd rfl h3
    | nilFunc => exact absurd rfl h4
    | func f fs cs => cases f <;> first | exact absurd rfl (h5 _ _ _) | rfl
    | _ => rfl
  case binOp op t x y yt => exact Eff.op (Pev.eff hr (rBin_sound op t _ _ _ _ _ x y (fun h => by simpa using h) (hf.eval x) (hf.eval y)))
  case unOp op t x => exact Eff.op (Pev.eff hr (rUn_sound op _ _ (hf.eval x)))
  case convert s d x => exact Eff.op (rFin_sound h (Pev.eff hr (rCv_sound hr s d _ _ (hf.eval x))))
  case makeInterface t x => exact Eff.op (Pev.eff hr (rIface_sound t _ _ (hf.eval x)))
  case makeFunc f fs cs => exact Eff.op (Pev.eff hr (rFunc_sound f _ _ _ _ (hf.vl fs) (hf.vl cs)))
  case makeSlice t l c => exact Eff.op (rMake_sound hr t _ _ _ _ (hf.eval l) (hf.eval c))
  case slice t x lo hi mx =>
    cases mx with
    | some m => exact OpEff.bad
    | none =>
      refine Eff.op (Pev.eff hr (rSlice_sound hr t _ _ _ _ _ _ (hf.eval x) (fun y hy => ?_) (fun hn => ?_) (fun y hy => ?_) (fun hn => ?_)))
      · cases lo with
        | none => cases hy
        | some l => cases hy; exact ⟨_, rfl, hf.eval l⟩
      · cases lo with
        | none => rfl
        | some l => cases hn
      · cases hi with
        | none => cases hy
        | some l => cases hy; exact ⟨_, rfl, hf.eval l⟩
      · cases hi with
        | none => rfl
        | some l => cases hn
  case fieldAddr s x f => exact Eff.op (Pev.eff hr (rField_sound s f _ _ (hf.eval x)))
  case field s x f => exact Eff.op (Pev.eff hr (rFieldV_sound s f _ _ (hf.eval x)))
  case indexAddr t x i => exact Eff.op (Pev.eff hr (rIndex_sound t _ _ _ _ (hf.eval x) (hf.eval i)))
  case index t x i => exact Eff.op (Pev.eff hr (rIndexV_sound t _ _ _ _ (hf.eval x) (hf.eval i)))
  case makeMap t r =>
    cases r with
    | some m => exact OpEff.bad
    | none => exact Eff.op (rMakeMap_sound hr t)
  case typeAssert x u t ok => exact Eff.op (Pev.eff hr (rAssert_sound u t _ _ ok (hf.eval x)))
  case lookup t x k ok => exact Eff.op (Pev.eff hr (rLookup_sound hr t _ _ _ _ ok (hf.eval x) (hf.eval k)))
  case mapUpdate t m k x => exact EffU.op (rMapUpdate_sound hr t _ _ _ _ _ _ (hf.eval m) (hf.eval k) (hf.eval x))
  case range t x => exact Eff.op (rRange_sound hr t _ _ (hf.eval x))
  case next x str => exact Eff.op (rNext_sound hr _ _ str o.type (hf.eval x))
  case extract x i => exact Eff.op (Pev.eff hr (rExtract_sound _ _ i (hf.eval x)))
  case call c =>
    obtain ⟨callee, args, ts⟩ := c
    cases callee with
    | value f => exact OpEff.bad
    | invoke r m => exact OpEff.bad
    | builtin b =>
      have hvl := hf.vl args
      have hargs : (args.map a.eval).size = args.size := by simp
      simp only [resolve]
      have key : ∀ (s : Sem Value) r, Eff P ρ σ I w s r → (builtin b ts o.type (args.map fun | .const _ => true | _ => false) (args.map a.eval) = do pure (.value (← s))) → rBuiltin P b o.type ts.toList (args.toList.map (aeval fr)) σ = r →
          OpEff P ρ σ I w (do let d ← (pure { target := .builtin b ts o.type (args.map fun | .const _ => true | _ => false), args := args.map a.eval } : Sem Deferred); invoke d.target d.args) (rFin h (rBuiltin P b o.type ts.toList (args.toList.map (aeval fr)) σ)) := by
        intro s r hs he hre
        rw [hre]
        have := (rFin_sound h hs).op
        intro R hR
        obtain ⟨nx, v, av, w', ρ', I', σ', h1, h2⟩ := this R hR
        refine ⟨nx, v, av, w', ρ', I', σ', ?_, h2⟩
        simp only [Sem.run_bind, Sem.run_pure, Result.andThen_ok, invoke, he]
        simpa using h1
      generalize hA : args.toList.map (aeval fr) = avl at *
      generalize hV : args.map a.eval = vs at *
      generalize hT : ts.toList = tl at *
      generalize hC : (args.map fun | .const _ => true | _ => false) = cs at *
      by_cases hb : rBuiltin P b o.type tl avl σ = .bad
      · rw [hb]; cases h <;> exact OpEff.bad
      · unfold rBuiltin at hb
        split at hb
        · rename_i t tr x
          have hts : ts[0]? = some t := by rw [← Array.getElem?_toList, hT]; rfl
          obtain ⟨vs⟩ := vs
          match vs, hvl with
          | [v], hvl => exact key _ _ (Pev.eff hr (rLen_sound t o.type ts x v hts (by simpa using hvl.2 0 _ rfl))) rfl rfl
        · rename_i t xt tr s x
          have hts : ts[0]? = some t := by rw [← Array.getElem?_toList, hT]; rfl
          have hts1 : ts[1]? = some xt := by rw [← Array.getElem?_toList, hT]; rfl
          obtain ⟨vs⟩ := vs
          match vs, hvl with
          | [v, u], hvl => exact key _ _ (rAppend_sound hr t xt o.type ts s x v u hts hts1 (by simpa using hvl.2 0 _ rfl) (by simpa using hvl.2 1 _ rfl)) rfl rfl
        · exact key _ _ (Pev.eff hr (rMin_sound hvl ts o.type)) rfl (by cases tl <;> rfl)
        · exact key _ _ (Pev.eff hr (rMax_sound hvl ts o.type)) rfl (by cases tl <;> rfl)
        · rename_i tr x
          obtain ⟨vs⟩ := vs
          match vs, hvl with
          | [v], hvl => exact key _ _ (rUSD_sound hr ts o.type x v (by simpa using hvl.2 0 _ rfl)) rfl (by cases tl <;> rfl)
        · rename_i t tr x n
          have hts : ts[0]? = some t := by rw [← Array.getElem?_toList, hT]; rfl
          obtain ⟨vs⟩ := vs
          match vs, hvl with
          | [v, u], hvl => exact key _ _ (rUStr_sound hr t o.type ts x n v u hts (by simpa using hvl.2 0 _ rfl) (by simpa using hvl.2 1 _ rfl)) rfl rfl
        · rename_i t tr s x
          have hts : ts[0]? = some t := by rw [← Array.getElem?_toList, hT]; rfl
          obtain ⟨vs⟩ := vs
          match vs, hvl with
          | [v, u], hvl => exact key _ _ (rCopy_sound hr t o.type ts s x v u hts (by simpa using hvl.2 0 _ rfl) (by simpa using hvl.2 1 _ rfl)) rfl rfl
        · exact absurd rfl hb

theorem convA_sound (hr : RS P ρ I w σ) {fr : FR} {a : Act} (hf : VF ρ σ I w fr a) (o : Oper) {s d : TypeId} {x : Operand} (hop : o.op = .convert s d x) {h : Hint} : OpEff P ρ σ I w (execOp a.eval o) (rFin h (rCvA P s d (aeval fr x) σ)) := by
  simp only [execOp, hop]
  exact Eff.op (rFin_sound h (rCvA_sound hr s d _ _ (hf.eval x)))
end
end Nv
/- The code of a function in the abstract layer: its weakest precondition, and soundness. -/

set_option linter.unusedVariables false
set_option linter.unusedSimpArgs false
namespace Nv
open Go

def calleeOf : AV → Option (FuncId × List AV × List AV)
  | .d (.func (.func g)) => some (g, [], [])
  | .func (.func g) first cap => some (g, first, cap)
  | _ => none

def plainFn (P : Program) (g : FuncId) : Bool :=
  match P.funcs[g]? with
  | some fn => !(fn.name == "runtime.NumGoroutine") && fn.body.isSome
  | none => false

def outK (K E : AV → ST → Prop) : Out → ST → Prop
  | .ret v, σ => K v σ
  | .panic x, σ => E x σ
theorem outK_ret (K E : AV → ST → Prop) (v : AV) (σ : ST) : outK K E (.ret v) σ = K v σ := rfl
theorem outK_panic (K E : AV → ST → Prop) (v : AV) (σ : ST) : outK K E (.panic v) σ = E v σ := rfl

/-- internal/abi.NoEscape and its like: the argument avl it is. -/
def NoEsc (P : Program) (g : FuncId) : Prop := ∃ fn, P.funcs[g]? = some fn ∧ (fn.name == "runtime.NumGoroutine") = false ∧ fn.body.isNone = true ∧ Extern.findNext fn = none ∧ Extern.find fn = some Extern.AbiNoEscape.same
def escA (K : AV → ST → Prop) (args : List AV) (σ : ST) : Prop :=
  match args with
  | [x] => K x σ
  | _ => False
def callB (P : Program) (g : FuncId) (args : List AV) (σ : ST) (K E : AV → ST → Prop) : Prop := bif plainFn P g then ACall P g args σ (outK K E) else (NoEsc P g ∧ escA K args σ)

def callA (P : Program) (f : AV) (args : List AV) (σ : ST) (K E : AV → ST → Prop) : Prop :=
  match calleeOf f with
  | some (g, first, cap) => callB P g (first ++ args ++ cap) σ K E
  | none => False
theorem callA_congr {P : Program} {f f' : AV} {args args' : List AV} {σ σ' : ST} {K E : AV → ST → Prop} (h0 : f = f') (h1 : args = args') (h2 : σ = σ') : callA P f args σ K E = callA P f' args' σ' K E := by rw [h0, h1, h2]
theorem callA_func (P : Program) (g : FuncId) (args : List AV) (σ : ST) (K E : AV → ST → Prop) : callA P (.d (.func (.func g))) args σ K E = callB P g args σ K E := by
  simp [callA, calleeOf]
theorem callA_clo (P : Program) (g : FuncId) (first cap : List AV) (args : List AV) (σ : ST) (K E : AV → ST → Prop) : callA P (.func (.func g) first cap) args σ K E = callB P g (first ++ args ++ cap) σ K E := rfl
theorem escA_mono {K K' : AV → ST → Prop} (hK : ∀ v σ, K v σ → K' v σ) {args : List AV} {σ : ST} (h : escA K args σ) : escA K' args σ := by
  unfold escA at *
  split at h
  · exact hK _ _ h
  · exact h

/-- A panic with a value of an interface type. -/
def panicA (x : AV) (σ : ST) (E : AV → ST → Prop) : Prop :=
  match x with
  | .iface _ _ => E x σ
  | .d (.iface _ _) => E x σ
  | _ => False
theorem panicA_mono {x : AV} {σ : ST} {E E' : AV → ST → Prop} (hE : ∀ v σ, E v σ → E' v σ) (h : panicA x σ E) : panicA x σ E' := by
  unfold panicA at *
  split at h
  · exact hE _ _ h
  · exact hE _ _ h
  · exact h

def AOp (P : Program) (h : Nat → Hint) (o : POp) (K E : AV → ST → Prop) (fr : FR) (σ : ST) : Prop :=
  match o.op with
  | .panic x => panicA (aeval fr x) σ E
  | .convert s d x => (rFin (hintOf h o.dst) (rCvA P s d (aeval fr x) σ)).holds K
  | .call ⟨.value f, args, _⟩ => callA P (aeval fr f) (args.toList.map (aeval fr)) σ K E
  | op => (evalOp P (hintOf h o.dst) o.type fr σ op).holds K

/-- An operation that is carried out only where a slot holds a given Bool. -/
def gateA (c : AV) (b : Bool) (yes no : Prop) : Prop :=
  match c with
  | .d (.bool c) => bif c == b then yes else no
  | .tuple [] => no
  | _ => False
theorem gateA_congr {c c' : AV} {b : Bool} {y n : Prop} (h : c = c') : gateA c b y n = gateA c' b y n := by rw [h]
theorem gateA_tt (y n : Prop) : gateA (.d (.bool true)) true y n = y := rfl
theorem gateA_tf (y n : Prop) : gateA (.d (.bool true)) false y n = n := rfl
theorem gateA_ft (y n : Prop) : gateA (.d (.bool false)) true y n = n := rfl
theorem gateA_ff (y n : Prop) : gateA (.d (.bool false)) false y n = y := rfl

def AOps (P : Program) (h : Nat → Hint) (Q : Post) : List POp → FR → ST → Prop
  | [], fr, σ => Q .normal fr σ
  | o :: rest, fr, σ =>
    match o.guard with
    | none => AOp P h o (fun v σ' => AOps P h Q rest (put fr o.dst v) σ') (fun x σ' => Q (.panic x) fr σ') fr σ
    | some (g, b) => gateA (fr g) b (AOp P h o (fun v σ' => AOps P h Q rest (put fr o.dst v) σ') (fun x σ' => Q (.panic x) fr σ') fr σ) (AOps P h Q rest (put fr o.dst (.tuple [])) σ)

def condA (c : AV) (x y : Prop) : Prop :=
  match c with
  | .d (.bool c) => bif c then x else y
  | _ => False
theorem condA_congr {c c' : AV} {x y : Prop} (h : c = c') : condA c x y = condA c' x y := by rw [h]
theorem condA_true (x y : Prop) : condA (.d (.bool true)) x y = x := rfl
theorem condA_false (x y : Prop) : condA (.d (.bool false)) x y = y := rfl

def thenA (next : FR → ST → Prop) (Q : Post) : Post
  | .normal, fr, σ => next fr σ
  | e, fr, σ => Q e fr σ
theorem thenA_normal (next : FR → ST → Prop) (Q : Post) (fr : FR) (σ : ST) : thenA next Q .normal fr σ = next fr σ := rfl
theorem thenA_ret (next : FR → ST → Prop) (Q : Post) (fr : FR) (σ : ST) : thenA next Q .ret fr σ = Q .ret fr σ := rfl
theorem thenA_exit (next : FR → ST → Prop) (Q : Post) (i : Nat) (fr : FR) (σ : ST) : thenA next Q (.exit i) fr σ = Q (.exit i) fr σ := rfl
theorem thenA_panic (next : FR → ST → Prop) (Q : Post) (x : AV) (fr : FR) (σ : ST) : thenA next Q (.panic x) fr σ = Q (.panic x) fr σ := rfl

def blockA (id : Nat) (Q : Post) : Post
  | .exit i, fr, σ => if i = id then Q .normal fr σ else Q (.exit i) fr σ
  | e, fr, σ => Q e fr σ
theorem blockA_normal (id : Nat) (Q : Post) (fr : FR) (σ : ST) : blockA id Q .normal fr σ = Q .normal fr σ := rfl
theorem blockA_ret (id : Nat) (Q : Post) (fr : FR) (σ : ST) : blockA id Q .ret fr σ = Q .ret fr σ := rfl
theorem blockA_exit (id i : Nat) (Q : Post) (fr : FR) (σ : ST) : blockA id Q (.exit i) fr σ = if i = id then Q .normal fr σ else Q (.exit i) fr σ := rfl
theorem blockA_panic (id : Nat) (Q : Post) (x : AV) (fr : FR) (σ : ST) : blockA id Q (.panic x) fr σ = Q (.panic x) fr σ := rfl

/-- An operation in a region whose order is open: a call comes to one value and leaves the store. -/
def DOp (P : Program) (h : Nat → Hint) (o : POp) (R : AV → ST → Prop) (fr : FR) (σ : ST) : Prop :=
  match o.op with
  | .call ⟨.value f, args, _⟩ => ∃ v, callA P (aeval fr f) (args.toList.map (aeval fr)) σ (fun v' σ' => v' = v ∧ σ' = σ) (fun _ _ => False) ∧ R v σ
  | op => (evalOp P (hintOf h o.dst) o.type fr σ op).dholds R

/-- The operation comes to this value and leaves this store. -/
def Again (P : Program) (h : Nat → Hint) (o : POp) (fr : FR) (v : AV) (τ : ST) : Prop := DOp P h o (fun v' τ' => v' = v ∧ τ' = τ) fr τ

structure PD where
  o : POp
  fr : FR
  v : AV
def PD.ok (P : Program) (h : Nat → Hint) (p : PD) (τ : ST) : Prop := Again P h p.o p.fr p.v τ

def dNext (P : Program) (h : Nat → Hint) (o : DP) (past : List ST) (pend : List PD) (fr : FR) (σ : ST) (v : AV) (σ' : ST) : Prop :=
  match o.eff with
  | true => ∀ p, p ∈ pend → p.ok P h σ'
  | false => σ' = σ ∧ (o.back = true → ∀ τ, τ ∈ past → Again P h o.o fr v τ)
def dPend (o : DP) (pend : List PD) (fr : FR) (v : AV) : List PD := bif o.fwd && !o.eff then ⟨⟨o.o.dst, o.o.op, o.o.type, none⟩, fr, v⟩ :: pend else pend
def dPast (o : DP) (past : List ST) (σ : ST) : List ST := bif o.eff then σ :: past else past

def DOps (P : Program) (h : Nat → Hint) (K : FR → ST → Prop) : List DP → List ST → List PD → FR → ST → Prop
  | [], _, _, fr, σ => K fr σ
  | o :: rest, past, pend, fr, σ =>
    match o.o.guard with
    | none => DOp P h o.o (fun v σ' => dNext P h o past pend fr σ v σ' ∧ DOps P h K rest (dPast o past σ) (dPend o pend fr v) (put fr o.o.dst v) σ') fr σ
    | some (g, b) => gateA (fr g) b (DOp P h o.o (fun v σ' => dNext P h o past pend fr σ v σ' ∧ DOps P h K rest (dPast o past σ) (dPend o pend fr v) (put fr o.o.dst v) σ') fr σ)
        (DOps P h K rest past pend (put fr o.o.dst (.tuple [])) σ)

def LoopW (B : Post → FR → ST → Prop) (Q : Post) (fr : FR) (σ : ST) : Prop :=
  ∀ X : FR → ST → Prop, (∀ fr σ, B (thenA X Q) fr σ → X fr σ) → X fr σ

def W (P : Program) (h : Nat → Hint) : PC → Post → FR → ST → Prop
  | .skip, Q, fr, σ => Q .normal fr σ
  | .ret, Q, fr, σ => Q .ret fr σ
  | .other, _, _, _ => False
  | .exit id, Q, fr, σ => Q (.exit id) fr σ
  | .seq a b, Q, fr, σ => W P h a (thenA (fun fr σ => W P h b Q fr σ) Q) fr σ
  | .cond c x y, Q, fr, σ => condA (aeval fr c) (W P h x Q fr σ) (W P h y Q fr σ)
  | .block id b, Q, fr, σ => W P h b (blockA id Q) fr σ
  | .loop b, Q, fr, σ => LoopW (fun Q fr σ => W P h b Q fr σ) Q fr σ
  | .region ops, Q, fr, σ => AOps P h Q ops fr σ
  | .draw ops, Q, fr, σ => DOps P h (fun fr' σ' => Q .normal fr' σ') ops [] [] fr σ

theorem W_congr {P : Program} {h : Nat → Hint} {c : PC} {Q : Post} {fr fr' : FR} {σ σ' : ST} (h1 : fr = fr') (h2 : σ = σ') : W P h c Q fr σ = W P h c Q fr' σ' := by rw [h1, h2]
theorem AOps_congr {P : Program} {h : Nat → Hint} {c : List POp} {Q : Post} {fr fr' : FR} {σ σ' : ST} (h1 : fr = fr') (h2 : σ = σ') : AOps P h Q c fr σ = AOps P h Q c fr' σ' := by rw [h1, h2]
theorem AOp_congr {P : Program} {h : Nat → Hint} {o : POp} {K E : AV → ST → Prop} {fr fr' : FR} {σ σ' : ST} (h1 : fr = fr') (h2 : σ = σ') : AOp P h o K E fr σ = AOp P h o K E fr' σ' := by rw [h1, h2]
theorem thenA_congr {next : FR → ST → Prop} {Q : Post} {e e' : AExit} {fr fr' : FR} {σ σ' : ST} (h0 : e = e') (h1 : fr = fr') (h2 : σ = σ') : thenA next Q e fr σ = thenA next Q e' fr' σ' := by rw [h0, h1, h2]
theorem blockA_congr {id : Nat} {Q : Post} {e e' : AExit} {fr fr' : FR} {σ σ' : ST} (h0 : e = e') (h1 : fr = fr') (h2 : σ = σ') : blockA id Q e fr σ = blockA id Q e' fr' σ' := by rw [h0, h1, h2]
theorem LoopW_congr {B : Post → FR → ST → Prop} {Q : Post} {fr fr' : FR} {σ σ' : ST} (h1 : fr = fr') (h2 : σ = σ') : LoopW B Q fr σ = LoopW B Q fr' σ' := by rw [h1, h2]
theorem outK_congr {K E : AV → ST → Prop} {o o' : Out} {σ σ' : ST} (h1 : o = o') (h2 : σ = σ') : outK K E o σ = outK K E o' σ' := by rw [h1, h2]

section
variable {P : Program} {h : Nat → Hint} {Q : Post} {fr : FR} {σ : ST}
theorem W_skip : W P h .skip Q fr σ = Q .normal fr σ := rfl
theorem W_ret : W P h .ret Q fr σ = Q .ret fr σ := rfl
theorem W_exit (id : Nat) : W P h (.exit id) Q fr σ = Q (.exit id) fr σ := rfl
theorem W_seq (a b : PC) : W P h (.seq a b) Q fr σ = W P h a (thenA (fun fr σ => W P h b Q fr σ) Q) fr σ := rfl
theorem W_cond (c : Operand) (x y : PC) : W P h (.cond c x y) Q fr σ = condA (aeval fr c) (W P h x Q fr σ) (W P h y Q fr σ) := rfl
theorem W_block (id : Nat) (b : PC) : W P h (.block id b) Q fr σ = W P h b (blockA id Q) fr σ := rfl
theorem W_loop (b : PC) : W P h (.loop b) Q fr σ = LoopW (fun Q fr σ => W P h b Q fr σ) Q fr σ := rfl
theorem W_region (ops : List POp) : W P h (.region ops) Q fr σ = AOps P h Q ops fr σ := rfl
theorem AOps_nil : AOps P h Q [] fr σ = Q .normal fr σ := rfl
theorem AOps_none (d : Option Nat) (op : Op) (t : Nat) (rest : List POp) : AOps P h Q (⟨d, op, t, none⟩ :: rest) fr σ =
    AOp P h ⟨d, op, t, none⟩ (fun v σ' => AOps P h Q rest (put fr d v) σ') (fun x σ' => Q (.panic x) fr σ') fr σ := rfl
theorem AOps_some (d : Option Nat) (op : Op) (t g : Nat) (b : Bool) (rest : List POp) : AOps P h Q (⟨d, op, t, some (g, b)⟩ :: rest) fr σ =
    gateA (fr g) b (AOp P h ⟨d, op, t, none⟩ (fun v σ' => AOps P h Q rest (put fr d v) σ') (fun x σ' => Q (.panic x) fr σ') fr σ) (AOps P h Q rest (put fr d (.tuple [])) σ) := rfl
variable {K E : AV → ST → Prop} {d : Option Nat} {t : Nat} {gd : Option (Nat × Bool)}
theorem AOp_call (f : Operand) (args : List Operand) (ts : Array Nat) : AOp P h ⟨d, .call ⟨.value f, ⟨args⟩, ts⟩, t, gd⟩ K E fr σ = callA P (aeval fr f) (args.map (aeval fr)) σ K E := rfl
theorem AOp_builtin (b : Builtin) (args : List Operand) (ts : List Nat) : AOp P h ⟨d, .call ⟨.builtin b, ⟨args⟩, ⟨ts⟩⟩, t, gd⟩ K E fr σ = (rFin (hintOf h d) (rBuiltin P b t ts (args.map (aeval fr)) σ)).holds K := rfl
theorem AOp_move (x : Operand) : AOp P h ⟨d, .move x, t, gd⟩ K E fr σ = (rMove (hintOf h d) (aeval fr x) σ).holds K := rfl
theorem AOp_assign (x : Operand) : AOp P h ⟨d, .assign x, t, gd⟩ K E fr σ = (rMove (hintOf h d) (aeval fr x) σ).holds K := rfl
theorem AOp_pick (c a b : Operand) : AOp P h ⟨d, .pick c a b, t, gd⟩ K E fr σ = (rPick (aeval fr c) (aeval fr a) (aeval fr b) σ).holds K := rfl
theorem AOp_alloc (u : Nat) : AOp P h ⟨d, .alloc u, t, gd⟩ K E fr σ = (rBox u (zeroA P u) σ).holds K := rfl
theorem AOp_box (u : Nat) (x : Operand) : AOp P h ⟨d, .box u x, t, gd⟩ K E fr σ = (rBox u (aeval fr x) σ).holds K := rfl
theorem AOp_build (u : Nat) (ps : List (Nat × Operand)) : AOp P h ⟨d, .build u ⟨ps⟩, t, gd⟩ K E fr σ = (rBuild P u (ps.map fun p => (p.1, aeval fr p.2)) σ).holds K := rfl
theorem AOp_buildSlice (u n : Nat) (ps : List (Nat × Operand)) : AOp P h ⟨d, .buildSlice u n ⟨ps⟩, t, gd⟩ K E fr σ = (rFin (hintOf h d) (rBuildSlice P u n (ps.map fun p => (p.1, aeval fr p.2)) σ)).holds K := rfl
theorem AOp_load (u : Nat) (x : Operand) : AOp P h ⟨d, .load u x, t, gd⟩ K E fr σ = (rLoad P u (aeval fr x) σ).holds K := rfl
theorem AOp_store (u : Nat) (x y : Operand) : AOp P h ⟨d, .store u x y, t, gd⟩ K E fr σ = (rStore P u (aeval fr x) (aeval fr y) σ).holds K := rfl
theorem AOp_nilCheck (x : Operand) : AOp P h ⟨d, .nilCheck x, t, gd⟩ K E fr σ = (rNil (aeval fr x) σ).holds K := rfl
theorem AOp_binOp (op : BinOp) (u : Nat) (x y : Operand) (u' : Nat) : AOp P h ⟨d, .binOp op u x y u', t, gd⟩ K E fr σ = (rBin P op u (isC x || isC y) (aeval fr x) (aeval fr y) σ).holds K := rfl
theorem AOp_unOp (op : UnOp) (u : Nat) (x : Operand) : AOp P h ⟨d, .unOp op u x, t, gd⟩ K E fr σ = (rUn op (aeval fr x) σ).holds K := rfl
theorem AOp_convert (u v : Nat) (x : Operand) : AOp P h ⟨d, .convert u v x, t, gd⟩ K E fr σ = (rFin (hintOf h d) (rCvA P u v (aeval fr x) σ)).holds K := rfl
theorem AOp_makeInterface (u : Nat) (x : Operand) : AOp P h ⟨d, .makeInterface u x, t, gd⟩ K E fr σ = (rIface P u (aeval fr x) σ).holds K := rfl
theorem AOp_makeFunc (f : Fn) (a b : List Operand) : AOp P h ⟨d, .makeFunc f ⟨a⟩ ⟨b⟩, t, gd⟩ K E fr σ = (rFunc f (a.map (aeval fr)) (b.map (aeval fr)) σ).holds K := rfl
theorem AOp_makeSlice (u : Nat) (x y : Operand) : AOp P h ⟨d, .makeSlice u x y, t, gd⟩ K E fr σ = (rMake P u (aeval fr x) (aeval fr y) σ).holds K := rfl
theorem AOp_slice (u : Nat) (x : Operand) (lo hi : Option Operand) : AOp P h ⟨d, .slice u x lo hi none, t, gd⟩ K E fr σ = (rSlice P u (aeval fr x) (lo.map (aeval fr)) (hi.map (aeval fr)) σ).holds K := rfl
theorem AOp_fieldAddr (u : Nat) (x : Operand) (f : Nat) : AOp P h ⟨d, .fieldAddr u x f, t, gd⟩ K E fr σ = (rField P u f (aeval fr x) σ).holds K := rfl
theorem AOp_field (u : Nat) (x : Operand) (f : Nat) : AOp P h ⟨d, .field u x f, t, gd⟩ K E fr σ = (rFieldV P u f (aeval fr x) σ).holds K := rfl
theorem AOp_indexAddr (u : Nat) (x y : Operand) : AOp P h ⟨d, .indexAddr u x y, t, gd⟩ K E fr σ = (rIndex P u (aeval fr x) (aeval fr y) σ).holds K := rfl
theorem AOp_index (u : Nat) (x y : Operand) : AOp P h ⟨d, .index u x y, t, gd⟩ K E fr σ = (rIndexV P u (aeval fr x) (aeval fr y) σ).holds K := rfl
theorem AOp_range (u : Nat) (x : Operand) : AOp P h ⟨d, .range u x, t, gd⟩ K E fr σ = (rRange P u (aeval fr x) σ).holds K := rfl
theorem AOp_next (x : Operand) (b : Bool) : AOp P h ⟨d, .next x b, t, gd⟩ K E fr σ = (rNext (aeval fr x) b σ).holds K := rfl
theorem AOp_extract (x : Operand) (i : Nat) : AOp P h ⟨d, .extract x i, t, gd⟩ K E fr σ = (rExtract (aeval fr x) i σ).holds K := rfl
end

/- what follows holds of less -/
theorem Res.mono {r : Res} {R R' : AV → ST → Prop} (hR : ∀ v σ, R v σ → R' v σ) (h : r.holds R) : r.holds R' := by
  induction r with
  | ok v σ => exact hR _ _ h
  | need p r ih => exact ⟨h.1, ih h.2⟩
  | both a b iha ihb => exact ⟨iha h.1, ihb h.2⟩
  | bad => exact h
theorem Res.dmono {r : Res} {R R' : AV → ST → Prop} (hR : ∀ v σ, R v σ → R' v σ) (h : r.dholds R) : r.dholds R' := by
  induction r with
  | ok v σ => exact hR _ _ h
  | need p r ih => exact ⟨h.1, ih h.2⟩
  | both a b => exact h.elim
  | bad => exact h

section
variable {P : Program} {h : Nat → Hint}
theorem outK_mono {K K' E E' : AV → ST → Prop} (hK : ∀ v σ, K v σ → K' v σ) (hE : ∀ v σ, E v σ → E' v σ) (o : Out) (σ : ST) (hh : outK K E o σ) : outK K' E' o σ := by
  cases o <;> first | exact hK _ _ hh | exact hE _ _ hh

theorem AOp_mono {o : POp} {K K' E E' : AV → ST → Prop} {fr : FR} {σ : ST} (hK : ∀ v σ, K v σ → K' v σ) (hE : ∀ v σ, E v σ → E' v σ) (hh : AOp P h o K E fr σ) : AOp P h o K' E' fr σ := by
  unfold AOp at *
  split at hh
  · exact panicA_mono hE hh
  · exact Res.mono hK hh
  · unfold callA at *
    split at hh
    · rename_i g first cap _
      unfold callB at *
      cases hp : plainFn P g
      · rw [hp] at hh; exact ⟨hh.1, escA_mono hK hh.2⟩
      · rw [hp] at hh; exact ACall.mono hh fun oc σ' => outK_mono hK hE oc σ'
    · exact hh
  · exact Res.mono hK hh

theorem gateA_mono {c : AV} {b : Bool} {y y' n n' : Prop} (hy : y → y') (hn : n → n') (hh : gateA c b y n) : gateA c b y' n' := by
  unfold gateA at *
  split at hh
  · rename_i c'
    revert hh
    cases c' == b
    · exact hn
    · exact hy
  · exact hn hh
  · exact hh

theorem AOps_mono {Q Q' : Post} (hQ : ∀ e fr σ, Q e fr σ → Q' e fr σ) : ∀ (l : List POp) (fr : FR) (σ : ST), AOps P h Q l fr σ → AOps P h Q' l fr σ
  | [], fr, σ, hh => hQ _ _ _ hh
  | o :: l, fr, σ, hh => by
    unfold AOps at *
    split at hh
    · exact AOp_mono (fun v σ' => AOps_mono hQ l _ _) (fun x σ' => hQ _ _ _) hh
    · exact gateA_mono (AOp_mono (fun v σ' => AOps_mono hQ l _ _) (fun x σ' => hQ _ _ _)) (AOps_mono hQ l _ _) hh

theorem DOp_mono {o : POp} {K K' : AV → ST → Prop} {fr : FR} {σ : ST} (hK : ∀ v σ, K v σ → K' v σ) (hh : DOp P h o K fr σ) : DOp P h o K' fr σ := by
  unfold DOp at *
  split at hh
  · obtain ⟨v, h1, h2⟩ := hh; exact ⟨v, h1, hK _ _ h2⟩
  · exact Res.dmono hK hh

theorem DOps_mono {K K' : FR → ST → Prop} (hK : ∀ fr σ, K fr σ → K' fr σ) : ∀ (l : List DP) (past : List ST) (pend : List PD) (fr : FR) (σ : ST), DOps P h K l past pend fr σ → DOps P h K' l past pend fr σ
  | [], _, _, _, _, hh => hK _ _ hh
  | o :: l, past, pend, fr, σ, hh => by
    unfold DOps at *
    split at hh
    · exact DOp_mono (fun v σ' h => ⟨h.1, DOps_mono hK l _ _ _ _ h.2⟩) hh
    · exact gateA_mono (DOp_mono (fun v σ' h => ⟨h.1, DOps_mono hK l _ _ _ _ h.2⟩)) (DOps_mono hK l _ _ _ _) hh

theorem thenA_mono {X X' : FR → ST → Prop} {Q Q' : Post} (hX : ∀ fr σ, X fr σ → X' fr σ) (hQ : ∀ e fr σ, Q e fr σ → Q' e fr σ) (e : AExit) (fr : FR) (σ : ST) (hh : thenA X Q e fr σ) : thenA X' Q' e fr σ := by
  cases e <;> first | exact hX _ _ hh | exact hQ _ _ _ hh

theorem blockA_mono {id : Nat} {Q Q' : Post} (hQ : ∀ e fr σ, Q e fr σ → Q' e fr σ) (e : AExit) (fr : FR) (σ : ST) (hh : blockA id Q e fr σ) : blockA id Q' e fr σ := by
  cases e <;> simp only [blockA] at hh ⊢ <;> try exact hQ _ _ _ hh
  split at hh
  · rename_i hc; rw [if_pos hc]; exact hQ _ _ _ hh
  · rename_i hc; rw [if_neg hc]; exact hQ _ _ _ hh

theorem W_mono : ∀ (c : PC) {Q Q' : Post}, (∀ e fr σ, Q e fr σ → Q' e fr σ) → ∀ (fr : FR) (σ : ST), W P h c Q fr σ → W P h c Q' fr σ
  | .skip, _, _, hQ, _, _, hh => hQ _ _ _ hh
  | .ret, _, _, hQ, _, _, hh => hQ _ _ _ hh
  | .other, _, _, _, _, _, hh => hh
  | .draw ops, _, _, hQ, fr, σ, hh => DOps_mono (fun fr' σ' h' => hQ _ _ _ h') ops _ _ fr σ hh
  | .exit _, _, _, hQ, _, _, hh => hQ _ _ _ hh
  | .seq a b, _, _, hQ, fr, σ, hh => W_mono a (thenA_mono (W_mono b hQ) hQ) fr σ hh
  | .cond c x y, _, _, hQ, fr, σ, hh => by
    simp only [W] at *
    generalize aeval fr c = v at *
    unfold condA at *
    split at hh
    · rename_i b; cases b
      · exact W_mono y hQ fr σ hh
      · exact W_mono x hQ fr σ hh
    · exact hh
  | .block id b, _, _, hQ, fr, σ, hh => W_mono b (blockA_mono hQ) fr σ hh
  | .loop b, _, _, hQ, fr, σ, hh => fun X hX => hh X fun fr σ hb => hX fr σ (W_mono b (thenA_mono (fun _ _ h => h) hQ) fr σ hb)
  | .region ops, _, _, hQ, fr, σ, hh => AOps_mono hQ ops fr σ hh

/-- One round of a loop. -/
theorem LoopW.step {b : PC} {Q : Post} {fr : FR} {σ : ST} (hh : W P h b (thenA (LoopW (fun Q fr σ => W P h b Q fr σ) Q) Q) fr σ) : LoopW (fun Q fr σ => W P h b Q fr σ) Q fr σ :=
  fun X hX => hX fr σ (W_mono b (thenA_mono (fun fr σ hl => hl X hX) (fun _ _ _ h => h)) fr σ hh)
end
end Nv
/- Regions whose order is open: what an evaluation in the order of the text gives. -/

set_option linter.unusedVariables false
set_option linter.unusedSimpArgs false
namespace Nv
open Go

section
variable {P : Program} {h : Nat → Hint}

theorem Res.split {r : Res} {R : AV → ST → Prop} (hh : r.dholds R) : ∃ v σ', r.holds (fun v' τ => v' = v ∧ τ = σ') ∧ R v σ' := by
  induction r with
  | ok v σ => exact ⟨v, σ, ⟨rfl, rfl⟩, hh⟩
  | need p r ih => obtain ⟨v, σ', h1, h2⟩ := ih hh.2; exact ⟨v, σ', ⟨hh.1, h1⟩, h2⟩
  | both a b => exact hh.elim
  | bad => exact hh.elim

/-- What an operation comes to, and the store after it. -/
def Does (P : Program) (h : Nat → Hint) (o : POp) (fr : FR) (σ : ST) (v : AV) (σ' : ST) : Prop := AOp P h o (fun v' τ => v' = v ∧ τ = σ') (fun _ _ => False) fr σ

theorem DOp.split {o : POp} {R : AV → ST → Prop} {fr : FR} {σ : ST} (hh : DOp P h o R fr σ) : ∃ v σ', Does P h o fr σ v σ' ∧ R v σ' := by
  unfold DOp at hh
  unfold Does AOp
  split at hh
  · rename_i f args ts hop
    rw [hop]
    obtain ⟨v, h1, h2⟩ := hh; exact ⟨v, σ, h1, h2⟩
  · rename_i hne
    split
    · rename_i x hop; rw [hop] at hh; exact hh.elim
    · rename_i s d x hop
      rw [hop] at hh
      have hb : rCv P s d (aeval fr x) σ ≠ .bad := fun hb => by
        simp only [evalOp] at hh
        rw [hb, rFin_bad] at hh
        exact hh.elim
      rw [rCvA_of hb]
      exact Res.split hh
    · rename_i f args ts hop; exact absurd hop (hne _ _ _)
    · exact Res.split hh

theorem Again.does {o : POp} {fr : FR} {v : AV} {τ : ST} (hh : Again P h o fr v τ) : Does P h o fr τ v τ := by
  obtain ⟨v', σ', h1, rfl, rfl⟩ := DOp.split hh
  exact h1

def frT : List DP → (Nat → AV) → FR → Nat → FR
  | [], _, fr, _ => fr
  | _, _, fr, 0 => fr
  | o :: l, vs, fr, k + 1 => frT l (fun i => vs (i + 1)) (put fr o.o.dst (vs 0)) k
theorem frT_zero (l : List DP) (vs : Nat → AV) (fr : FR) : frT l vs fr 0 = fr := by cases l <;> rfl
theorem frT_succ : ∀ (l : List DP) (vs : Nat → AV) (fr : FR) (k : Nat) (o : DP), l[k]? = some o → frT l vs fr (k + 1) = put (frT l vs fr k) o.o.dst (vs k)
  | [], _, _, _, _, ho => by simp at ho
  | x :: l, vs, fr, 0, o, ho => by
    simp only [List.getElem?_cons_zero, Option.some.injEq] at ho; subst ho
    simp [frT, frT_zero]
  | x :: l, vs, fr, k + 1, o, ho => by
    simp only [List.getElem?_cons_succ] at ho
    exact frT_succ l _ _ k o ho

/-- Whether an operation is carried out. -/
inductive Gate (o : POp) (fr : FR) : Bool → Prop
  | opn : o.guard = none → Gate o fr true
  | att {g : Nat} {b c : Bool} : o.guard = some (g, b) → fr g = .d (.bool c) → Gate o fr (c == b)
  | un {g : Nat} {b : Bool} : o.guard = some (g, b) → fr g = .tuple [] → Gate o fr false

structure Fact (P : Program) (h : Nat → Hint) (n : Nat) (dp : DP) (fr : FR) (vs : Nat → AV) (ss : Nat → ST) (past : List ST) (i : Nat) : Prop where
  does : Does P h dp.o fr (ss i) (vs i) (ss (i + 1))
  still : dp.eff = false → ss (i + 1) = ss i
  back : dp.eff = false → dp.back = true → (∀ τ, τ ∈ past → Does P h dp.o fr τ (vs i) τ) ∧ ∀ j, j ≤ i → Does P h dp.o fr (ss j) (vs i) (ss j)
  fwd : dp.eff = false → dp.fwd = true → ∀ j, i < j → j ≤ n → Does P h dp.o fr (ss j) (vs i) (ss j)

def Says (P : Program) (h : Nat → Hint) (n : Nat) (dp : DP) (fr : FR) (vs : Nat → AV) (ss : Nat → ST) (past : List ST) (i : Nat) : Prop :=
  (Gate dp.o fr true ∧ Fact P h n dp fr vs ss past i) ∨ (Gate dp.o fr false ∧ vs i = .tuple [] ∧ ss (i + 1) = ss i)

def cons0 {α : Type} (x : α) (f : Nat → α) : Nat → α
  | 0 => x
  | k + 1 => f k

theorem DOps.extract {K : FR → ST → Prop} : ∀ (l : List DP) (past : List ST) (pend : List PD) (fr : FR) (σ : ST), DOps P h K l past pend fr σ →
    ∃ (vs : Nat → AV) (ss : Nat → ST), ss 0 = σ ∧ K (frT l vs fr l.length) (ss l.length) ∧ (∀ p, p ∈ pend → Does P h p.o p.fr σ p.v σ → ∀ j, j ≤ l.length → Does P h p.o p.fr (ss j) p.v (ss j)) ∧
      ∀ i dp, l[i]? = some dp → Says P h l.length dp (frT l vs fr i) vs ss past i
  | [], past, pend, fr, σ, hh => ⟨fun _ => .any, fun _ => σ, rfl, hh, fun p _ hok j _ => hok, fun i dp hi => by simp at hi⟩
  | o :: rest, past, pend, fr, σ, hh => by
    have skip : Gate o.o fr false → DOps P h K rest past pend (put fr o.o.dst (.tuple [])) σ →
        ∃ (vs : Nat → AV) (ss : Nat → ST), ss 0 = σ ∧ K (frT (o :: rest) vs fr (rest.length + 1)) (ss (rest.length + 1)) ∧ (∀ p, p ∈ pend → Does P h p.o p.fr σ p.v σ → ∀ j, j ≤ rest.length + 1 → Does P h p.o p.fr (ss j) p.v (ss j)) ∧
          ∀ i dp, (o :: rest)[i]? = some dp → Says P h (rest.length + 1) dp (frT (o :: rest) vs fr i) vs ss past i := by
      intro hg hd
      obtain ⟨vs, ss, h0, hK, hp, hs⟩ := extract rest _ _ _ _ hd
      refine ⟨cons0 (.tuple []) vs, cons0 σ ss, rfl, hK, fun p hpm hok j hj => ?_, fun i dp hi => ?_⟩
      · cases j with
        | zero => exact hok
        | succ j => exact hp p hpm hok j (by omega)
      · cases i with
        | zero =>
          simp only [List.getElem?_cons_zero, Option.some.injEq] at hi; subst hi
          exact .inr ⟨by rw [frT_zero]; exact hg, rfl, h0⟩
        | succ i =>
          simp only [List.getElem?_cons_succ] at hi
          rcases hs i dp hi with ⟨g1, f⟩ | ⟨g1, g2, g3⟩
          · refine .inl ⟨g1, ⟨f.does, f.still, fun he hb => ⟨(f.back he hb).1, fun j hj => ?_⟩, fun he hw j hj hn => ?_⟩⟩
            · cases j with
              | zero => have := (f.back he hb).2 0 (Nat.zero_le _); rw [h0] at this; exact this
              | succ j => exact (f.back he hb).2 j (by omega)
            · cases j with
              | zero => omega
              | succ j => exact f.fwd he hw j (by omega) (by omega)
          · exact .inr ⟨g1, g2, g3⟩
    have run : Gate o.o fr true → DOp P h o.o (fun v σ' => dNext P h o past pend fr σ v σ' ∧ DOps P h K rest (dPast o past σ) (dPend o pend fr v) (put fr o.o.dst v) σ') fr σ →
        ∃ (vs : Nat → AV) (ss : Nat → ST), ss 0 = σ ∧ K (frT (o :: rest) vs fr (rest.length + 1)) (ss (rest.length + 1)) ∧ (∀ p, p ∈ pend → Does P h p.o p.fr σ p.v σ → ∀ j, j ≤ rest.length + 1 → Does P h p.o p.fr (ss j) p.v (ss j)) ∧
          ∀ i dp, (o :: rest)[i]? = some dp → Says P h (rest.length + 1) dp (frT (o :: rest) vs fr i) vs ss past i := by
      intro hg hd
      obtain ⟨v, σ', hdo, hnx, hrest⟩ := DOp.split hd
      obtain ⟨vs, ss, h0, hK, hp, hs⟩ := extract rest _ _ _ _ hrest
      subst h0
      have hsub : ∀ p, p ∈ pend → p ∈ dPend o pend fr v := fun p hpm => by
        unfold dPend; cases o.fwd && !o.eff
        · exact hpm
        · exact List.mem_cons_of_mem _ hpm
      refine ⟨cons0 v vs, cons0 σ ss, rfl, hK, fun p hpm hok j hj => ?_, fun i dp hi => ?_⟩
      · cases j with
        | zero => exact hok
        | succ j =>
          refine hp p (hsub p hpm) ?_ j (by omega)
          unfold dNext at hnx
          cases he : o.eff
          · rw [he] at hnx; rw [hnx.1]; exact hok
          · rw [he] at hnx; exact Again.does (hnx p hpm)
      · cases i with
        | zero =>
          simp only [List.getElem?_cons_zero, Option.some.injEq] at hi; subst hi
          refine .inl ⟨by rw [frT_zero]; exact hg, ⟨by rw [frT_zero]; exact hdo, fun he => ?_, fun he hb => ⟨fun τ hτ => ?_, fun j hj => ?_⟩, fun he hw j hj hn => ?_⟩⟩
          · unfold dNext at hnx; rw [he] at hnx; exact hnx.1
          · unfold dNext at hnx; rw [he] at hnx; rw [frT_zero]; exact Again.does (hnx.2 hb τ hτ)
          · cases j with
            | zero =>
              unfold dNext at hnx; rw [he] at hnx
              have h1 := hnx.1
              rw [frT_zero]
              rw [h1] at hdo
              exact hdo
            | succ j => omega
          · cases j with
            | zero => omega
            | succ j =>
              unfold dNext at hnx; rw [he] at hnx
              have h1 := hnx.1
              rw [frT_zero]
              refine hp ⟨⟨o.o.dst, o.o.op, o.o.type, none⟩, fr, v⟩ ?_ ?_ j (by omega)
              · unfold dPend; rw [hw, he]; exact List.mem_cons_self
              · rw [h1] at hdo ⊢; exact hdo
        | succ i =>
          simp only [List.getElem?_cons_succ] at hi
          rcases hs i dp hi with ⟨g1, f⟩ | ⟨g1, g2, g3⟩
          · have hpast : ∀ τ, τ ∈ past → τ ∈ dPast o past σ := fun τ hτ => by
              unfold dPast; cases o.eff
              · exact hτ
              · exact List.mem_cons_of_mem _ hτ
            refine .inl ⟨g1, ⟨f.does, f.still, fun he hb => ⟨fun τ hτ => (f.back he hb).1 τ (hpast τ hτ), fun j hj => ?_⟩, fun he hw j hj hn => ?_⟩⟩
            · cases j with
              | zero =>
                cases hoe : o.eff
                · unfold dNext at hnx; rw [hoe] at hnx
                  have := (f.back he hb).2 0 (Nat.zero_le _)
                  rw [hnx.1] at this; exact this
                · exact (f.back he hb).1 σ (by unfold dPast; rw [hoe]; exact List.mem_cons_self)
              | succ j => exact (f.back he hb).2 j (by omega)
            · cases j with
              | zero => omega
              | succ j => exact f.fwd he hw j (by omega) (by omega)
          · exact .inr ⟨g1, g2, g3⟩
    unfold DOps at hh
    split at hh
    · rename_i hg
      exact run (.opn hg) hh
    · rename_i g b hg
      unfold gateA at hh
      split at hh
      · rename_i c hc
        cases hcb : c == b
        · rw [hcb] at hh
          exact skip (hcb ▸ .att hg hc) hh
        · rw [hcb] at hh
          exact run (hcb ▸ .att hg hc) hh
      · rename_i hc
        exact skip (.un hg hc) hh
      · exact hh.elim

/- an operation looks at its operands alone -/
theorem map_congr_mem {xs : Array Operand} {fr fr' : FR} (hx : ∀ x, x ∈ xs → aeval fr x = aeval fr' x) : xs.toList.map (aeval fr) = xs.toList.map (aeval fr') :=
  List.map_congr_left fun x hm => hx x (by simpa using hm)
theorem parts_congr {ps : Array (Nat × Operand)} {fr fr' : FR} (hx : ∀ x, x ∈ ps.map (·.2) → aeval fr x = aeval fr' x) : (ps.toList.map fun p => (p.1, aeval fr p.2)) = ps.toList.map fun p => (p.1, aeval fr' p.2) :=
  List.map_congr_left fun p hm => by rw [hx p.2 (Array.mem_map.2 ⟨p, by simpa using hm, rfl⟩)]

theorem evalOp_fr {hh : Hint} {tt : Nat} {op : Op} {fr fr' : FR} {σ : ST} (hx : ∀ x, x ∈ op.operands → aeval fr x = aeval fr' x) : evalOp P hh tt fr σ op = evalOp P hh tt fr' σ op := by
  cases op <;> simp only [Op.operands] at hx <;> try rfl
  case move x => simp only [evalOp, hx x (by simp)]
  case assign x => simp only [evalOp, hx x (by simp)]
  case pick c a b => simp only [evalOp, hx c (by simp), hx a (by simp), hx b (by simp)]
  case box t x => simp only [evalOp, hx x (by simp)]
  case build t ps => simp only [evalOp]; rw [parts_congr (ps := ps) fun x hm => hx x (by simpa using hm)]
  case buildSlice t n ps => simp only [evalOp]; rw [parts_congr (ps := ps) fun x hm => hx x (by simpa using hm)]
  case load t x => simp only [evalOp, hx x (by simp)]
  case store t x y => simp only [evalOp, hx x (by simp), hx y (by simp)]
  case nilCheck x => simp only [evalOp, hx x (by simp)]
  case binOp o t x y u => simp only [evalOp, hx x (by simp), hx y (by simp)]
  case unOp o t x => simp only [evalOp, hx x (by simp)]
  case convert s d x => simp only [evalOp, hx x (by simp)]
  case makeInterface t x => simp only [evalOp, hx x (by simp)]
  case makeFunc f a b => simp only [evalOp]; rw [map_congr_mem (xs := a) fun x hm => hx x (by simp [hm]), map_congr_mem (xs := b) fun x hm => hx x (by simp [hm])]
  case makeSlice t x y => simp only [evalOp, hx x (by simp), hx y (by simp)]
  case slice t x lo hi mx =>
    cases mx with
    | some m => rfl
    | none =>
      simp only [evalOp, hx x (by simp)]
      congr 1
      · cases lo with
        | none => rfl
        | some y => simp only [Option.map_some, hx y (by simp)]
      · cases hi with
        | none => rfl
        | some y => simp only [Option.map_some, hx y (by simp)]
  case fieldAddr t x f => simp only [evalOp, hx x (by simp)]
  case field t x f => simp only [evalOp, hx x (by simp)]
  case indexAddr t x y => simp only [evalOp, hx x (by simp), hx y (by simp)]
  case index t x y => simp only [evalOp, hx x (by simp), hx y (by simp)]
  case extract x i => simp only [evalOp, hx x (by simp)]
  case range t x => simp only [evalOp, hx x (by simp)]
  case makeMap t r => cases r <;> rfl
  case typeAssert x u t ok => simp only [evalOp, hx x (by simp)]
  case lookup t x k ok => simp only [evalOp, hx x (by simp), hx k (by simp)]
  case mapUpdate t m k x => simp only [evalOp, hx m (by simp), hx k (by simp), hx x (by simp)]
  case next x b => simp only [evalOp, hx x (by simp)]
  case call c =>
    obtain ⟨callee, args, ts⟩ := c
    cases callee with
    | builtin b => simp only [evalOp]; rw [map_congr_mem fun x hm => hx x (by simp [Call.operands, hm])]
    | value f => rfl
    | invoke r m => rfl

theorem Does.fr {o : POp} {fr fr' : FR} {σ σ' : ST} {v : AV} (hx : ∀ x, x ∈ o.op.operands → aeval fr x = aeval fr' x) (hd : Does P h o fr σ v σ') : Does P h o fr' σ v σ' := by
  unfold Does AOp at *
  split at hd
  · rename_i x hop
    rw [hop] at hx
    rw [← hx x (by simp [Op.operands])]
    exact hd
  · rename_i s d x hop
    rw [hop] at hx
    rw [← hx x (by simp [Op.operands])]
    exact hd
  · rename_i f args ts hop
    rw [hop] at hx
    rw [← hx f (by simp [Op.operands, Call.operands]), ← map_congr_mem fun x hm => hx x (by simp [Op.operands, Call.operands, hm])]
    exact hd
  · rw [← evalOp_fr hx]; exact hd
end
end Nv
