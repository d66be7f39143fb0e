/- The code of a function in the abstract layer: what it comes to; calls; soundness. -/
import Derived.Test.YtebejiilpedlmaaGreatDoorNvJ
set_option linter.unusedVariables false
set_option linter.unusedSimpArgs false
namespace Nv
open Go

/-- What is done to a value that is moved. -/
inductive Hint where
  | no | freeze | own (e : ET) | lst (e : Nat)

structure POp where
  dst : Option Nat
  op : Op
  type : Nat
  guard : Option (Nat × Bool)

/-- An operation of a region whose order is open: does it change the store, may it run before or after operations that do and stand elsewhere in the text. -/
structure DP where
  o : POp
  eff : Bool
  back : Bool
  fwd : Bool

inductive PC where
  | skip | ret | other
  | region (ops : List POp)
  | draw (ops : List DP)
  | seq (a b : PC)
  | cond (c : Operand) (x y : PC)
  | block (id : Nat) (b : PC)
  | loop (b : PC)
  | exit (id : Nat)

def prepOp (ops : Array Oper) (o : Oper) : POp := ⟨o.dst, o.op, o.type, match o.guard with | some (g, b) => some (((ops[g]?).bind (·.dst)).getD 0, b) | none => none⟩

def isEff : Op → Bool
  | .store _ _ _ => true
  | .alloc _ => true
  | .box _ _ => true
  | .buildSlice _ _ _ => true
  | .makeSlice _ _ _ => true
  | .range _ _ => true
  | .makeMap _ _ => true
  | .mapUpdate _ _ _ _ => true
  | .next _ _ => true
  | .call ⟨.builtin .append, _, _⟩ => true
  | .call ⟨.builtin .unsafeString, _, _⟩ => true
  | .call ⟨.builtin .copy, _, _⟩ => true
  | _ => false

/-- Which operations must have run before one: a number's bits. -/
def maskOf (acc : List Nat) (es : List Edge) : Nat := es.foldr (fun e s => bif Region.binds .any e then s ||| (1 <<< e.on) ||| acc.getD e.on 0 else s) 0
def masks : List Oper → List Nat → List Nat
  | [], acc => acc
  | o :: l, acc => masks l (acc ++ [maskOf acc o.after.toList])
def effAt (ops : Array Oper) (j : Nat) : Bool := match ops[j]? with | some o => isEff o.op | none => false
def forced (ms : List Nat) (j i : Nat) : Bool := (ms.getD i 0).testBit j
def dpAt (ops : Array Oper) (ms : List Nat) (i : Nat) (o : Oper) : DP :=
  ⟨prepOp ops o, isEff o.op, (List.range i).any (fun j => effAt ops j && !forced ms j i), (List.range ops.size).any (fun j => Nat.blt i j && effAt ops j && !forced ms i j)⟩
def prepDraw (ops : Array Oper) : List DP := ops.toList.mapIdx (fun i o => dpAt ops (masks ops.toList []) i o)

def prep : Code → PC
  | .skip => .skip
  | .ret => .ret
  | .region _ ops false => .region (ops.toList.map (prepOp ops))
  | .region _ ops true => .draw (prepDraw ops)
  | .seq a b => .seq (prep a) (prep b)
  | .cond c x y => .cond c (prep x) (prep y)
  | .block id b => .block id (prep b)
  | .loop b => .loop (prep b)
  | .exit id => .exit id
  | _ => .other

def pcOf (f : Func) : PC := match f.body with | some c => prep c | none => .other

inductive Out where
  | ret (v : AV)
  | panic (v : AV)

inductive AExit where
  | normal | exit (id : Nat) | ret
  | panic (v : AV)

abbrev Post := AExit → FR → ST → Prop

/-- A call, in the abstract layer. -/
def ACall (P : Program) (f : FuncId) (args : List AV) (σ : ST) (K : Out → ST → Prop) : Prop :=
  ∀ ρ I w vs, RS P ρ I w σ → VL ρ σ I w args vs → Calls P f vs w fun e w' => ∃ ρ' I' σ' oc, Step ρ I w σ ρ' I' w' σ' ∧ RS P ρ' I' w' σ' ∧
    (match e, oc with
      | .returned v, .ret a => V ρ' σ' I' w' a v
      | .panicked ch, .panic a => ∃ v, ch = [{ v, recovered := false }] ∧ V ρ' σ' I' w' a v
      | _, _ => False) ∧ K oc σ'

theorem ACall_congr {P : Program} {f : FuncId} {args args' : List AV} {σ σ' : ST} {K : Out → ST → Prop} (h1 : args = args') (h2 : σ = σ') : ACall P f args σ K = ACall P f args' σ' K := by rw [h1, h2]

theorem ACall.mono {P : Program} {f : FuncId} {args : List AV} {σ : ST} {K K' : Out → ST → Prop} (h : ACall P f args σ K) (hk : ∀ oc σ', K oc σ' → K' oc σ') : ACall P f args σ K' :=
  fun ρ I w vs hr hv => (h ρ I w vs hr hv).mono fun e w' ⟨ρ', I', σ', oc, h1, h2, h3, h4⟩ => ⟨ρ', I', σ', oc, h1, h2, h3, hk _ _ h4⟩

def rMove (h : Hint) (x : AV) (σ : ST) : Res :=
  match h with
  | .no => .ok x σ
  | .freeze => rFreeze x σ
  | .own e => rNilOwn e x σ
  | .lst e => rNilList e x σ
@[go_sem] theorem rMove_no (x : AV) (σ : ST) : rMove .no x σ = .ok x σ := nrfl rfl
@[go_sem] theorem rMove_freeze (x : AV) (σ : ST) : rMove .freeze x σ = rFreeze x σ := nrfl rfl
@[go_sem] theorem rMove_own (e : ET) (x : AV) (σ : ST) : rMove (.own e) x σ = rNilOwn e x σ := nrfl rfl
@[go_sem] theorem rMove_lst (e : Nat) (x : AV) (σ : ST) : rMove (.lst e) x σ = rNilList e x σ := nrfl rfl

/-- An outcome, and what is done with it. -/
def Res.andThen : Res → (AV → ST → Res) → Res
  | .ok v σ, k => k v σ
  | @Res.need p _ r, k => .need p (r.andThen k)
  | .both a b, k => .both (a.andThen k) (b.andThen k)
  | .bad, _ => .bad
@[go_sem] theorem andThen_ok (v : AV) (σ : ST) (k : AV → ST → Res) : (Res.ok v σ).andThen k = k v σ := nrfl rfl
@[go_sem] theorem andThen_need (p : Prop) [Decidable p] (r : Res) (k : AV → ST → Res) : (Res.need p r).andThen k = .need p (r.andThen k) := nrfl rfl
@[go_sem] theorem andThen_bad (k : AV → ST → Res) : Res.bad.andThen k = .bad := nrfl rfl
@[go_sem] theorem andThen_both (a b : Res) (k : AV → ST → Res) : (Res.both a b).andThen k = .both (a.andThen k) (b.andThen k) := nrfl rfl
theorem holds_andThen {r : Res} {k : AV → ST → Res} {R : AV → ST → Prop} : (r.andThen k).holds R ↔ r.holds (fun v σ => (k v σ).holds R) := by
  induction r with
  | ok v σ => exact Iff.rfl
  | need p r ih => exact and_congr Iff.rfl ih
  | both a b iha ihb => exact and_congr iha ihb
  | bad => exact Iff.rfl

/-- What is done to a value that is made. -/
def rFin (h : Hint) (r : Res) : Res :=
  match h with
  | .no => r
  | h => r.andThen (rMove h)
@[go_sem] theorem rFin_no (r : Res) : rFin .no r = r := nrfl rfl
@[go_sem] theorem rFin_freeze (r : Res) : rFin .freeze r = r.andThen rFreeze := nrfl rfl

def hintOf (h : Nat → Hint) : Option Nat → Hint
  | some d => h d
  | none => .no
@[go_sem] theorem hintOf_some (h : Nat → Hint) (d : Nat) : hintOf h (some d) = h d := nrfl rfl

def rBuiltin (P : Program) (b : Builtin) (ty : Nat) (ts : List Nat) (args : List AV) (σ : ST) : Res :=
  match b, ts, args with
  | .len, t :: _, [x] => rLen P t x σ
  | .append, t :: xt :: _, [s, x] => rAppend P t xt s x σ
  | .min, _, args => rMin args σ
  | .max, _, args => rMax args σ
  | .unsafeSliceData, _, [x] => rUSD P ty x σ
  | .unsafeString, t :: _, [x, n] => rUStr P t x n σ
  | .copy, t :: _, [s, x] => rCopy P t s x σ
  | _, _, _ => .bad
@[go_sem] theorem rBuiltin_len (P : Program) (ty t : Nat) (ts : List Nat) (x : AV) (σ : ST) : rBuiltin P .len ty (t :: ts) [x] σ = rLen P t x σ := nrfl rfl
@[go_sem] theorem rBuiltin_append (P : Program) (ty t xt : Nat) (ts : List Nat) (s x : AV) (σ : ST) : rBuiltin P .append ty (t :: xt :: ts) [s, x] σ = rAppend P t xt s x σ := nrfl rfl
@[go_sem] theorem rBuiltin_min (P : Program) (ty : Nat) (ts : List Nat) (args : List AV) (σ : ST) : rBuiltin P .min ty ts args σ = rMin args σ := by cases ts <;> rfl
@[go_sem] theorem rBuiltin_max (P : Program) (ty : Nat) (ts : List Nat) (args : List AV) (σ : ST) : rBuiltin P .max ty ts args σ = rMax args σ := by cases ts <;> rfl
@[go_sem] theorem rBuiltin_usd (P : Program) (ty : Nat) (ts : List Nat) (x : AV) (σ : ST) : rBuiltin P .unsafeSliceData ty ts [x] σ = rUSD P ty x σ := by cases ts <;> rfl
@[go_sem] theorem rBuiltin_copy (P : Program) (ty t : Nat) (ts : List Nat) (s x : AV) (σ : ST) : rBuiltin P .copy ty (t :: ts) [s, x] σ = rCopy P t s x σ := nrfl rfl
@[go_sem] theorem rBuiltin_ustr (P : Program) (ty t : Nat) (ts : List Nat) (x n : AV) (σ : ST) : rBuiltin P .unsafeString ty (t :: ts) [x, n] σ = rUStr P t x n σ := nrfl rfl

def evalOp (P : Program) (h : Hint) (tt : Nat) (fr : FR) (σ : ST) : Op → Res
  | .move x => rMove h (aeval fr x) σ
  | .assign x => rMove h (aeval fr x) σ
  | .pick c a b => rPick (aeval fr c) (aeval fr a) (aeval fr b) σ
  | .alloc t => rBox t (zeroA P t) σ
  | .box t x => rBox t (aeval fr x) σ
  | .build t parts => rBuild P t (parts.toList.map fun p => (p.1, aeval fr p.2)) σ
  | .buildSlice t len parts => rFin h (rBuildSlice P t len (parts.toList.map fun p => (p.1, aeval fr p.2)) σ)
  | .load t a => rLoad P t (aeval fr a) σ
  | .store t a x => rStore P t (aeval fr a) (aeval fr x) σ
  | .nilCheck x => rNil (aeval fr x) σ
  | .binOp op xt x y _ => rBin P op xt (isC x || isC y) (aeval fr x) (aeval fr y) σ
  | .unOp op _ x => rUn op (aeval fr x) σ
  | .convert s d x => rCv P s d (aeval fr x) σ
  | .makeInterface t x => rIface P t (aeval fr x) σ
  | .makeFunc f first cap => rFunc f (first.toList.map (aeval fr)) (cap.toList.map (aeval fr)) σ
  | .makeSlice t l c => rMake P t (aeval fr l) (aeval fr c) σ
  | .slice t x lo hi none => rSlice P t (aeval fr x) (lo.map (aeval fr)) (hi.map (aeval fr)) σ
  | .fieldAddr s x f => rField P s f (aeval fr x) σ
  | .field s x f => rFieldV P s f (aeval fr x) σ
  | .indexAddr t x i => rIndex P t (aeval fr x) (aeval fr i) σ
  | .index t x i => rIndexV P t (aeval fr x) (aeval fr i) σ
  | .extract x i => rExtract (aeval fr x) i σ
  | .range t x => rRange P t (aeval fr x) σ
  | .makeMap _ none => rMakeMap σ
  | .lookup t x k ok => rLookup P t (aeval fr x) (aeval fr k) ok σ
  | .typeAssert x _ t ok => rAssert P t (aeval fr x) ok σ
  | .mapUpdate t m k x => rMapUpdate P t (aeval fr m) (aeval fr k) (aeval fr x) σ
  | .next x str => rNext (aeval fr x) str σ
  | .call { callee := .builtin b, args, argTypes } => rFin h (rBuiltin P b tt argTypes.toList (args.toList.map (aeval fr)) σ)
  | _ => .bad

section
variable {P : Program} {ρ ρ' : RHO} {σ σ' : ST} {I I' : Nat → Prop} {w w' : World}

theorem VF.vl {fr : FR} {a : Act} (h : VF ρ σ I w fr a) (xs : Array Operand) : VL ρ σ I w (xs.toList.map (aeval fr)) (xs.map a.eval) := by
  refine ⟨by simp, fun j c hj => ?_⟩
  simp only [List.getElem?_map, Option.map_eq_some_iff] at hj
  obtain ⟨x, hx, rfl⟩ := hj
  have hlt : j < xs.size := by
    rcases Nat.lt_or_ge j xs.size with h' | h'
    · exact h'
    · rw [List.getElem?_eq_none (by simpa using h')] at hx; cases hx
  have : (xs.map a.eval).getD j undef = a.eval x := by
    rw [Array.getElem?_toList, Array.getElem?_eq_getElem hlt] at hx
    simp only [Option.some.injEq] at hx
    simp [Array.getD_eq_getD_getElem?, hlt, hx]
  rw [this]; exact h.eval x

theorem VF.vp {fr : FR} {a : Act} (h : VF ρ σ I w fr a) (ps : Array (Nat × Operand)) : VP ρ σ I w (ps.toList.map fun p => (p.1, aeval fr p.2)) (ps.map fun p => (p.1, a.eval p.2)).toList := by
  rw [Array.toList_map]
  generalize ps.toList = l
  induction l with
  | nil => trivial
  | cons x l ih => exact ⟨rfl, h.eval x.2, ih⟩

theorem rMin_sound {avl : List AV} {vs : Array Value} (h : VL ρ σ I w avl vs) (ts : Array TypeId) (ty : TypeId) : Pev P ρ σ I w (Builtin.min_ ts ty vs) (rMin avl σ) := by
  have hsz := h.1
  obtain ⟨vs⟩ := vs
  unfold rMin
  split
  · match vs, hsz with
    | [v], _ =>
      have h0 := (h.2 0 _ rfl).d_inv.int_inv
      simp at h0; subst h0
      exact .ok rfl (.d (.int _ _))
  · match vs, hsz with
    | [v, u], _ =>
      have h0 := (h.2 0 _ rfl).d_inv.int_inv
      have h1 := (h.2 1 _ rfl).d_inv.int_inv
      simp at h0 h1; subst h0 h1
      exact .ok rfl (.d (.int _ _))
  · match vs, hsz with
    | [v, u, z], _ =>
      have h0 := (h.2 0 _ rfl).d_inv.int_inv
      have h1 := (h.2 1 _ rfl).d_inv.int_inv
      have h2 := (h.2 2 _ rfl).d_inv.int_inv
      simp at h0 h1 h2; subst h0 h1 h2
      exact .ok rfl (.d (.int _ _))
  · exact .bad

theorem rMax_sound {avl : List AV} {vs : Array Value} (h : VL ρ σ I w avl vs) (ts : Array TypeId) (ty : TypeId) : Pev P ρ σ I w (Builtin.max_ ts ty vs) (rMax avl σ) := by
  have hsz := h.1
  obtain ⟨vs⟩ := vs
  unfold rMax
  split
  · match vs, hsz with
    | [v], _ =>
      have h0 := (h.2 0 _ rfl).d_inv.int_inv
      simp at h0; subst h0
      exact .ok rfl (.d (.int _ _))
  · match vs, hsz with
    | [v, u], _ =>
      have h0 := (h.2 0 _ rfl).d_inv.int_inv
      have h1 := (h.2 1 _ rfl).d_inv.int_inv
      simp at h0 h1; subst h0 h1
      exact .ok rfl (.d (.int _ _))
  · exact .bad

/-- What an operation that is no call of a function does. -/
def OpEff (P : Program) (ρ : RHO) (σ : ST) (I : Nat → Prop) (w : World) (s : Sem Next) (r : Res) : Prop :=
  ∀ R : AV → ST → Prop, r.holds R → ∃ nx v av w' ρ' I' σ', s.run P w = .ok nx w' ∧ (nx = .value v ∨ (nx = .skip ∧ v = undef)) ∧ Step ρ I w σ ρ' I' w' σ' ∧ RS P ρ' I' w' σ' ∧ V ρ' σ' I' w' av v ∧ R av σ'

theorem Eff.op {s : Sem Value} {r : Res} (h : Eff P ρ σ I w s r) : OpEff P ρ σ I w (do pure (.value (← s))) r := fun R hR =>
  let ⟨v, av, w', ρ', I', σ', h1, h2⟩ := h R hR
  ⟨.value v, v, av, w', ρ', I', σ', by simp [h1], .inl rfl, h2⟩

theorem EffU.op {s : Sem Unit} {r : Res} (h : EffU P ρ σ I w s r) : OpEff P ρ σ I w (do s; pure .skip) r := fun R hR =>
  let ⟨av, w', ρ', I', σ', h1, h2⟩ := h R hR
  ⟨.skip, undef, av, w', ρ', I', σ', by simp [h1], .inr ⟨rfl, rfl⟩, h2⟩

theorem OpEff.bad {s : Sem Next} : OpEff P ρ σ I w s .bad := fun _ h => h.elim

theorem rMove_sound (hr : RS P ρ I w σ) (h : Hint) (x : AV) (v : Value) (hx : V ρ σ I w x v) : Eff P ρ σ I w (pure v) (rMove h x σ) := by
  cases h with
  | no => exact Pev.eff hr (.ok rfl hx)
  | freeze => exact rFreeze_sound hr x v hx rfl
  | own e => exact rNilOwn_sound hr e x v hx rfl
  | lst e => exact rNilList_sound hr e x v hx rfl

theorem rFin_sound (h : Hint) {s : Sem Value} {r : Res} (hs : Eff P ρ σ I w s r) : Eff P ρ σ I w s (rFin h r) := by
  have key : Eff P ρ σ I w s (r.andThen (rMove h)) := by
    intro R hR
    obtain ⟨v, av, w', ρ', I', σ', h1, h2, h3, h4, h5⟩ := hs _ (holds_andThen.1 hR)
    obtain ⟨v2, av2, w2, ρ2, I2, σ2, k1, k2, k3, k4, k5⟩ := rMove_sound (P := P) h3 h av v h4 R h5
    simp only [Sem.run_pure, Result.ok.injEq] at k1
    obtain ⟨rfl, rfl⟩ := k1
    exact ⟨v, av2, w', ρ2, I2, σ2, h1, h2.trans k2, k3, k4, k5⟩
  cases h with
  | no => exact hs
  | freeze => exact key
  | own e => exact key
  | lst e => exact key

theorem evalOp_sound (hr : RS P ρ I w σ) {fr : FR} {a : Act} (hf : VF ρ σ I w fr a) (h : Hint) (o : Oper) : OpEff P ρ σ I w (execOp a.eval o) (evalOp P h o.type fr σ o.op) := by
  unfold execOp
  cases hop : o.op <;> simp only [evalOp] <;> try exact OpEff.bad
  case move x => exact Eff.op (rMove_sound hr h _ _ (hf.eval x))
  case assign x => exact Eff.op (rMove_sound hr h _ _ (hf.eval x))
  case pick c x y =>
    have := Eff.op (Pev.eff hr (pick_sound (P := P) (hf.eval c) (hf.eval x) (hf.eval y)))
    intro R hR
    obtain ⟨nx, v, av, w', ρ', I', σ', h1, h2⟩ := this R hR
    exact ⟨nx, v, av, w', ρ', I', σ', by simpa using h1, h2⟩
  case alloc t => exact Eff.op (rAlloc_sound hr t)
  case box t x => exact Eff.op (rBox_sound hr t _ _ (hf.eval x))
  case build t ps => exact Eff.op (Pev.eff hr (rBuild_sound t _ _ (hf.vp ps)))
  case buildSlice t n ps => exact Eff.op (rFin_sound h (rBuildSlice_sound hr t n _ _ (hf.vp ps)))
  case load t x => exact Eff.op (Pev.eff hr (rLoad_sound hr t _ _ (hf.eval x)))
  case store t x y => exact EffU.op (rStore_sound hr t _ _ _ _ (hf.eval x) (hf.eval y))
  case nilCheck x =>
    intro R hR
    have hne : rNil (aeval fr x) σ ≠ .bad := by intro e; rw [e] at hR; exact hR.elim
    obtain ⟨h1, h2, h3, h4, h5⟩ := rNil_sound _ _ (hf.eval x) hne
    rw [h1] at hR
    refine ⟨.value (a.eval x), a.eval x, _, w, ρ, I, σ, ?_, .inl rfl, Step.refl _ _ _ _, hr, hf.eval x, hR⟩
    generalize a.eval x = v at *
    cases v with
    | pointer p => cases p <;> first | exact absurd rfl h2 | rfl
    | nilIface => exact absurd rfl h3
    | nilFunc => exact absurd rfl h4
    | func f fs cs => cases f <;> first | exact absurd rfl (h5 _ _ _) | rfl
    | _ => rfl
  case binOp op t x y yt => exact Eff.op (Pev.eff hr (rBin_sound op t _ _ _ _ _ x y (fun h => by simpa using h) (hf.eval x) (hf.eval y)))
  case unOp op t x => exact Eff.op (Pev.eff hr (rUn_sound op _ _ (hf.eval x)))
  case convert s d x => exact Eff.op (Pev.eff hr (rCv_sound hr s d _ _ (hf.eval x)))
  case makeInterface t x => exact Eff.op (Pev.eff hr (rIface_sound t _ _ (hf.eval x)))
  case makeFunc f fs cs => exact Eff.op (Pev.eff hr (rFunc_sound f _ _ _ _ (hf.vl fs) (hf.vl cs)))
  case makeSlice t l c => exact Eff.op (rMake_sound hr t _ _ _ _ (hf.eval l) (hf.eval c))
  case slice t x lo hi mx =>
    cases mx with
    | some m => exact OpEff.bad
    | none =>
      refine Eff.op (Pev.eff hr (rSlice_sound hr t _ _ _ _ _ _ (hf.eval x) (fun y hy => ?_) (fun hn => ?_) (fun y hy => ?_) (fun hn => ?_)))
      · cases lo with
        | none => cases hy
        | some l => cases hy; exact ⟨_, rfl, hf.eval l⟩
      · cases lo with
        | none => rfl
        | some l => cases hn
      · cases hi with
        | none => cases hy
        | some l => cases hy; exact ⟨_, rfl, hf.eval l⟩
      · cases hi with
        | none => rfl
        | some l => cases hn
  case fieldAddr s x f => exact Eff.op (Pev.eff hr (rField_sound s f _ _ (hf.eval x)))
  case field s x f => exact Eff.op (Pev.eff hr (rFieldV_sound s f _ _ (hf.eval x)))
  case indexAddr t x i => exact Eff.op (Pev.eff hr (rIndex_sound t _ _ _ _ (hf.eval x) (hf.eval i)))
  case index t x i => exact Eff.op (Pev.eff hr (rIndexV_sound t _ _ _ _ (hf.eval x) (hf.eval i)))
  case makeMap t r =>
    cases r with
    | some m => exact OpEff.bad
    | none => exact Eff.op (rMakeMap_sound hr t)
  case typeAssert x u t ok => exact Eff.op (Pev.eff hr (rAssert_sound u t _ _ ok (hf.eval x)))
  case lookup t x k ok => exact Eff.op (Pev.eff hr (rLookup_sound hr t _ _ _ _ ok (hf.eval x) (hf.eval k)))
  case mapUpdate t m k x => exact EffU.op (rMapUpdate_sound hr t _ _ _ _ _ _ (hf.eval m) (hf.eval k) (hf.eval x))
  case range t x => exact Eff.op (rRange_sound hr t _ _ (hf.eval x))
  case next x str => exact Eff.op (rNext_sound hr _ _ str o.type (hf.eval x))
  case extract x i => exact Eff.op (Pev.eff hr (rExtract_sound _ _ i (hf.eval x)))
  case call c =>
    obtain ⟨callee, args, ts⟩ := c
    cases callee with
    | value f => exact OpEff.bad
    | invoke r m => exact OpEff.bad
    | builtin b =>
      have hvl := hf.vl args
      have hargs : (args.map a.eval).size = args.size := by simp
      simp only [resolve]
      have key : ∀ (s : Sem Value) r, Eff P ρ σ I w s r → (builtin b ts o.type (args.map fun | .const _ => true | _ => false) (args.map a.eval) = do pure (.value (← s))) → rBuiltin P b o.type ts.toList (args.toList.map (aeval fr)) σ = r →
          OpEff P ρ σ I w (do let d ← (pure { target := .builtin b ts o.type (args.map fun | .const _ => true | _ => false), args := args.map a.eval } : Sem Deferred); invoke d.target d.args) (rFin h (rBuiltin P b o.type ts.toList (args.toList.map (aeval fr)) σ)) := by
        intro s r hs he hre
        rw [hre]
        have := (rFin_sound h hs).op
        intro R hR
        obtain ⟨nx, v, av, w', ρ', I', σ', h1, h2⟩ := this R hR
        refine ⟨nx, v, av, w', ρ', I', σ', ?_, h2⟩
        simp only [Sem.run_bind, Sem.run_pure, Result.andThen_ok, invoke, he]
        simpa using h1
      generalize hA : args.toList.map (aeval fr) = avl at *
      generalize hV : args.map a.eval = vs at *
      generalize hT : ts.toList = tl at *
      generalize hC : (args.map fun | .const _ => true | _ => false) = cs at *
      by_cases hb : rBuiltin P b o.type tl avl σ = .bad
      · rw [hb]; cases h <;> exact OpEff.bad
      · unfold rBuiltin at hb
        split at hb
        · rename_i t tr x
          have hts : ts[0]? = some t := by rw [← Array.getElem?_toList, hT]; rfl
          obtain ⟨vs⟩ := vs
          match vs, hvl with
          | [v], hvl => exact key _ _ (Pev.eff hr (rLen_sound t o.type ts x v hts (by simpa using hvl.2 0 _ rfl))) rfl rfl
        · rename_i t xt tr s x
          have hts : ts[0]? = some t := by rw [← Array.getElem?_toList, hT]; rfl
          have hts1 : ts[1]? = some xt := by rw [← Array.getElem?_toList, hT]; rfl
          obtain ⟨vs⟩ := vs
          match vs, hvl with
          | [v, u], hvl => exact key _ _ (rAppend_sound hr t xt o.type ts s x v u hts hts1 (by simpa using hvl.2 0 _ rfl) (by simpa using hvl.2 1 _ rfl)) rfl rfl
        · exact key _ _ (Pev.eff hr (rMin_sound hvl ts o.type)) rfl (by cases tl <;> rfl)
        · exact key _ _ (Pev.eff hr (rMax_sound hvl ts o.type)) rfl (by cases tl <;> rfl)
        · rename_i tr x
          obtain ⟨vs⟩ := vs
          match vs, hvl with
          | [v], hvl => exact key _ _ (rUSD_sound hr ts o.type x v (by simpa using hvl.2 0 _ rfl)) rfl (by cases tl <;> rfl)
        · rename_i t tr x n
          have hts : ts[0]? = some t := by rw [← Array.getElem?_toList, hT]; rfl
          obtain ⟨vs⟩ := vs
          match vs, hvl with
          | [v, u], hvl => exact key _ _ (rUStr_sound hr t o.type ts x n v u hts (by simpa using hvl.2 0 _ rfl) (by simpa using hvl.2 1 _ rfl)) rfl rfl
        · rename_i t tr s x
          have hts : ts[0]? = some t := by rw [← Array.getElem?_toList, hT]; rfl
          obtain ⟨vs⟩ := vs
          match vs, hvl with
          | [v, u], hvl => exact key _ _ (rCopy_sound hr t o.type ts s x v u hts (by simpa using hvl.2 0 _ rfl) (by simpa using hvl.2 1 _ rfl)) rfl rfl
        · exact absurd rfl hb

theorem convA_sound (hr : RS P ρ I w σ) {fr : FR} {a : Act} (hf : VF ρ σ I w fr a) (o : Oper) {s d : TypeId} {x : Operand} (hop : o.op = .convert s d x) : OpEff P ρ σ I w (execOp a.eval o) (rCvA P s d (aeval fr x) σ) := by
  simp only [execOp, hop]
  exact Eff.op (rCvA_sound hr s d _ _ (hf.eval x))
end
end Nv
