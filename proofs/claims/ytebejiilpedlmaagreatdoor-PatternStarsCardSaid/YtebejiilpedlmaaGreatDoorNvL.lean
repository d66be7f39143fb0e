/- Part of a proof about the functions of this seat. -/
import Derived.Test.YtebejiilpedlmaaGreatDoorNvK
import Derived.Orders
/- The code of a function in the abstract layer: its weakest precondition, and soundness. -/

set_option linter.unusedVariables false
set_option linter.unusedSimpArgs false
namespace Nv
open Go

def calleeOf : AV → Option (FuncId × List AV × List AV)
  | .d (.func (.func g)) => some (g, [], [])
  | .func (.func g) first cap => some (g, first, cap)
  | _ => none

def plainFn (P : Program) (g : FuncId) : Bool :=
  match P.funcs[g]? with
  | some fn => !(fn.name == "runtime.NumGoroutine") && fn.body.isSome
  | none => false

def outK (K E : AV → ST → Prop) : Out → ST → Prop
  | .ret v, σ => K v σ
  | .panic x, σ => E x σ
theorem outK_ret (K E : AV → ST → Prop) (v : AV) (σ : ST) : outK K E (.ret v) σ = K v σ := rfl
theorem outK_panic (K E : AV → ST → Prop) (v : AV) (σ : ST) : outK K E (.panic v) σ = E v σ := rfl

/-- internal/abi.NoEscape and its like: the argument avl it is. -/
def NoEsc (P : Program) (g : FuncId) : Prop := ∃ fn, P.funcs[g]? = some fn ∧ (fn.name == "runtime.NumGoroutine") = false ∧ fn.body.isNone = true ∧ Extern.findNext fn = none ∧ Extern.find fn = some Extern.AbiNoEscape.same
def escA (K : AV → ST → Prop) (args : List AV) (σ : ST) : Prop :=
  match args with
  | [x] => K x σ
  | _ => False
def callB (P : Program) (g : FuncId) (args : List AV) (σ : ST) (K E : AV → ST → Prop) : Prop := bif plainFn P g then ACall P g args σ (outK K E) else (NoEsc P g ∧ escA K args σ)

def callA (P : Program) (f : AV) (args : List AV) (σ : ST) (K E : AV → ST → Prop) : Prop :=
  match calleeOf f with
  | some (g, first, cap) => callB P g (first ++ args ++ cap) σ K E
  | none => False
theorem callA_congr {P : Program} {f f' : AV} {args args' : List AV} {σ σ' : ST} {K E : AV → ST → Prop} (h0 : f = f') (h1 : args = args') (h2 : σ = σ') : callA P f args σ K E = callA P f' args' σ' K E := by rw [h0, h1, h2]
theorem callA_func (P : Program) (g : FuncId) (args : List AV) (σ : ST) (K E : AV → ST → Prop) : callA P (.d (.func (.func g))) args σ K E = callB P g args σ K E := by
  simp [callA, calleeOf]
theorem callA_clo (P : Program) (g : FuncId) (first cap : List AV) (args : List AV) (σ : ST) (K E : AV → ST → Prop) : callA P (.func (.func g) first cap) args σ K E = callB P g (first ++ args ++ cap) σ K E := rfl
theorem escA_mono {K K' : AV → ST → Prop} (hK : ∀ v σ, K v σ → K' v σ) {args : List AV} {σ : ST} (h : escA K args σ) : escA K' args σ := by
  unfold escA at *
  split at h
  · exact hK _ _ h
  · exact h

/-- A panic with a value of an interface type. -/
def panicA (x : AV) (σ : ST) (E : AV → ST → Prop) : Prop :=
  match x with
  | .iface _ _ => E x σ
  | .d (.iface _ _) => E x σ
  | _ => False
theorem panicA_mono {x : AV} {σ : ST} {E E' : AV → ST → Prop} (hE : ∀ v σ, E v σ → E' v σ) (h : panicA x σ E) : panicA x σ E' := by
  unfold panicA at *
  split at h
  · exact hE _ _ h
  · exact hE _ _ h
  · exact h

def AOp (P : Program) (h : Nat → Hint) (o : POp) (K E : AV → ST → Prop) (fr : FR) (σ : ST) : Prop :=
  match o.op with
  | .panic x => panicA (aeval fr x) σ E
  | .convert s d x => (rCvA P s d (aeval fr x) σ).holds K
  | .call ⟨.value f, args, _⟩ => callA P (aeval fr f) (args.toList.map (aeval fr)) σ K E
  | op => (evalOp P (hintOf h o.dst) o.type fr σ op).holds K

/-- An operation that is carried out only where a slot holds a given Bool. -/
def gateA (c : AV) (b : Bool) (yes no : Prop) : Prop :=
  match c with
  | .d (.bool c) => bif c == b then yes else no
  | .tuple [] => no
  | _ => False
theorem gateA_congr {c c' : AV} {b : Bool} {y n : Prop} (h : c = c') : gateA c b y n = gateA c' b y n := by rw [h]
theorem gateA_tt (y n : Prop) : gateA (.d (.bool true)) true y n = y := rfl
theorem gateA_tf (y n : Prop) : gateA (.d (.bool true)) false y n = n := rfl
theorem gateA_ft (y n : Prop) : gateA (.d (.bool false)) true y n = n := rfl
theorem gateA_ff (y n : Prop) : gateA (.d (.bool false)) false y n = y := rfl

def AOps (P : Program) (h : Nat → Hint) (Q : Post) : List POp → FR → ST → Prop
  | [], fr, σ => Q .normal fr σ
  | o :: rest, fr, σ =>
    match o.guard with
    | none => AOp P h o (fun v σ' => AOps P h Q rest (put fr o.dst v) σ') (fun x σ' => Q (.panic x) fr σ') fr σ
    | some (g, b) => gateA (fr g) b (AOp P h o (fun v σ' => AOps P h Q rest (put fr o.dst v) σ') (fun x σ' => Q (.panic x) fr σ') fr σ) (AOps P h Q rest (put fr o.dst (.tuple [])) σ)

def condA (c : AV) (x y : Prop) : Prop :=
  match c with
  | .d (.bool c) => bif c then x else y
  | _ => False
theorem condA_congr {c c' : AV} {x y : Prop} (h : c = c') : condA c x y = condA c' x y := by rw [h]
theorem condA_true (x y : Prop) : condA (.d (.bool true)) x y = x := rfl
theorem condA_false (x y : Prop) : condA (.d (.bool false)) x y = y := rfl

def thenA (next : FR → ST → Prop) (Q : Post) : Post
  | .normal, fr, σ => next fr σ
  | e, fr, σ => Q e fr σ
theorem thenA_normal (next : FR → ST → Prop) (Q : Post) (fr : FR) (σ : ST) : thenA next Q .normal fr σ = next fr σ := rfl
theorem thenA_ret (next : FR → ST → Prop) (Q : Post) (fr : FR) (σ : ST) : thenA next Q .ret fr σ = Q .ret fr σ := rfl
theorem thenA_exit (next : FR → ST → Prop) (Q : Post) (i : Nat) (fr : FR) (σ : ST) : thenA next Q (.exit i) fr σ = Q (.exit i) fr σ := rfl
theorem thenA_panic (next : FR → ST → Prop) (Q : Post) (x : AV) (fr : FR) (σ : ST) : thenA next Q (.panic x) fr σ = Q (.panic x) fr σ := rfl

def blockA (id : Nat) (Q : Post) : Post
  | .exit i, fr, σ => if i = id then Q .normal fr σ else Q (.exit i) fr σ
  | e, fr, σ => Q e fr σ
theorem blockA_normal (id : Nat) (Q : Post) (fr : FR) (σ : ST) : blockA id Q .normal fr σ = Q .normal fr σ := rfl
theorem blockA_ret (id : Nat) (Q : Post) (fr : FR) (σ : ST) : blockA id Q .ret fr σ = Q .ret fr σ := rfl
theorem blockA_exit (id i : Nat) (Q : Post) (fr : FR) (σ : ST) : blockA id Q (.exit i) fr σ = if i = id then Q .normal fr σ else Q (.exit i) fr σ := rfl
theorem blockA_panic (id : Nat) (Q : Post) (x : AV) (fr : FR) (σ : ST) : blockA id Q (.panic x) fr σ = Q (.panic x) fr σ := rfl

/-- An operation in a region whose order is open: a call comes to one value and leaves the store. -/
def DOp (P : Program) (h : Nat → Hint) (o : POp) (R : AV → ST → Prop) (fr : FR) (σ : ST) : Prop :=
  match o.op with
  | .call ⟨.value f, args, _⟩ => ∃ v, callA P (aeval fr f) (args.toList.map (aeval fr)) σ (fun v' σ' => v' = v ∧ σ' = σ) (fun _ _ => False) ∧ R v σ
  | op => (evalOp P (hintOf h o.dst) o.type fr σ op).dholds R

/-- The operation comes to this value and leaves this store. -/
def Again (P : Program) (h : Nat → Hint) (o : POp) (fr : FR) (v : AV) (τ : ST) : Prop := DOp P h o (fun v' τ' => v' = v ∧ τ' = τ) fr τ

structure PD where
  o : POp
  fr : FR
  v : AV
def PD.ok (P : Program) (h : Nat → Hint) (p : PD) (τ : ST) : Prop := Again P h p.o p.fr p.v τ

def dNext (P : Program) (h : Nat → Hint) (o : DP) (past : List ST) (pend : List PD) (fr : FR) (σ : ST) (v : AV) (σ' : ST) : Prop :=
  match o.eff with
  | true => ∀ p, p ∈ pend → p.ok P h σ'
  | false => σ' = σ ∧ (o.back = true → ∀ τ, τ ∈ past → Again P h o.o fr v τ)
def dPend (o : DP) (pend : List PD) (fr : FR) (v : AV) : List PD := bif o.fwd && !o.eff then ⟨⟨o.o.dst, o.o.op, o.o.type, none⟩, fr, v⟩ :: pend else pend
def dPast (o : DP) (past : List ST) (σ : ST) : List ST := bif o.eff then σ :: past else past

def DOps (P : Program) (h : Nat → Hint) (K : FR → ST → Prop) : List DP → List ST → List PD → FR → ST → Prop
  | [], _, _, fr, σ => K fr σ
  | o :: rest, past, pend, fr, σ =>
    match o.o.guard with
    | none => DOp P h o.o (fun v σ' => dNext P h o past pend fr σ v σ' ∧ DOps P h K rest (dPast o past σ) (dPend o pend fr v) (put fr o.o.dst v) σ') fr σ
    | some (g, b) => gateA (fr g) b (DOp P h o.o (fun v σ' => dNext P h o past pend fr σ v σ' ∧ DOps P h K rest (dPast o past σ) (dPend o pend fr v) (put fr o.o.dst v) σ') fr σ)
        (DOps P h K rest past pend (put fr o.o.dst (.tuple [])) σ)

def LoopW (B : Post → FR → ST → Prop) (Q : Post) (fr : FR) (σ : ST) : Prop :=
  ∀ X : FR → ST → Prop, (∀ fr σ, B (thenA X Q) fr σ → X fr σ) → X fr σ

def W (P : Program) (h : Nat → Hint) : PC → Post → FR → ST → Prop
  | .skip, Q, fr, σ => Q .normal fr σ
  | .ret, Q, fr, σ => Q .ret fr σ
  | .other, _, _, _ => False
  | .exit id, Q, fr, σ => Q (.exit id) fr σ
  | .seq a b, Q, fr, σ => W P h a (thenA (fun fr σ => W P h b Q fr σ) Q) fr σ
  | .cond c x y, Q, fr, σ => condA (aeval fr c) (W P h x Q fr σ) (W P h y Q fr σ)
  | .block id b, Q, fr, σ => W P h b (blockA id Q) fr σ
  | .loop b, Q, fr, σ => LoopW (fun Q fr σ => W P h b Q fr σ) Q fr σ
  | .region ops, Q, fr, σ => AOps P h Q ops fr σ
  | .draw ops, Q, fr, σ => DOps P h (fun fr' σ' => Q .normal fr' σ') ops [] [] fr σ

theorem W_congr {P : Program} {h : Nat → Hint} {c : PC} {Q : Post} {fr fr' : FR} {σ σ' : ST} (h1 : fr = fr') (h2 : σ = σ') : W P h c Q fr σ = W P h c Q fr' σ' := by rw [h1, h2]
theorem AOps_congr {P : Program} {h : Nat → Hint} {c : List POp} {Q : Post} {fr fr' : FR} {σ σ' : ST} (h1 : fr = fr') (h2 : σ = σ') : AOps P h Q c fr σ = AOps P h Q c fr' σ' := by rw [h1, h2]
theorem AOp_congr {P : Program} {h : Nat → Hint} {o : POp} {K E : AV → ST → Prop} {fr fr' : FR} {σ σ' : ST} (h1 : fr = fr') (h2 : σ = σ') : AOp P h o K E fr σ = AOp P h o K E fr' σ' := by rw [h1, h2]
theorem thenA_congr {next : FR → ST → Prop} {Q : Post} {e e' : AExit} {fr fr' : FR} {σ σ' : ST} (h0 : e = e') (h1 : fr = fr') (h2 : σ = σ') : thenA next Q e fr σ = thenA next Q e' fr' σ' := by rw [h0, h1, h2]
theorem blockA_congr {id : Nat} {Q : Post} {e e' : AExit} {fr fr' : FR} {σ σ' : ST} (h0 : e = e') (h1 : fr = fr') (h2 : σ = σ') : blockA id Q e fr σ = blockA id Q e' fr' σ' := by rw [h0, h1, h2]
theorem LoopW_congr {B : Post → FR → ST → Prop} {Q : Post} {fr fr' : FR} {σ σ' : ST} (h1 : fr = fr') (h2 : σ = σ') : LoopW B Q fr σ = LoopW B Q fr' σ' := by rw [h1, h2]
theorem outK_congr {K E : AV → ST → Prop} {o o' : Out} {σ σ' : ST} (h1 : o = o') (h2 : σ = σ') : outK K E o σ = outK K E o' σ' := by rw [h1, h2]

section
variable {P : Program} {h : Nat → Hint} {Q : Post} {fr : FR} {σ : ST}
theorem W_skip : W P h .skip Q fr σ = Q .normal fr σ := rfl
theorem W_ret : W P h .ret Q fr σ = Q .ret fr σ := rfl
theorem W_exit (id : Nat) : W P h (.exit id) Q fr σ = Q (.exit id) fr σ := rfl
theorem W_seq (a b : PC) : W P h (.seq a b) Q fr σ = W P h a (thenA (fun fr σ => W P h b Q fr σ) Q) fr σ := rfl
theorem W_cond (c : Operand) (x y : PC) : W P h (.cond c x y) Q fr σ = condA (aeval fr c) (W P h x Q fr σ) (W P h y Q fr σ) := rfl
theorem W_block (id : Nat) (b : PC) : W P h (.block id b) Q fr σ = W P h b (blockA id Q) fr σ := rfl
theorem W_loop (b : PC) : W P h (.loop b) Q fr σ = LoopW (fun Q fr σ => W P h b Q fr σ) Q fr σ := rfl
theorem W_region (ops : List POp) : W P h (.region ops) Q fr σ = AOps P h Q ops fr σ := rfl
theorem AOps_nil : AOps P h Q [] fr σ = Q .normal fr σ := rfl
theorem AOps_none (d : Option Nat) (op : Op) (t : Nat) (rest : List POp) : AOps P h Q (⟨d, op, t, none⟩ :: rest) fr σ =
    AOp P h ⟨d, op, t, none⟩ (fun v σ' => AOps P h Q rest (put fr d v) σ') (fun x σ' => Q (.panic x) fr σ') fr σ := rfl
theorem AOps_some (d : Option Nat) (op : Op) (t g : Nat) (b : Bool) (rest : List POp) : AOps P h Q (⟨d, op, t, some (g, b)⟩ :: rest) fr σ =
    gateA (fr g) b (AOp P h ⟨d, op, t, none⟩ (fun v σ' => AOps P h Q rest (put fr d v) σ') (fun x σ' => Q (.panic x) fr σ') fr σ) (AOps P h Q rest (put fr d (.tuple [])) σ) := rfl
variable {K E : AV → ST → Prop} {d : Option Nat} {t : Nat} {gd : Option (Nat × Bool)}
theorem AOp_call (f : Operand) (args : List Operand) (ts : Array Nat) : AOp P h ⟨d, .call ⟨.value f, ⟨args⟩, ts⟩, t, gd⟩ K E fr σ = callA P (aeval fr f) (args.map (aeval fr)) σ K E := rfl
theorem AOp_builtin (b : Builtin) (args : List Operand) (ts : List Nat) : AOp P h ⟨d, .call ⟨.builtin b, ⟨args⟩, ⟨ts⟩⟩, t, gd⟩ K E fr σ = (rFin (hintOf h d) (rBuiltin P b t ts (args.map (aeval fr)) σ)).holds K := rfl
theorem AOp_move (x : Operand) : AOp P h ⟨d, .move x, t, gd⟩ K E fr σ = (rMove (hintOf h d) (aeval fr x) σ).holds K := rfl
theorem AOp_assign (x : Operand) : AOp P h ⟨d, .assign x, t, gd⟩ K E fr σ = (rMove (hintOf h d) (aeval fr x) σ).holds K := rfl
theorem AOp_pick (c a b : Operand) : AOp P h ⟨d, .pick c a b, t, gd⟩ K E fr σ = (rPick (aeval fr c) (aeval fr a) (aeval fr b) σ).holds K := rfl
theorem AOp_alloc (u : Nat) : AOp P h ⟨d, .alloc u, t, gd⟩ K E fr σ = (rBox u (zeroA P u) σ).holds K := rfl
theorem AOp_box (u : Nat) (x : Operand) : AOp P h ⟨d, .box u x, t, gd⟩ K E fr σ = (rBox u (aeval fr x) σ).holds K := rfl
theorem AOp_build (u : Nat) (ps : List (Nat × Operand)) : AOp P h ⟨d, .build u ⟨ps⟩, t, gd⟩ K E fr σ = (rBuild P u (ps.map fun p => (p.1, aeval fr p.2)) σ).holds K := rfl
theorem AOp_buildSlice (u n : Nat) (ps : List (Nat × Operand)) : AOp P h ⟨d, .buildSlice u n ⟨ps⟩, t, gd⟩ K E fr σ = (rFin (hintOf h d) (rBuildSlice P u n (ps.map fun p => (p.1, aeval fr p.2)) σ)).holds K := rfl
theorem AOp_load (u : Nat) (x : Operand) : AOp P h ⟨d, .load u x, t, gd⟩ K E fr σ = (rLoad P u (aeval fr x) σ).holds K := rfl
theorem AOp_store (u : Nat) (x y : Operand) : AOp P h ⟨d, .store u x y, t, gd⟩ K E fr σ = (rStore P u (aeval fr x) (aeval fr y) σ).holds K := rfl
theorem AOp_nilCheck (x : Operand) : AOp P h ⟨d, .nilCheck x, t, gd⟩ K E fr σ = (rNil (aeval fr x) σ).holds K := rfl
theorem AOp_binOp (op : BinOp) (u : Nat) (x y : Operand) (u' : Nat) : AOp P h ⟨d, .binOp op u x y u', t, gd⟩ K E fr σ = (rBin P op u (isC x || isC y) (aeval fr x) (aeval fr y) σ).holds K := rfl
theorem AOp_unOp (op : UnOp) (u : Nat) (x : Operand) : AOp P h ⟨d, .unOp op u x, t, gd⟩ K E fr σ = (rUn op (aeval fr x) σ).holds K := rfl
theorem AOp_convert (u v : Nat) (x : Operand) : AOp P h ⟨d, .convert u v x, t, gd⟩ K E fr σ = (rCvA P u v (aeval fr x) σ).holds K := rfl
theorem AOp_makeInterface (u : Nat) (x : Operand) : AOp P h ⟨d, .makeInterface u x, t, gd⟩ K E fr σ = (rIface P u (aeval fr x) σ).holds K := rfl
theorem AOp_makeFunc (f : Fn) (a b : List Operand) : AOp P h ⟨d, .makeFunc f ⟨a⟩ ⟨b⟩, t, gd⟩ K E fr σ = (rFunc f (a.map (aeval fr)) (b.map (aeval fr)) σ).holds K := rfl
theorem AOp_makeSlice (u : Nat) (x y : Operand) : AOp P h ⟨d, .makeSlice u x y, t, gd⟩ K E fr σ = (rMake P u (aeval fr x) (aeval fr y) σ).holds K := rfl
theorem AOp_slice (u : Nat) (x : Operand) (lo hi : Option Operand) : AOp P h ⟨d, .slice u x lo hi none, t, gd⟩ K E fr σ = (rSlice P u (aeval fr x) (lo.map (aeval fr)) (hi.map (aeval fr)) σ).holds K := rfl
theorem AOp_fieldAddr (u : Nat) (x : Operand) (f : Nat) : AOp P h ⟨d, .fieldAddr u x f, t, gd⟩ K E fr σ = (rField P u f (aeval fr x) σ).holds K := rfl
theorem AOp_field (u : Nat) (x : Operand) (f : Nat) : AOp P h ⟨d, .field u x f, t, gd⟩ K E fr σ = (rFieldV P u f (aeval fr x) σ).holds K := rfl
theorem AOp_indexAddr (u : Nat) (x y : Operand) : AOp P h ⟨d, .indexAddr u x y, t, gd⟩ K E fr σ = (rIndex P u (aeval fr x) (aeval fr y) σ).holds K := rfl
theorem AOp_index (u : Nat) (x y : Operand) : AOp P h ⟨d, .index u x y, t, gd⟩ K E fr σ = (rIndexV P u (aeval fr x) (aeval fr y) σ).holds K := rfl
theorem AOp_range (u : Nat) (x : Operand) : AOp P h ⟨d, .range u x, t, gd⟩ K E fr σ = (rRange P u (aeval fr x) σ).holds K := rfl
theorem AOp_next (x : Operand) (b : Bool) : AOp P h ⟨d, .next x b, t, gd⟩ K E fr σ = (rNext (aeval fr x) b σ).holds K := rfl
theorem AOp_extract (x : Operand) (i : Nat) : AOp P h ⟨d, .extract x i, t, gd⟩ K E fr σ = (rExtract (aeval fr x) i σ).holds K := rfl
end

/- what follows holds of less -/
theorem Res.mono {r : Res} {R R' : AV → ST → Prop} (hR : ∀ v σ, R v σ → R' v σ) (h : r.holds R) : r.holds R' := by
  induction r with
  | ok v σ => exact hR _ _ h
  | need p r ih => exact ⟨h.1, ih h.2⟩
  | both a b iha ihb => exact ⟨iha h.1, ihb h.2⟩
  | bad => exact h
theorem Res.dmono {r : Res} {R R' : AV → ST → Prop} (hR : ∀ v σ, R v σ → R' v σ) (h : r.dholds R) : r.dholds R' := by
  induction r with
  | ok v σ => exact hR _ _ h
  | need p r ih => exact ⟨h.1, ih h.2⟩
  | both a b => exact h.elim
  | bad => exact h

section
variable {P : Program} {h : Nat → Hint}
theorem outK_mono {K K' E E' : AV → ST → Prop} (hK : ∀ v σ, K v σ → K' v σ) (hE : ∀ v σ, E v σ → E' v σ) (o : Out) (σ : ST) (hh : outK K E o σ) : outK K' E' o σ := by
  cases o <;> first | exact hK _ _ hh | exact hE _ _ hh

theorem AOp_mono {o : POp} {K K' E E' : AV → ST → Prop} {fr : FR} {σ : ST} (hK : ∀ v σ, K v σ → K' v σ) (hE : ∀ v σ, E v σ → E' v σ) (hh : AOp P h o K E fr σ) : AOp P h o K' E' fr σ := by
  unfold AOp at *
  split at hh
  · exact panicA_mono hE hh
  · exact Res.mono hK hh
  · unfold callA at *
    split at hh
    · rename_i g first cap _
      unfold callB at *
      cases hp : plainFn P g
      · rw [hp] at hh; exact ⟨hh.1, escA_mono hK hh.2⟩
      · rw [hp] at hh; exact ACall.mono hh fun oc σ' => outK_mono hK hE oc σ'
    · exact hh
  · exact Res.mono hK hh

theorem gateA_mono {c : AV} {b : Bool} {y y' n n' : Prop} (hy : y → y') (hn : n → n') (hh : gateA c b y n) : gateA c b y' n' := by
  unfold gateA at *
  split at hh
  · rename_i c'
    revert hh
    cases c' == b
    · exact hn
    · exact hy
  · exact hn hh
  · exact hh

theorem AOps_mono {Q Q' : Post} (hQ : ∀ e fr σ, Q e fr σ → Q' e fr σ) : ∀ (l : List POp) (fr : FR) (σ : ST), AOps P h Q l fr σ → AOps P h Q' l fr σ
  | [], fr, σ, hh => hQ _ _ _ hh
  | o :: l, fr, σ, hh => by
    unfold AOps at *
    split at hh
    · exact AOp_mono (fun v σ' => AOps_mono hQ l _ _) (fun x σ' => hQ _ _ _) hh
    · exact gateA_mono (AOp_mono (fun v σ' => AOps_mono hQ l _ _) (fun x σ' => hQ _ _ _)) (AOps_mono hQ l _ _) hh

theorem DOp_mono {o : POp} {K K' : AV → ST → Prop} {fr : FR} {σ : ST} (hK : ∀ v σ, K v σ → K' v σ) (hh : DOp P h o K fr σ) : DOp P h o K' fr σ := by
  unfold DOp at *
  split at hh
  · obtain ⟨v, h1, h2⟩ := hh; exact ⟨v, h1, hK _ _ h2⟩
  · exact Res.dmono hK hh

theorem DOps_mono {K K' : FR → ST → Prop} (hK : ∀ fr σ, K fr σ → K' fr σ) : ∀ (l : List DP) (past : List ST) (pend : List PD) (fr : FR) (σ : ST), DOps P h K l past pend fr σ → DOps P h K' l past pend fr σ
  | [], _, _, _, _, hh => hK _ _ hh
  | o :: l, past, pend, fr, σ, hh => by
    unfold DOps at *
    split at hh
    · exact DOp_mono (fun v σ' h => ⟨h.1, DOps_mono hK l _ _ _ _ h.2⟩) hh
    · exact gateA_mono (DOp_mono (fun v σ' h => ⟨h.1, DOps_mono hK l _ _ _ _ h.2⟩)) (DOps_mono hK l _ _ _ _) hh

theorem thenA_mono {X X' : FR → ST → Prop} {Q Q' : Post} (hX : ∀ fr σ, X fr σ → X' fr σ) (hQ : ∀ e fr σ, Q e fr σ → Q' e fr σ) (e : AExit) (fr : FR) (σ : ST) (hh : thenA X Q e fr σ) : thenA X' Q' e fr σ := by
  cases e <;> first | exact hX _ _ hh | exact hQ _ _ _ hh

theorem blockA_mono {id : Nat} {Q Q' : Post} (hQ : ∀ e fr σ, Q e fr σ → Q' e fr σ) (e : AExit) (fr : FR) (σ : ST) (hh : blockA id Q e fr σ) : blockA id Q' e fr σ := by
  cases e <;> simp only [blockA] at hh ⊢ <;> try exact hQ _ _ _ hh
  split at hh
  · rename_i hc; rw [if_pos hc]; exact hQ _ _ _ hh
  · rename_i hc; rw [if_neg hc]; exact hQ _ _ _ hh

theorem W_mono : ∀ (c : PC) {Q Q' : Post}, (∀ e fr σ, Q e fr σ → Q' e fr σ) → ∀ (fr : FR) (σ : ST), W P h c Q fr σ → W P h c Q' fr σ
  | .skip, _, _, hQ, _, _, hh => hQ _ _ _ hh
  | .ret, _, _, hQ, _, _, hh => hQ _ _ _ hh
  | .other, _, _, _, _, _, hh => hh
  | .draw ops, _, _, hQ, fr, σ, hh => DOps_mono (fun fr' σ' h' => hQ _ _ _ h') ops _ _ fr σ hh
  | .exit _, _, _, hQ, _, _, hh => hQ _ _ _ hh
  | .seq a b, _, _, hQ, fr, σ, hh => W_mono a (thenA_mono (W_mono b hQ) hQ) fr σ hh
  | .cond c x y, _, _, hQ, fr, σ, hh => by
    simp only [W] at *
    generalize aeval fr c = v at *
    unfold condA at *
    split at hh
    · rename_i b; cases b
      · exact W_mono y hQ fr σ hh
      · exact W_mono x hQ fr σ hh
    · exact hh
  | .block id b, _, _, hQ, fr, σ, hh => W_mono b (blockA_mono hQ) fr σ hh
  | .loop b, _, _, hQ, fr, σ, hh => fun X hX => hh X fun fr σ hb => hX fr σ (W_mono b (thenA_mono (fun _ _ h => h) hQ) fr σ hb)
  | .region ops, _, _, hQ, fr, σ, hh => AOps_mono hQ ops fr σ hh

/-- One round of a loop. -/
theorem LoopW.step {b : PC} {Q : Post} {fr : FR} {σ : ST} (hh : W P h b (thenA (LoopW (fun Q fr σ => W P h b Q fr σ) Q) Q) fr σ) : LoopW (fun Q fr σ => W P h b Q fr σ) Q fr σ :=
  fun X hX => hX fr σ (W_mono b (thenA_mono (fun fr σ hl => hl X hX) (fun _ _ _ h => h)) fr σ hh)
end
end Nv
/- Regions whose order is open: what an evaluation in the order of the text gives. -/

set_option linter.unusedVariables false
set_option linter.unusedSimpArgs false
namespace Nv
open Go

section
variable {P : Program} {h : Nat → Hint}

theorem Res.split {r : Res} {R : AV → ST → Prop} (hh : r.dholds R) : ∃ v σ', r.holds (fun v' τ => v' = v ∧ τ = σ') ∧ R v σ' := by
  induction r with
  | ok v σ => exact ⟨v, σ, ⟨rfl, rfl⟩, hh⟩
  | need p r ih => obtain ⟨v, σ', h1, h2⟩ := ih hh.2; exact ⟨v, σ', ⟨hh.1, h1⟩, h2⟩
  | both a b => exact hh.elim
  | bad => exact hh.elim

/-- What an operation comes to, and the store after it. -/
def Does (P : Program) (h : Nat → Hint) (o : POp) (fr : FR) (σ : ST) (v : AV) (σ' : ST) : Prop := AOp P h o (fun v' τ => v' = v ∧ τ = σ') (fun _ _ => False) fr σ

theorem DOp.split {o : POp} {R : AV → ST → Prop} {fr : FR} {σ : ST} (hh : DOp P h o R fr σ) : ∃ v σ', Does P h o fr σ v σ' ∧ R v σ' := by
  unfold DOp at hh
  unfold Does AOp
  split at hh
  · rename_i f args ts hop
    rw [hop]
    obtain ⟨v, h1, h2⟩ := hh; exact ⟨v, σ, h1, h2⟩
  · rename_i hne
    split
    · rename_i x hop; rw [hop] at hh; exact hh.elim
    · rename_i s d x hop
      rw [hop] at hh
      have hb : rCv P s d (aeval fr x) σ ≠ .bad := fun hb => by
        simp only [evalOp] at hh
        rw [hb] at hh
        exact hh.elim
      rw [rCvA_of hb]
      exact Res.split hh
    · rename_i f args ts hop; exact absurd hop (hne _ _ _)
    · exact Res.split hh

theorem Again.does {o : POp} {fr : FR} {v : AV} {τ : ST} (hh : Again P h o fr v τ) : Does P h o fr τ v τ := by
  obtain ⟨v', σ', h1, rfl, rfl⟩ := DOp.split hh
  exact h1

def frT : List DP → (Nat → AV) → FR → Nat → FR
  | [], _, fr, _ => fr
  | _, _, fr, 0 => fr
  | o :: l, vs, fr, k + 1 => frT l (fun i => vs (i + 1)) (put fr o.o.dst (vs 0)) k
theorem frT_zero (l : List DP) (vs : Nat → AV) (fr : FR) : frT l vs fr 0 = fr := by cases l <;> rfl
theorem frT_succ : ∀ (l : List DP) (vs : Nat → AV) (fr : FR) (k : Nat) (o : DP), l[k]? = some o → frT l vs fr (k + 1) = put (frT l vs fr k) o.o.dst (vs k)
  | [], _, _, _, _, ho => by simp at ho
  | x :: l, vs, fr, 0, o, ho => by
    simp only [List.getElem?_cons_zero, Option.some.injEq] at ho; subst ho
    simp [frT, frT_zero]
  | x :: l, vs, fr, k + 1, o, ho => by
    simp only [List.getElem?_cons_succ] at ho
    exact frT_succ l _ _ k o ho

/-- Whether an operation is carried out. -/
inductive Gate (o : POp) (fr : FR) : Bool → Prop
  | opn : o.guard = none → Gate o fr true
  | att {g : Nat} {b c : Bool} : o.guard = some (g, b) → fr g = .d (.bool c) → Gate o fr (c == b)
  | un {g : Nat} {b : Bool} : o.guard = some (g, b) → fr g = .tuple [] → Gate o fr false

structure Fact (P : Program) (h : Nat → Hint) (n : Nat) (dp : DP) (fr : FR) (vs : Nat → AV) (ss : Nat → ST) (past : List ST) (i : Nat) : Prop where
  does : Does P h dp.o fr (ss i) (vs i) (ss (i + 1))
  still : dp.eff = false → ss (i + 1) = ss i
  back : dp.eff = false → dp.back = true → (∀ τ, τ ∈ past → Does P h dp.o fr τ (vs i) τ) ∧ ∀ j, j ≤ i → Does P h dp.o fr (ss j) (vs i) (ss j)
  fwd : dp.eff = false → dp.fwd = true → ∀ j, i < j → j ≤ n → Does P h dp.o fr (ss j) (vs i) (ss j)

def Says (P : Program) (h : Nat → Hint) (n : Nat) (dp : DP) (fr : FR) (vs : Nat → AV) (ss : Nat → ST) (past : List ST) (i : Nat) : Prop :=
  (Gate dp.o fr true ∧ Fact P h n dp fr vs ss past i) ∨ (Gate dp.o fr false ∧ vs i = .tuple [] ∧ ss (i + 1) = ss i)

def cons0 {α : Type} (x : α) (f : Nat → α) : Nat → α
  | 0 => x
  | k + 1 => f k

theorem DOps.extract {K : FR → ST → Prop} : ∀ (l : List DP) (past : List ST) (pend : List PD) (fr : FR) (σ : ST), DOps P h K l past pend fr σ →
    ∃ (vs : Nat → AV) (ss : Nat → ST), ss 0 = σ ∧ K (frT l vs fr l.length) (ss l.length) ∧ (∀ p, p ∈ pend → Does P h p.o p.fr σ p.v σ → ∀ j, j ≤ l.length → Does P h p.o p.fr (ss j) p.v (ss j)) ∧
      ∀ i dp, l[i]? = some dp → Says P h l.length dp (frT l vs fr i) vs ss past i
  | [], past, pend, fr, σ, hh => ⟨fun _ => .any, fun _ => σ, rfl, hh, fun p _ hok j _ => hok, fun i dp hi => by simp at hi⟩
  | o :: rest, past, pend, fr, σ, hh => by
    have skip : Gate o.o fr false → DOps P h K rest past pend (put fr o.o.dst (.tuple [])) σ →
        ∃ (vs : Nat → AV) (ss : Nat → ST), ss 0 = σ ∧ K (frT (o :: rest) vs fr (rest.length + 1)) (ss (rest.length + 1)) ∧ (∀ p, p ∈ pend → Does P h p.o p.fr σ p.v σ → ∀ j, j ≤ rest.length + 1 → Does P h p.o p.fr (ss j) p.v (ss j)) ∧
          ∀ i dp, (o :: rest)[i]? = some dp → Says P h (rest.length + 1) dp (frT (o :: rest) vs fr i) vs ss past i := by
      intro hg hd
      obtain ⟨vs, ss, h0, hK, hp, hs⟩ := extract rest _ _ _ _ hd
      refine ⟨cons0 (.tuple []) vs, cons0 σ ss, rfl, hK, fun p hpm hok j hj => ?_, fun i dp hi => ?_⟩
      · cases j with
        | zero => exact hok
        | succ j => exact hp p hpm hok j (by omega)
      · cases i with
        | zero =>
          simp only [List.getElem?_cons_zero, Option.some.injEq] at hi; subst hi
          exact .inr ⟨by rw [frT_zero]; exact hg, rfl, h0⟩
        | succ i =>
          simp only [List.getElem?_cons_succ] at hi
          rcases hs i dp hi with ⟨g1, f⟩ | ⟨g1, g2, g3⟩
          · refine .inl ⟨g1, ⟨f.does, f.still, fun he hb => ⟨(f.back he hb).1, fun j hj => ?_⟩, fun he hw j hj hn => ?_⟩⟩
            · cases j with
              | zero => have := (f.back he hb).2 0 (Nat.zero_le _); rw [h0] at this; exact this
              | succ j => exact (f.back he hb).2 j (by omega)
            · cases j with
              | zero => omega
              | succ j => exact f.fwd he hw j (by omega) (by omega)
          · exact .inr ⟨g1, g2, g3⟩
    have run : Gate o.o fr true → DOp P h o.o (fun v σ' => dNext P h o past pend fr σ v σ' ∧ DOps P h K rest (dPast o past σ) (dPend o pend fr v) (put fr o.o.dst v) σ') fr σ →
        ∃ (vs : Nat → AV) (ss : Nat → ST), ss 0 = σ ∧ K (frT (o :: rest) vs fr (rest.length + 1)) (ss (rest.length + 1)) ∧ (∀ p, p ∈ pend → Does P h p.o p.fr σ p.v σ → ∀ j, j ≤ rest.length + 1 → Does P h p.o p.fr (ss j) p.v (ss j)) ∧
          ∀ i dp, (o :: rest)[i]? = some dp → Says P h (rest.length + 1) dp (frT (o :: rest) vs fr i) vs ss past i := by
      intro hg hd
      obtain ⟨v, σ', hdo, hnx, hrest⟩ := DOp.split hd
      obtain ⟨vs, ss, h0, hK, hp, hs⟩ := extract rest _ _ _ _ hrest
      subst h0
      have hsub : ∀ p, p ∈ pend → p ∈ dPend o pend fr v := fun p hpm => by
        unfold dPend; cases o.fwd && !o.eff
        · exact hpm
        · exact List.mem_cons_of_mem _ hpm
      refine ⟨cons0 v vs, cons0 σ ss, rfl, hK, fun p hpm hok j hj => ?_, fun i dp hi => ?_⟩
      · cases j with
        | zero => exact hok
        | succ j =>
          refine hp p (hsub p hpm) ?_ j (by omega)
          unfold dNext at hnx
          cases he : o.eff
          · rw [he] at hnx; rw [hnx.1]; exact hok
          · rw [he] at hnx; exact Again.does (hnx p hpm)
      · cases i with
        | zero =>
          simp only [List.getElem?_cons_zero, Option.some.injEq] at hi; subst hi
          refine .inl ⟨by rw [frT_zero]; exact hg, ⟨by rw [frT_zero]; exact hdo, fun he => ?_, fun he hb => ⟨fun τ hτ => ?_, fun j hj => ?_⟩, fun he hw j hj hn => ?_⟩⟩
          · unfold dNext at hnx; rw [he] at hnx; exact hnx.1
          · unfold dNext at hnx; rw [he] at hnx; rw [frT_zero]; exact Again.does (hnx.2 hb τ hτ)
          · cases j with
            | zero =>
              unfold dNext at hnx; rw [he] at hnx
              have h1 := hnx.1
              rw [frT_zero]
              rw [h1] at hdo
              exact hdo
            | succ j => omega
          · cases j with
            | zero => omega
            | succ j =>
              unfold dNext at hnx; rw [he] at hnx
              have h1 := hnx.1
              rw [frT_zero]
              refine hp ⟨⟨o.o.dst, o.o.op, o.o.type, none⟩, fr, v⟩ ?_ ?_ j (by omega)
              · unfold dPend; rw [hw, he]; exact List.mem_cons_self
              · rw [h1] at hdo ⊢; exact hdo
        | succ i =>
          simp only [List.getElem?_cons_succ] at hi
          rcases hs i dp hi with ⟨g1, f⟩ | ⟨g1, g2, g3⟩
          · have hpast : ∀ τ, τ ∈ past → τ ∈ dPast o past σ := fun τ hτ => by
              unfold dPast; cases o.eff
              · exact hτ
              · exact List.mem_cons_of_mem _ hτ
            refine .inl ⟨g1, ⟨f.does, f.still, fun he hb => ⟨fun τ hτ => (f.back he hb).1 τ (hpast τ hτ), fun j hj => ?_⟩, fun he hw j hj hn => ?_⟩⟩
            · cases j with
              | zero =>
                cases hoe : o.eff
                · unfold dNext at hnx; rw [hoe] at hnx
                  have := (f.back he hb).2 0 (Nat.zero_le _)
                  rw [hnx.1] at this; exact this
                · exact (f.back he hb).1 σ (by unfold dPast; rw [hoe]; exact List.mem_cons_self)
              | succ j => exact (f.back he hb).2 j (by omega)
            · cases j with
              | zero => omega
              | succ j => exact f.fwd he hw j (by omega) (by omega)
          · exact .inr ⟨g1, g2, g3⟩
    unfold DOps at hh
    split at hh
    · rename_i hg
      exact run (.opn hg) hh
    · rename_i g b hg
      unfold gateA at hh
      split at hh
      · rename_i c hc
        cases hcb : c == b
        · rw [hcb] at hh
          exact skip (hcb ▸ .att hg hc) hh
        · rw [hcb] at hh
          exact run (hcb ▸ .att hg hc) hh
      · rename_i hc
        exact skip (.un hg hc) hh
      · exact hh.elim

/- an operation looks at its operands alone -/
theorem map_congr_mem {xs : Array Operand} {fr fr' : FR} (hx : ∀ x, x ∈ xs → aeval fr x = aeval fr' x) : xs.toList.map (aeval fr) = xs.toList.map (aeval fr') :=
  List.map_congr_left fun x hm => hx x (by simpa using hm)
theorem parts_congr {ps : Array (Nat × Operand)} {fr fr' : FR} (hx : ∀ x, x ∈ ps.map (·.2) → aeval fr x = aeval fr' x) : (ps.toList.map fun p => (p.1, aeval fr p.2)) = ps.toList.map fun p => (p.1, aeval fr' p.2) :=
  List.map_congr_left fun p hm => by rw [hx p.2 (Array.mem_map.2 ⟨p, by simpa using hm, rfl⟩)]

theorem evalOp_fr {hh : Hint} {tt : Nat} {op : Op} {fr fr' : FR} {σ : ST} (hx : ∀ x, x ∈ op.operands → aeval fr x = aeval fr' x) : evalOp P hh tt fr σ op = evalOp P hh tt fr' σ op := by
  cases op <;> simp only [Op.operands] at hx <;> try rfl
  case move x => simp only [evalOp, hx x (by simp)]
  case assign x => simp only [evalOp, hx x (by simp)]
  case pick c a b => simp only [evalOp, hx c (by simp), hx a (by simp), hx b (by simp)]
  case box t x => simp only [evalOp, hx x (by simp)]
  case build t ps => simp only [evalOp]; rw [parts_congr (ps := ps) fun x hm => hx x (by simpa using hm)]
  case buildSlice t n ps => simp only [evalOp]; rw [parts_congr (ps := ps) fun x hm => hx x (by simpa using hm)]
  case load t x => simp only [evalOp, hx x (by simp)]
  case store t x y => simp only [evalOp, hx x (by simp), hx y (by simp)]
  case nilCheck x => simp only [evalOp, hx x (by simp)]
  case binOp o t x y u => simp only [evalOp, hx x (by simp), hx y (by simp)]
  case unOp o t x => simp only [evalOp, hx x (by simp)]
  case convert s d x => simp only [evalOp, hx x (by simp)]
  case makeInterface t x => simp only [evalOp, hx x (by simp)]
  case makeFunc f a b => simp only [evalOp]; rw [map_congr_mem (xs := a) fun x hm => hx x (by simp [hm]), map_congr_mem (xs := b) fun x hm => hx x (by simp [hm])]
  case makeSlice t x y => simp only [evalOp, hx x (by simp), hx y (by simp)]
  case slice t x lo hi mx =>
    cases mx with
    | some m => rfl
    | none =>
      simp only [evalOp, hx x (by simp)]
      congr 1
      · cases lo with
        | none => rfl
        | some y => simp only [Option.map_some, hx y (by simp)]
      · cases hi with
        | none => rfl
        | some y => simp only [Option.map_some, hx y (by simp)]
  case fieldAddr t x f => simp only [evalOp, hx x (by simp)]
  case field t x f => simp only [evalOp, hx x (by simp)]
  case indexAddr t x y => simp only [evalOp, hx x (by simp), hx y (by simp)]
  case index t x y => simp only [evalOp, hx x (by simp), hx y (by simp)]
  case extract x i => simp only [evalOp, hx x (by simp)]
  case range t x => simp only [evalOp, hx x (by simp)]
  case makeMap t r => cases r <;> rfl
  case typeAssert x u t ok => simp only [evalOp, hx x (by simp)]
  case lookup t x k ok => simp only [evalOp, hx x (by simp), hx k (by simp)]
  case mapUpdate t m k x => simp only [evalOp, hx m (by simp), hx k (by simp), hx x (by simp)]
  case next x b => simp only [evalOp, hx x (by simp)]
  case call c =>
    obtain ⟨callee, args, ts⟩ := c
    cases callee with
    | builtin b => simp only [evalOp]; rw [map_congr_mem fun x hm => hx x (by simp [Call.operands, hm])]
    | value f => rfl
    | invoke r m => rfl

theorem Does.fr {o : POp} {fr fr' : FR} {σ σ' : ST} {v : AV} (hx : ∀ x, x ∈ o.op.operands → aeval fr x = aeval fr' x) (hd : Does P h o fr σ v σ') : Does P h o fr' σ v σ' := by
  unfold Does AOp at *
  split at hd
  · rename_i x hop
    rw [hop] at hx
    rw [← hx x (by simp [Op.operands])]
    exact hd
  · rename_i s d x hop
    rw [hop] at hx
    rw [← hx x (by simp [Op.operands])]
    exact hd
  · rename_i f args ts hop
    rw [hop] at hx
    rw [← hx f (by simp [Op.operands, Call.operands]), ← map_congr_mem fun x hm => hx x (by simp [Op.operands, Call.operands, hm])]
    exact hd
  · rw [← evalOp_fr hx]; exact hd
end
end Nv
/- Regions whose order is open: every order comes to what the order of the text comes to. -/


set_option linter.unusedVariables false
set_option linter.unusedSimpArgs false
namespace Nv
open Go

def edgesOK (ops : Array Oper) : Bool := (List.range ops.size).all fun i => match ops[i]? with
  | some o => o.after.toList.all fun e => !(Region.binds .any e) || Nat.blt e.on i
  | none => true
def pairOK (ops : Array Oper) (ms : List Nat) (i j : Nat) : Bool := match ops[i]?, ops[j]? with
  | some x, some y =>
    (match x.dst with | some d => !(y.dst == some d) && (!(y.looksAt ops).contains d || forced ms i j) | none => true) &&
    (match y.dst with | some d => !(x.looksAt ops).contains d || forced ms i j | none => true) &&
    (!(isEff x.op && isEff y.op) || forced ms i j)
  | _, _ => true
def pairsOK (ops : Array Oper) (ms : List Nat) : Bool := (List.range ops.size).all fun j => (List.range j).all fun i => pairOK ops ms i j
def drawOK (ops : Array Oper) : Bool := edgesOK ops && pairsOK ops (masks ops.toList [])

theorem testBit_maskOf {acc : List Nat} {j : Nat} : ∀ {es : List Edge}, (maskOf acc es).testBit j = true → ∃ e, e ∈ es ∧ Region.binds .any e = true ∧ (j = e.on ∨ (acc.getD e.on 0).testBit j = true)
  | [], hj => by simp [maskOf] at hj
  | e :: es, hj => by
    have hrec : (maskOf acc es).testBit j = true → ∃ e', e' ∈ e :: es ∧ Region.binds .any e' = true ∧ (j = e'.on ∨ (acc.getD e'.on 0).testBit j = true) := fun h => by
      obtain ⟨e', h1, h2⟩ := testBit_maskOf h
      exact ⟨e', List.mem_cons_of_mem _ h1, h2⟩
    have hunf : maskOf acc (e :: es) = bif Region.binds .any e then maskOf acc es ||| (1 <<< e.on) ||| acc.getD e.on 0 else maskOf acc es := rfl
    rw [hunf] at hj
    cases hb : Region.binds .any e
    · rw [hb] at hj; exact hrec hj
    · rw [hb] at hj
      simp only [cond_true, Nat.testBit_or, Bool.or_eq_true] at hj
      rcases hj with (hj | hj) | hj
      · exact hrec hj
      · refine ⟨e, List.mem_cons_self, hb, .inl ?_⟩
        rw [Nat.one_shiftLeft, Nat.testBit_two_pow] at hj
        exact (of_decide_eq_true hj).symm
      · exact ⟨e, List.mem_cons_self, hb, .inr hj⟩

theorem masks_ok {S : Nat → Prop} : ∀ (l : List Oper) (acc : List Nat), (∀ k o, l[k]? = some o → S (acc.length + k) → ∀ e, e ∈ o.after.toList → Region.binds .any e = true → S e.on) →
    (∀ i m, acc[i]? = some m → S i → ∀ j, m.testBit j = true → S j) → ∀ i m, (masks l acc)[i]? = some m → S i → ∀ j, m.testBit j = true → S j
  | [], acc, _, h => h
  | o :: l, acc, hc, h => by
    refine masks_ok l _ (fun k o' hk hS => hc (k + 1) o' (by simpa using hk) (by simpa [Nat.add_assoc, Nat.add_comm 1 k] using hS)) (fun i m hi hS j hj => ?_)
    rcases Nat.lt_trichotomy i acc.length with hlt | heq | hgt
    · rw [List.getElem?_append_left hlt] at hi; exact h i m hi hS j hj
    · subst heq
      rw [List.getElem?_append_right (Nat.le_refl _)] at hi
      simp at hi; subst hi
      obtain ⟨e, h1, h2, h3⟩ := testBit_maskOf hj
      have hSe := hc 0 o rfl (by simpa using hS) e h1 h2
      rcases h3 with rfl | h3
      · exact hSe
      · have : ∃ m, acc[e.on]? = some m ∧ m.testBit j = true := by
          rw [List.getD_eq_getElem?_getD] at h3
          cases hm : acc[e.on]? with
          | none => rw [hm] at h3; simp at h3
          | some m => rw [hm] at h3; exact ⟨m, rfl, h3⟩
        obtain ⟨m, hm1, hm2⟩ := this
        exact h _ m hm1 hSe j hm2
    · rw [List.getElem?_eq_none (by simp; omega)] at hi; cases hi

/-- What a listing has run is closed. -/
def ClosedL (ops : Array Oper) (listed : Array Bool) : Prop :=
  ∀ i o, ops[i]? = some o → listed.getD i false = true → ∀ e, e ∈ o.after → Region.binds .any e = true → listed.getD e.on false = true

theorem forced_spec {ops : Array Oper} {listed : Array Bool} (hc : ClosedL ops listed) {j i : Nat} (hf : forced (masks ops.toList []) j i = true) (hi : listed.getD i false = true) : listed.getD j false = true := by
  unfold forced at hf
  rw [List.getD_eq_getElem?_getD] at hf
  cases hm : (masks ops.toList [])[i]? with
  | none => rw [hm] at hf; simp at hf
  | some m =>
    rw [hm] at hf
    exact masks_ok (S := fun i => listed.getD i false = true) ops.toList [] (fun k o hk hS e he hb => hc k o (by simpa using hk) (by simpa using hS) e (by simpa using he) hb) (fun i m hi => by simp at hi) i m hm hi j hf

/-- The same of an operation that may run next: what it needs has run. -/
theorem forced_ready {ops : Array Oper} {listed : Array Bool} (hc : ClosedL ops listed) {j i : Nat} (hsz : listed.size = ops.size) (hr : i ∈ Region.ready .any ops listed) (hf : forced (masks ops.toList []) j i = true) (hne : j ≠ i) : listed.getD j false = true := by
  obtain ⟨h0, o, ho, hall⟩ := mem_ready.1 hr
  have hlt : i < ops.size := (Array.getElem?_eq_some_iff.1 ho).1
  have hc' : ClosedL ops (listed.setIfInBounds i true) := by
    intro k o' ho' hk e he hb
    by_cases hki : k = i
    · subst hki
      rw [ho] at ho'; cases ho'
      exact getD_set_true (hall e he hb)
    · rw [getD_set_ne false (Ne.symm hki)] at hk
      exact getD_set_true (hc k o' ho' hk e he hb)
  have := forced_spec hc' hf (by simp [hsz, hlt])
  rw [getD_set_ne false (Ne.symm hne)] at this
  exact this

theorem closed_set {ops : Array Oper} {listed : Array Bool} (hc : ClosedL ops listed) {i : Nat} (hr : i ∈ Region.ready .any ops listed) : ClosedL ops (listed.setIfInBounds i true) := by
  obtain ⟨h0, o, ho, hall⟩ := mem_ready.1 hr
  intro k o' ho' hk e he hb
  by_cases hki : k = i
  · subst hki
    rw [ho] at ho'; cases ho'
    exact getD_set_true (hall e he hb)
  · rw [getD_set_ne false (Ne.symm hki)] at hk
    exact getD_set_true (hc k o' ho' hk e he hb)

theorem all_listed {ops : Array Oper} {listed : Array Bool} (he : edgesOK ops = true) (hsz : listed.size = ops.size) (hr : Region.ready .any ops listed = []) : ∀ i, i < ops.size → listed.getD i false = true := by
  intro i
  induction i using Nat.strongRecOn with
  | _ i ih =>
    intro hi
    cases hl : listed.getD i false
    · exfalso
      have : i ∈ Region.ready .any ops listed := by
        refine mem_ready.2 ⟨?_, ops[i], Array.getElem?_eq_getElem hi, fun e hem hb => ?_⟩
        · have h1 : i < listed.size := by rw [hsz]; exact hi
          simp [h1] at hl ⊢; exact hl
        · have h1 := List.all_eq_true.1 he i (List.mem_range.2 hi)
          rw [Array.getElem?_eq_getElem hi] at h1
          have h2 := List.all_eq_true.1 h1 e (by simpa using hem)
          rw [hb] at h2
          simp only [Bool.not_true, Bool.false_or] at h2
          have hlt : e.on < i := by simpa using h2
          exact ih e.on hlt (Nat.lt_trans hlt hi)
      rw [hr] at this; cases this
    · rfl

def unl (listed : Array Bool) (n : Nat) : Nat := (List.range n).countP fun i => !listed.getD i false

theorem countP_lt {l : List Nat} {p q : Nat → Bool} (hpq : ∀ x, x ∈ l → p x = true → q x = true) {y : Nat} (hy : y ∈ l) (hq : q y = true) (hp : p y = false) : l.countP p < l.countP q := by
  induction l with
  | nil => cases hy
  | cons x l ih =>
    have hle : l.countP p ≤ l.countP q := List.countP_mono_left fun z hz => hpq z (List.mem_cons_of_mem _ hz)
    rcases List.mem_cons.1 hy with rfl | hy
    · rw [List.countP_cons_of_neg (by simp [hp]), List.countP_cons_of_pos hq]; omega
    · have := ih (fun z hz => hpq z (List.mem_cons_of_mem _ hz)) hy
      have hx := hpq x List.mem_cons_self
      cases hpx : p x
      · rw [List.countP_cons_of_neg (by simp [hpx])]
        cases hqx : q x
        · rw [List.countP_cons_of_neg (by simp [hqx])]; exact this
        · rw [List.countP_cons_of_pos hqx]; omega
      · rw [List.countP_cons_of_pos hpx, List.countP_cons_of_pos (hx hpx)]; omega

theorem unl_set {listed : Array Bool} {n i : Nat} (hsz : listed.size = n) (hi : i < n) (hl : listed.getD i true = false) : unl (listed.setIfInBounds i true) n < unl listed n := by
  refine countP_lt (y := i) (fun x hx hp => ?_) (List.mem_range.2 hi) ?_ ?_
  · by_cases hxi : i = x
    · subst hxi; simp [hsz, hi] at hp
    · rw [getD_set_ne false hxi] at hp; exact hp
  · have : i < listed.size := by omega
    simp [this] at hl ⊢; exact hl
  · simp [hsz, hi]

/- frames by what has run -/
def wr (ops : Array Oper) (t : Nat) : Option Nat := (List.range ops.size).find? fun j => match ops[j]? with | some o => o.dst == some t | none => false

def frS (ops : Array Oper) (vs : Nat → AV) (fr : FR) (S : Nat → Bool) : FR := fun t =>
  match wr ops t with
  | some j => bif S j then vs j else fr t
  | none => fr t

theorem wr_some {ops : Array Oper} {t j : Nat} (hw : wr ops t = some j) : ∃ o, ops[j]? = some o ∧ o.dst = some t := by
  unfold wr at hw
  have := List.find?_some hw
  split at this
  · rename_i o ho; exact ⟨o, ho, by simpa using this⟩
  · cases this

theorem wr_none {ops : Array Oper} {t j : Nat} {o : Oper} (hw : wr ops t = none) (ho : ops[j]? = some o) : o.dst ≠ some t := by
  unfold wr at hw
  have := List.find?_eq_none.1 hw j (List.mem_range.2 (Array.getElem?_eq_some_iff.1 ho).1)
  rw [ho] at this
  simpa using this

theorem pair_at {ops : Array Oper} {ms : List Nat} (hp : pairsOK ops ms = true) {i j : Nat} (hij : i < j) (hj : j < ops.size) : pairOK ops ms i j = true :=
  List.all_eq_true.1 (List.all_eq_true.1 hp j (List.mem_range.2 hj)) i (List.mem_range.2 hij)

theorem pair_spec {ops : Array Oper} {ms : List Nat} (hp : pairsOK ops ms = true) {i j : Nat} {x y : Oper} (hi : ops[i]? = some x) (hj : ops[j]? = some y) (hij : i < j) :
    (∀ d, x.dst = some d → y.dst ≠ some d) ∧ (∀ d, x.dst = some d → d ∈ y.looksAt ops → forced ms i j = true) ∧ (∀ d, y.dst = some d → d ∈ x.looksAt ops → forced ms i j = true) ∧
    (isEff x.op = true → isEff y.op = true → forced ms i j = true) := by
  have h := pair_at hp hij (Array.getElem?_eq_some_iff.1 hj).1
  unfold pairOK at h
  rw [hi, hj] at h
  simp only [Bool.and_eq_true] at h
  obtain ⟨⟨h1, h2⟩, h3⟩ := h
  refine ⟨fun d hd => ?_, fun d hd hm => ?_, fun d hd hm => ?_, fun hx hy => ?_⟩
  · rw [hd] at h1; simp only [Bool.and_eq_true] at h1
    intro he; rw [he] at h1; simp at h1
  · rw [hd] at h1; simp only [Bool.and_eq_true, Bool.or_eq_true] at h1
    rcases h1.2 with h4 | h4
    · simp [hm] at h4
    · exact h4
  · rw [hd] at h2; simp only [Bool.or_eq_true] at h2
    rcases h2 with h4 | h4
    · simp [hm] at h4
    · exact h4
  · rw [hx, hy] at h3; simpa using h3

theorem wr_of {ops : Array Oper} {ms : List Nat} (hp : pairsOK ops ms = true) {t j : Nat} {o : Oper} (ho : ops[j]? = some o) (hd : o.dst = some t) : wr ops t = some j := by
  cases hw : wr ops t with
  | none => exact absurd hd (wr_none hw ho)
  | some k =>
    obtain ⟨o', ho', hd'⟩ := wr_some hw
    rcases Nat.lt_trichotomy k j with h | h | h
    · exact absurd hd ((pair_spec hp ho' ho h).1 t hd')
    · rw [h]
    · exact absurd hd' ((pair_spec hp ho ho' h).1 t hd)

theorem frS_put {ops : Array Oper} {ms : List Nat} (hp : pairsOK ops ms = true) {vs : Nat → AV} {fr : FR} {S S' : Nat → Bool} {i : Nat} {o : Oper} (ho : ops[i]? = some o)
    (hS : ∀ k, S' k = (S k || k == i)) : frS ops vs fr S' = put (frS ops vs fr S) o.dst (vs i) := by
  funext t
  have hother : o.dst ≠ some t → frS ops vs fr S' t = frS ops vs fr S t := by
    intro hd
    unfold frS
    split
    · rename_i j hw
      obtain ⟨o', ho', hd'⟩ := wr_some hw
      have hji : j ≠ i := fun e => by subst e; rw [ho] at ho'; cases ho'; exact hd hd'
      rw [hS j]
      have : (j == i) = false := by simp [hji]
      rw [this, Bool.or_false]
    · rfl
  cases hd : o.dst with
  | none => rw [hother (by simp [hd])]; rfl
  | some d =>
    by_cases hdt : t = d
    · subst hdt
      have hw := wr_of hp ho hd
      simp only [frS, hw, put, hS, beq_self_eq_true, Bool.or_true, cond_true]
      simp
    · rw [hother (by rw [hd]; simp; exact fun e => hdt e.symm)]
      have : Nat.beq t d = false := by cases hb : Nat.beq t d; rfl; exact absurd (Nat.eq_of_beq_eq_true hb) hdt
      simp only [put, this]
      rfl

theorem frS_none (ops : Array Oper) (vs : Nat → AV) (fr : FR) : frS ops vs fr (fun _ => false) = fr := by
  funext t
  unfold frS
  split <;> rfl

theorem prepDraw_get (ops : Array Oper) (i : Nat) (o : Oper) (ho : ops[i]? = some o) : (prepDraw ops)[i]? = some (dpAt ops (masks ops.toList []) i o) := by
  unfold prepDraw
  rw [List.getElem?_mapIdx]
  have : ops.toList[i]? = some o := by rw [Array.getElem?_toList]; exact ho
  rw [this]; rfl
theorem prepDraw_length (ops : Array Oper) : (prepDraw ops).length = ops.size := by simp [prepDraw]

theorem frT_S {ops : Array Oper} {ms : List Nat} (hp : pairsOK ops ms = true) {vs : Nat → AV} {fr : FR} : ∀ k, k ≤ ops.size → frT (prepDraw ops) vs fr k = frS ops vs fr (fun j => Nat.blt j k)
  | 0, _ => by
    rw [frT_zero]
    have : (fun j => Nat.blt j 0) = fun _ => false := by funext j; rfl
    rw [this, frS_none]
  | k + 1, hk => by
    have ho : ops[k]? = some ops[k] := Array.getElem?_eq_getElem hk
    rw [frT_succ _ _ _ k _ (prepDraw_get ops k _ ho), frT_S hp k (by omega)]
    refine (frS_put hp (S := fun j => Nat.blt j k) (S' := fun j => Nat.blt j (k + 1)) ho (fun j => ?_)).symm
    simp only [Nat.blt]
    rw [Bool.eq_iff_iff]
    simp
    omega
end Nv
