/- The code of a function in the abstract layer: its weakest precondition, and soundness. -/
import Derived.Test.YtebejiilpedlmaaGreatDoorNvK
set_option linter.unusedVariables false
set_option linter.unusedSimpArgs false
namespace Nv
open Go

def calleeOf : AV → Option (FuncId × List AV × List AV)
  | .d (.func (.func g)) => some (g, [], [])
  | .func (.func g) first cap => some (g, first, cap)
  | _ => none

def plainFn (P : Program) (g : FuncId) : Bool :=
  match P.funcs[g]? with
  | some fn => !(fn.name == "runtime.NumGoroutine") && fn.body.isSome
  | none => false

def outK (K E : AV → ST → Prop) : Out → ST → Prop
  | .ret v, σ => K v σ
  | .panic x, σ => E x σ
theorem outK_ret (K E : AV → ST → Prop) (v : AV) (σ : ST) : outK K E (.ret v) σ = K v σ := rfl
theorem outK_panic (K E : AV → ST → Prop) (v : AV) (σ : ST) : outK K E (.panic v) σ = E v σ := rfl

/-- internal/abi.NoEscape and its like: the argument as it is. -/
def NoEsc (P : Program) (g : FuncId) : Prop := ∃ fn, P.funcs[g]? = some fn ∧ (fn.name == "runtime.NumGoroutine") = false ∧ fn.body.isNone = true ∧ Extern.findNext fn = none ∧ Extern.find fn = some Extern.AbiNoEscape.same
def escA (K : AV → ST → Prop) (args : List AV) (σ : ST) : Prop :=
  match args with
  | [x] => K x σ
  | _ => False
def callB (P : Program) (g : FuncId) (args : List AV) (σ : ST) (K E : AV → ST → Prop) : Prop := bif plainFn P g then ACall P g args σ (outK K E) else (NoEsc P g ∧ escA K args σ)

def callA (P : Program) (f : AV) (args : List AV) (σ : ST) (K E : AV → ST → Prop) : Prop :=
  match calleeOf f with
  | some (g, first, cap) => callB P g (first ++ args ++ cap) σ K E
  | none => False
theorem callA_congr {P : Program} {f f' : AV} {args args' : List AV} {σ σ' : ST} {K E : AV → ST → Prop} (h0 : f = f') (h1 : args = args') (h2 : σ = σ') : callA P f args σ K E = callA P f' args' σ' K E := by rw [h0, h1, h2]
theorem callA_func (P : Program) (g : FuncId) (args : List AV) (σ : ST) (K E : AV → ST → Prop) : callA P (.d (.func (.func g))) args σ K E = callB P g args σ K E := by
  simp [callA, calleeOf]
theorem callA_clo (P : Program) (g : FuncId) (first cap : List AV) (args : List AV) (σ : ST) (K E : AV → ST → Prop) : callA P (.func (.func g) first cap) args σ K E = callB P g (first ++ args ++ cap) σ K E := rfl
theorem escA_mono {K K' : AV → ST → Prop} (hK : ∀ v σ, K v σ → K' v σ) {args : List AV} {σ : ST} (h : escA K args σ) : escA K' args σ := by
  unfold escA at *
  split at h
  · exact hK _ _ h
  · exact h

/-- A panic with a value of an interface type. -/
def panicA (x : AV) (σ : ST) (E : AV → ST → Prop) : Prop :=
  match x with
  | .iface _ _ => E x σ
  | .d (.iface _ _) => E x σ
  | _ => False
theorem panicA_mono {x : AV} {σ : ST} {E E' : AV → ST → Prop} (hE : ∀ v σ, E v σ → E' v σ) (h : panicA x σ E) : panicA x σ E' := by
  unfold panicA at *
  split at h
  · exact hE _ _ h
  · exact hE _ _ h
  · exact h

def AOp (P : Program) (h : Nat → Hint) (o : POp) (K E : AV → ST → Prop) (fr : FR) (σ : ST) : Prop :=
  match o.op with
  | .panic x => panicA (aeval fr x) σ E
  | .convert s d x => (rCvA P s d (aeval fr x) σ).holds K
  | .call ⟨.value f, args, _⟩ => callA P (aeval fr f) (args.toList.map (aeval fr)) σ K E
  | op => (evalOp P (hintOf h o.dst) o.type fr σ op).holds K

/-- An operation that is carried out only where a slot holds a given Bool. -/
def gateA (c : AV) (b : Bool) (yes no : Prop) : Prop :=
  match c with
  | .d (.bool c) => bif c == b then yes else no
  | .tuple [] => no
  | _ => False
theorem gateA_congr {c c' : AV} {b : Bool} {y n : Prop} (h : c = c') : gateA c b y n = gateA c' b y n := by rw [h]
theorem gateA_tt (y n : Prop) : gateA (.d (.bool true)) true y n = y := rfl
theorem gateA_tf (y n : Prop) : gateA (.d (.bool true)) false y n = n := rfl
theorem gateA_ft (y n : Prop) : gateA (.d (.bool false)) true y n = n := rfl
theorem gateA_ff (y n : Prop) : gateA (.d (.bool false)) false y n = y := rfl

def AOps (P : Program) (h : Nat → Hint) (Q : Post) : List POp → FR → ST → Prop
  | [], fr, σ => Q .normal fr σ
  | o :: rest, fr, σ =>
    match o.guard with
    | none => AOp P h o (fun v σ' => AOps P h Q rest (put fr o.dst v) σ') (fun x σ' => Q (.panic x) fr σ') fr σ
    | some (g, b) => gateA (fr g) b (AOp P h o (fun v σ' => AOps P h Q rest (put fr o.dst v) σ') (fun x σ' => Q (.panic x) fr σ') fr σ) (AOps P h Q rest (put fr o.dst (.tuple [])) σ)

def condA (c : AV) (x y : Prop) : Prop :=
  match c with
  | .d (.bool c) => bif c then x else y
  | _ => False
theorem condA_congr {c c' : AV} {x y : Prop} (h : c = c') : condA c x y = condA c' x y := by rw [h]
theorem condA_true (x y : Prop) : condA (.d (.bool true)) x y = x := rfl
theorem condA_false (x y : Prop) : condA (.d (.bool false)) x y = y := rfl

def thenA (next : FR → ST → Prop) (Q : Post) : Post
  | .normal, fr, σ => next fr σ
  | e, fr, σ => Q e fr σ
theorem thenA_normal (next : FR → ST → Prop) (Q : Post) (fr : FR) (σ : ST) : thenA next Q .normal fr σ = next fr σ := rfl
theorem thenA_ret (next : FR → ST → Prop) (Q : Post) (fr : FR) (σ : ST) : thenA next Q .ret fr σ = Q .ret fr σ := rfl
theorem thenA_exit (next : FR → ST → Prop) (Q : Post) (i : Nat) (fr : FR) (σ : ST) : thenA next Q (.exit i) fr σ = Q (.exit i) fr σ := rfl
theorem thenA_panic (next : FR → ST → Prop) (Q : Post) (x : AV) (fr : FR) (σ : ST) : thenA next Q (.panic x) fr σ = Q (.panic x) fr σ := rfl

def blockA (id : Nat) (Q : Post) : Post
  | .exit i, fr, σ => if i = id then Q .normal fr σ else Q (.exit i) fr σ
  | e, fr, σ => Q e fr σ
theorem blockA_normal (id : Nat) (Q : Post) (fr : FR) (σ : ST) : blockA id Q .normal fr σ = Q .normal fr σ := rfl
theorem blockA_ret (id : Nat) (Q : Post) (fr : FR) (σ : ST) : blockA id Q .ret fr σ = Q .ret fr σ := rfl
theorem blockA_exit (id i : Nat) (Q : Post) (fr : FR) (σ : ST) : blockA id Q (.exit i) fr σ = if i = id then Q .normal fr σ else Q (.exit i) fr σ := rfl
theorem blockA_panic (id : Nat) (Q : Post) (x : AV) (fr : FR) (σ : ST) : blockA id Q (.panic x) fr σ = Q (.panic x) fr σ := rfl

/-- An operation in a region whose order is open: a call comes to one value and leaves the store. -/
def DOp (P : Program) (h : Nat → Hint) (o : POp) (R : AV → ST → Prop) (fr : FR) (σ : ST) : Prop :=
  match o.op with
  | .call ⟨.value f, args, _⟩ => ∃ v, callA P (aeval fr f) (args.toList.map (aeval fr)) σ (fun v' σ' => v' = v ∧ σ' = σ) (fun _ _ => False) ∧ R v σ
  | op => (evalOp P (hintOf h o.dst) o.type fr σ op).dholds R

/-- The operation comes to this value and leaves this store. -/
def Again (P : Program) (h : Nat → Hint) (o : POp) (fr : FR) (v : AV) (τ : ST) : Prop := DOp P h o (fun v' τ' => v' = v ∧ τ' = τ) fr τ

structure PD where
  o : POp
  fr : FR
  v : AV
def PD.ok (P : Program) (h : Nat → Hint) (p : PD) (τ : ST) : Prop := Again P h p.o p.fr p.v τ

def dNext (P : Program) (h : Nat → Hint) (o : DP) (past : List ST) (pend : List PD) (fr : FR) (σ : ST) (v : AV) (σ' : ST) : Prop :=
  match o.eff with
  | true => ∀ p, p ∈ pend → p.ok P h σ'
  | false => σ' = σ ∧ (o.back = true → ∀ τ, τ ∈ past → Again P h o.o fr v τ)
def dPend (o : DP) (pend : List PD) (fr : FR) (v : AV) : List PD := bif o.fwd && !o.eff then ⟨⟨o.o.dst, o.o.op, o.o.type, none⟩, fr, v⟩ :: pend else pend
def dPast (o : DP) (past : List ST) (σ : ST) : List ST := bif o.eff then σ :: past else past

def DOps (P : Program) (h : Nat → Hint) (K : FR → ST → Prop) : List DP → List ST → List PD → FR → ST → Prop
  | [], _, _, fr, σ => K fr σ
  | o :: rest, past, pend, fr, σ =>
    match o.o.guard with
    | none => DOp P h o.o (fun v σ' => dNext P h o past pend fr σ v σ' ∧ DOps P h K rest (dPast o past σ) (dPend o pend fr v) (put fr o.o.dst v) σ') fr σ
    | some (g, b) => gateA (fr g) b (DOp P h o.o (fun v σ' => dNext P h o past pend fr σ v σ' ∧ DOps P h K rest (dPast o past σ) (dPend o pend fr v) (put fr o.o.dst v) σ') fr σ)
        (DOps P h K rest past pend (put fr o.o.dst (.tuple [])) σ)

def LoopW (B : Post → FR → ST → Prop) (Q : Post) (fr : FR) (σ : ST) : Prop :=
  ∀ X : FR → ST → Prop, (∀ fr σ, B (thenA X Q) fr σ → X fr σ) → X fr σ

def W (P : Program) (h : Nat → Hint) : PC → Post → FR → ST → Prop
  | .skip, Q, fr, σ => Q .normal fr σ
  | .ret, Q, fr, σ => Q .ret fr σ
  | .other, _, _, _ => False
  | .exit id, Q, fr, σ => Q (.exit id) fr σ
  | .seq a b, Q, fr, σ => W P h a (thenA (fun fr σ => W P h b Q fr σ) Q) fr σ
  | .cond c x y, Q, fr, σ => condA (aeval fr c) (W P h x Q fr σ) (W P h y Q fr σ)
  | .block id b, Q, fr, σ => W P h b (blockA id Q) fr σ
  | .loop b, Q, fr, σ => LoopW (fun Q fr σ => W P h b Q fr σ) Q fr σ
  | .region ops, Q, fr, σ => AOps P h Q ops fr σ
  | .draw ops, Q, fr, σ => DOps P h (fun fr' σ' => Q .normal fr' σ') ops [] [] fr σ

theorem W_congr {P : Program} {h : Nat → Hint} {c : PC} {Q : Post} {fr fr' : FR} {σ σ' : ST} (h1 : fr = fr') (h2 : σ = σ') : W P h c Q fr σ = W P h c Q fr' σ' := by rw [h1, h2]
theorem AOps_congr {P : Program} {h : Nat → Hint} {c : List POp} {Q : Post} {fr fr' : FR} {σ σ' : ST} (h1 : fr = fr') (h2 : σ = σ') : AOps P h Q c fr σ = AOps P h Q c fr' σ' := by rw [h1, h2]
theorem AOp_congr {P : Program} {h : Nat → Hint} {o : POp} {K E : AV → ST → Prop} {fr fr' : FR} {σ σ' : ST} (h1 : fr = fr') (h2 : σ = σ') : AOp P h o K E fr σ = AOp P h o K E fr' σ' := by rw [h1, h2]
theorem thenA_congr {next : FR → ST → Prop} {Q : Post} {e e' : AExit} {fr fr' : FR} {σ σ' : ST} (h0 : e = e') (h1 : fr = fr') (h2 : σ = σ') : thenA next Q e fr σ = thenA next Q e' fr' σ' := by rw [h0, h1, h2]
theorem blockA_congr {id : Nat} {Q : Post} {e e' : AExit} {fr fr' : FR} {σ σ' : ST} (h0 : e = e') (h1 : fr = fr') (h2 : σ = σ') : blockA id Q e fr σ = blockA id Q e' fr' σ' := by rw [h0, h1, h2]
theorem LoopW_congr {B : Post → FR → ST → Prop} {Q : Post} {fr fr' : FR} {σ σ' : ST} (h1 : fr = fr') (h2 : σ = σ') : LoopW B Q fr σ = LoopW B Q fr' σ' := by rw [h1, h2]
theorem outK_congr {K E : AV → ST → Prop} {o o' : Out} {σ σ' : ST} (h1 : o = o') (h2 : σ = σ') : outK K E o σ = outK K E o' σ' := by rw [h1, h2]

section
variable {P : Program} {h : Nat → Hint} {Q : Post} {fr : FR} {σ : ST}
theorem W_skip : W P h .skip Q fr σ = Q .normal fr σ := rfl
theorem W_ret : W P h .ret Q fr σ = Q .ret fr σ := rfl
theorem W_exit (id : Nat) : W P h (.exit id) Q fr σ = Q (.exit id) fr σ := rfl
theorem W_seq (a b : PC) : W P h (.seq a b) Q fr σ = W P h a (thenA (fun fr σ => W P h b Q fr σ) Q) fr σ := rfl
theorem W_cond (c : Operand) (x y : PC) : W P h (.cond c x y) Q fr σ = condA (aeval fr c) (W P h x Q fr σ) (W P h y Q fr σ) := rfl
theorem W_block (id : Nat) (b : PC) : W P h (.block id b) Q fr σ = W P h b (blockA id Q) fr σ := rfl
theorem W_loop (b : PC) : W P h (.loop b) Q fr σ = LoopW (fun Q fr σ => W P h b Q fr σ) Q fr σ := rfl
theorem W_region (ops : List POp) : W P h (.region ops) Q fr σ = AOps P h Q ops fr σ := rfl
theorem AOps_nil : AOps P h Q [] fr σ = Q .normal fr σ := rfl
theorem AOps_none (d : Option Nat) (op : Op) (t : Nat) (rest : List POp) : AOps P h Q (⟨d, op, t, none⟩ :: rest) fr σ =
    AOp P h ⟨d, op, t, none⟩ (fun v σ' => AOps P h Q rest (put fr d v) σ') (fun x σ' => Q (.panic x) fr σ') fr σ := rfl
theorem AOps_some (d : Option Nat) (op : Op) (t g : Nat) (b : Bool) (rest : List POp) : AOps P h Q (⟨d, op, t, some (g, b)⟩ :: rest) fr σ =
    gateA (fr g) b (AOp P h ⟨d, op, t, none⟩ (fun v σ' => AOps P h Q rest (put fr d v) σ') (fun x σ' => Q (.panic x) fr σ') fr σ) (AOps P h Q rest (put fr d (.tuple [])) σ) := rfl
variable {K E : AV → ST → Prop} {d : Option Nat} {t : Nat} {gd : Option (Nat × Bool)}
theorem AOp_call (f : Operand) (args : List Operand) (ts : Array Nat) : AOp P h ⟨d, .call ⟨.value f, ⟨args⟩, ts⟩, t, gd⟩ K E fr σ = callA P (aeval fr f) (args.map (aeval fr)) σ K E := rfl
theorem AOp_builtin (b : Builtin) (args : List Operand) (ts : List Nat) : AOp P h ⟨d, .call ⟨.builtin b, ⟨args⟩, ⟨ts⟩⟩, t, gd⟩ K E fr σ = (rFin (hintOf h d) (rBuiltin P b t ts (args.map (aeval fr)) σ)).holds K := rfl
theorem AOp_move (x : Operand) : AOp P h ⟨d, .move x, t, gd⟩ K E fr σ = (rMove (hintOf h d) (aeval fr x) σ).holds K := rfl
theorem AOp_assign (x : Operand) : AOp P h ⟨d, .assign x, t, gd⟩ K E fr σ = (rMove (hintOf h d) (aeval fr x) σ).holds K := rfl
theorem AOp_pick (c a b : Operand) : AOp P h ⟨d, .pick c a b, t, gd⟩ K E fr σ = (rPick (aeval fr c) (aeval fr a) (aeval fr b) σ).holds K := rfl
theorem AOp_alloc (u : Nat) : AOp P h ⟨d, .alloc u, t, gd⟩ K E fr σ = (rBox u (zeroA P u) σ).holds K := rfl
theorem AOp_box (u : Nat) (x : Operand) : AOp P h ⟨d, .box u x, t, gd⟩ K E fr σ = (rBox u (aeval fr x) σ).holds K := rfl
theorem AOp_build (u : Nat) (ps : List (Nat × Operand)) : AOp P h ⟨d, .build u ⟨ps⟩, t, gd⟩ K E fr σ = (rBuild P u (ps.map fun p => (p.1, aeval fr p.2)) σ).holds K := rfl
theorem AOp_buildSlice (u n : Nat) (ps : List (Nat × Operand)) : AOp P h ⟨d, .buildSlice u n ⟨ps⟩, t, gd⟩ K E fr σ = (rFin (hintOf h d) (rBuildSlice P u n (ps.map fun p => (p.1, aeval fr p.2)) σ)).holds K := rfl
theorem AOp_load (u : Nat) (x : Operand) : AOp P h ⟨d, .load u x, t, gd⟩ K E fr σ = (rLoad P u (aeval fr x) σ).holds K := rfl
theorem AOp_store (u : Nat) (x y : Operand) : AOp P h ⟨d, .store u x y, t, gd⟩ K E fr σ = (rStore P u (aeval fr x) (aeval fr y) σ).holds K := rfl
theorem AOp_nilCheck (x : Operand) : AOp P h ⟨d, .nilCheck x, t, gd⟩ K E fr σ = (rNil (aeval fr x) σ).holds K := rfl
theorem AOp_binOp (op : BinOp) (u : Nat) (x y : Operand) (u' : Nat) : AOp P h ⟨d, .binOp op u x y u', t, gd⟩ K E fr σ = (rBin P op u (isC x || isC y) (aeval fr x) (aeval fr y) σ).holds K := rfl
theorem AOp_unOp (op : UnOp) (u : Nat) (x : Operand) : AOp P h ⟨d, .unOp op u x, t, gd⟩ K E fr σ = (rUn op (aeval fr x) σ).holds K := rfl
theorem AOp_convert (u v : Nat) (x : Operand) : AOp P h ⟨d, .convert u v x, t, gd⟩ K E fr σ = (rCvA P u v (aeval fr x) σ).holds K := rfl
theorem AOp_makeInterface (u : Nat) (x : Operand) : AOp P h ⟨d, .makeInterface u x, t, gd⟩ K E fr σ = (rIface P u (aeval fr x) σ).holds K := rfl
theorem AOp_makeFunc (f : Fn) (a b : List Operand) : AOp P h ⟨d, .makeFunc f ⟨a⟩ ⟨b⟩, t, gd⟩ K E fr σ = (rFunc f (a.map (aeval fr)) (b.map (aeval fr)) σ).holds K := rfl
theorem AOp_makeSlice (u : Nat) (x y : Operand) : AOp P h ⟨d, .makeSlice u x y, t, gd⟩ K E fr σ = (rMake P u (aeval fr x) (aeval fr y) σ).holds K := rfl
theorem AOp_slice (u : Nat) (x : Operand) (lo hi : Option Operand) : AOp P h ⟨d, .slice u x lo hi none, t, gd⟩ K E fr σ = (rSlice P u (aeval fr x) (lo.map (aeval fr)) (hi.map (aeval fr)) σ).holds K := rfl
theorem AOp_fieldAddr (u : Nat) (x : Operand) (f : Nat) : AOp P h ⟨d, .fieldAddr u x f, t, gd⟩ K E fr σ = (rField P u f (aeval fr x) σ).holds K := rfl
theorem AOp_field (u : Nat) (x : Operand) (f : Nat) : AOp P h ⟨d, .field u x f, t, gd⟩ K E fr σ = (rFieldV P u f (aeval fr x) σ).holds K := rfl
theorem AOp_indexAddr (u : Nat) (x y : Operand) : AOp P h ⟨d, .indexAddr u x y, t, gd⟩ K E fr σ = (rIndex P u (aeval fr x) (aeval fr y) σ).holds K := rfl
theorem AOp_index (u : Nat) (x y : Operand) : AOp P h ⟨d, .index u x y, t, gd⟩ K E fr σ = (rIndexV P u (aeval fr x) (aeval fr y) σ).holds K := rfl
theorem AOp_range (u : Nat) (x : Operand) : AOp P h ⟨d, .range u x, t, gd⟩ K E fr σ = (rRange P u (aeval fr x) σ).holds K := rfl
theorem AOp_next (x : Operand) (b : Bool) : AOp P h ⟨d, .next x b, t, gd⟩ K E fr σ = (rNext (aeval fr x) b σ).holds K := rfl
theorem AOp_extract (x : Operand) (i : Nat) : AOp P h ⟨d, .extract x i, t, gd⟩ K E fr σ = (rExtract (aeval fr x) i σ).holds K := rfl
end

/- what follows holds of less -/
theorem Res.mono {r : Res} {R R' : AV → ST → Prop} (hR : ∀ v σ, R v σ → R' v σ) (h : r.holds R) : r.holds R' := by
  induction r with
  | ok v σ => exact hR _ _ h
  | need p r ih => exact ⟨h.1, ih h.2⟩
  | both a b iha ihb => exact ⟨iha h.1, ihb h.2⟩
  | bad => exact h
theorem Res.dmono {r : Res} {R R' : AV → ST → Prop} (hR : ∀ v σ, R v σ → R' v σ) (h : r.dholds R) : r.dholds R' := by
  induction r with
  | ok v σ => exact hR _ _ h
  | need p r ih => exact ⟨h.1, ih h.2⟩
  | both a b => exact h.elim
  | bad => exact h

section
variable {P : Program} {h : Nat → Hint}
theorem outK_mono {K K' E E' : AV → ST → Prop} (hK : ∀ v σ, K v σ → K' v σ) (hE : ∀ v σ, E v σ → E' v σ) (o : Out) (σ : ST) (hh : outK K E o σ) : outK K' E' o σ := by
  cases o <;> first | exact hK _ _ hh | exact hE _ _ hh

theorem AOp_mono {o : POp} {K K' E E' : AV → ST → Prop} {fr : FR} {σ : ST} (hK : ∀ v σ, K v σ → K' v σ) (hE : ∀ v σ, E v σ → E' v σ) (hh : AOp P h o K E fr σ) : AOp P h o K' E' fr σ := by
  unfold AOp at *
  split at hh
  · exact panicA_mono hE hh
  · exact Res.mono hK hh
  · unfold callA at *
    split at hh
    · rename_i g first cap _
      unfold callB at *
      cases hp : plainFn P g
      · rw [hp] at hh; exact ⟨hh.1, escA_mono hK hh.2⟩
      · rw [hp] at hh; exact ACall.mono hh fun oc σ' => outK_mono hK hE oc σ'
    · exact hh
  · exact Res.mono hK hh

theorem gateA_mono {c : AV} {b : Bool} {y y' n n' : Prop} (hy : y → y') (hn : n → n') (hh : gateA c b y n) : gateA c b y' n' := by
  unfold gateA at *
  split at hh
  · rename_i c'
    revert hh
    cases c' == b
    · exact hn
    · exact hy
  · exact hn hh
  · exact hh

theorem AOps_mono {Q Q' : Post} (hQ : ∀ e fr σ, Q e fr σ → Q' e fr σ) : ∀ (l : List POp) (fr : FR) (σ : ST), AOps P h Q l fr σ → AOps P h Q' l fr σ
  | [], fr, σ, hh => hQ _ _ _ hh
  | o :: l, fr, σ, hh => by
    unfold AOps at *
    split at hh
    · exact AOp_mono (fun v σ' => AOps_mono hQ l _ _) (fun x σ' => hQ _ _ _) hh
    · exact gateA_mono (AOp_mono (fun v σ' => AOps_mono hQ l _ _) (fun x σ' => hQ _ _ _)) (AOps_mono hQ l _ _) hh

theorem DOp_mono {o : POp} {K K' : AV → ST → Prop} {fr : FR} {σ : ST} (hK : ∀ v σ, K v σ → K' v σ) (hh : DOp P h o K fr σ) : DOp P h o K' fr σ := by
  unfold DOp at *
  split at hh
  · obtain ⟨v, h1, h2⟩ := hh; exact ⟨v, h1, hK _ _ h2⟩
  · exact Res.dmono hK hh

theorem DOps_mono {K K' : FR → ST → Prop} (hK : ∀ fr σ, K fr σ → K' fr σ) : ∀ (l : List DP) (past : List ST) (pend : List PD) (fr : FR) (σ : ST), DOps P h K l past pend fr σ → DOps P h K' l past pend fr σ
  | [], _, _, _, _, hh => hK _ _ hh
  | o :: l, past, pend, fr, σ, hh => by
    unfold DOps at *
    split at hh
    · exact DOp_mono (fun v σ' h => ⟨h.1, DOps_mono hK l _ _ _ _ h.2⟩) hh
    · exact gateA_mono (DOp_mono (fun v σ' h => ⟨h.1, DOps_mono hK l _ _ _ _ h.2⟩)) (DOps_mono hK l _ _ _ _) hh

theorem thenA_mono {X X' : FR → ST → Prop} {Q Q' : Post} (hX : ∀ fr σ, X fr σ → X' fr σ) (hQ : ∀ e fr σ, Q e fr σ → Q' e fr σ) (e : AExit) (fr : FR) (σ : ST) (hh : thenA X Q e fr σ) : thenA X' Q' e fr σ := by
  cases e <;> first | exact hX _ _ hh | exact hQ _ _ _ hh

theorem blockA_mono {id : Nat} {Q Q' : Post} (hQ : ∀ e fr σ, Q e fr σ → Q' e fr σ) (e : AExit) (fr : FR) (σ : ST) (hh : blockA id Q e fr σ) : blockA id Q' e fr σ := by
  cases e <;> simp only [blockA] at hh ⊢ <;> try exact hQ _ _ _ hh
  split at hh
  · rename_i hc; rw [if_pos hc]; exact hQ _ _ _ hh
  · rename_i hc; rw [if_neg hc]; exact hQ _ _ _ hh

theorem W_mono : ∀ (c : PC) {Q Q' : Post}, (∀ e fr σ, Q e fr σ → Q' e fr σ) → ∀ (fr : FR) (σ : ST), W P h c Q fr σ → W P h c Q' fr σ
  | .skip, _, _, hQ, _, _, hh => hQ _ _ _ hh
  | .ret, _, _, hQ, _, _, hh => hQ _ _ _ hh
  | .other, _, _, _, _, _, hh => hh
  | .draw ops, _, _, hQ, fr, σ, hh => DOps_mono (fun fr' σ' h' => hQ _ _ _ h') ops _ _ fr σ hh
  | .exit _, _, _, hQ, _, _, hh => hQ _ _ _ hh
  | .seq a b, _, _, hQ, fr, σ, hh => W_mono a (thenA_mono (W_mono b hQ) hQ) fr σ hh
  | .cond c x y, _, _, hQ, fr, σ, hh => by
    simp only [W] at *
    generalize aeval fr c = v at *
    unfold condA at *
    split at hh
    · rename_i b; cases b
      · exact W_mono y hQ fr σ hh
      · exact W_mono x hQ fr σ hh
    · exact hh
  | .block id b, _, _, hQ, fr, σ, hh => W_mono b (blockA_mono hQ) fr σ hh
  | .loop b, _, _, hQ, fr, σ, hh => fun X hX => hh X fun fr σ hb => hX fr σ (W_mono b (thenA_mono (fun _ _ h => h) hQ) fr σ hb)
  | .region ops, _, _, hQ, fr, σ, hh => AOps_mono hQ ops fr σ hh

/-- One round of a loop. -/
theorem LoopW.step {b : PC} {Q : Post} {fr : FR} {σ : ST} (hh : W P h b (thenA (LoopW (fun Q fr σ => W P h b Q fr σ) Q) Q) fr σ) : LoopW (fun Q fr σ => W P h b Q fr σ) Q fr σ :=
  fun X hX => hX fr σ (W_mono b (thenA_mono (fun fr σ hl => hl X hX) (fun _ _ _ h => h)) fr σ hh)
end
end Nv
