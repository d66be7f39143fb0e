/- Part of a proof about the functions of this seat. -/
import Derived.Test.YtebejiilpedlmaaGreatDoorNvU
/- The layer run avl a program: what it comes to is what the walk may use. -/

set_option linter.unusedVariables false
set_option linter.unusedSimpArgs false
namespace Nv
open Go

def Res.run : Res → Option (AV × ST)
  | .ok v σ => some (v, σ)
  | @Res.need p d r => match d with
    | .isTrue _ => r.run
    | .isFalse _ => none
  | .both _ _ => none
  | .bad => none

theorem Res.run_sound {r : Res} {v : AV} {σ : ST} (h : r.run = some (v, σ)) {K : AV → ST → Prop} (hk : K v σ) : r.holds K ∧ r.dholds K := by
  induction r with
  | ok v' σ' => simp only [Res.run, Option.some.injEq, Prod.mk.injEq] at h; obtain ⟨rfl, rfl⟩ := h; exact ⟨hk, hk⟩
  | @need p d r ih =>
    unfold Res.run at h
    split at h
    · rename_i hp; exact ⟨⟨hp, (ih h).1⟩, ⟨hp, (ih h).2⟩⟩
    · cases h
  | both a b => cases h
  | bad => cases h

/-- It hands back the store that it was given. -/
def Res.keeps (σ : ST) (r : Res) : Prop := ∀ v σ', r.run = some (v, σ') → σ' = σ
theorem keeps_ok {v : AV} {σ : ST} : Res.keeps σ (.ok v σ) := fun v' σ' h => by simp only [Res.run, Option.some.injEq, Prod.mk.injEq] at h; exact h.2.symm
theorem keeps_bad {σ : ST} : Res.keeps σ .bad := fun v' σ' h => by cases h
theorem keeps_both {σ : ST} {a b : Res} : Res.keeps σ (.both a b) := fun v' σ' h => by cases h
theorem keeps_need {σ : ST} {p : Prop} [d : Decidable p] {r : Res} (h : Res.keeps σ r) : Res.keeps σ (.need p r) := fun v' σ' hh => by
  unfold Res.run at hh
  split at hh
  · exact h _ _ hh
  · cases hh

def toFR (l : List AV) : FR := fun i => l.getD i .any

theorem toFR_put (l : List AV) (d : Nat) (v : AV) (h : d < l.length) : toFR (l.set d v) = put (toFR l) (some d) v := by
  funext i
  simp only [toFR, put, List.getD_eq_getElem?_getD]
  by_cases hi : i = d
  · subst hi
    rw [show Nat.beq i i = true from Nat.beq_refl i]
    simp [h]
  · have hb : Nat.beq i d = false := by
      cases hb : Nat.beq i d
      · rfl
      · exact absurd (Nat.eq_of_beq_eq_true hb) hi
    rw [hb, List.getElem?_set_ne (by omega)]; rfl

theorem toFR_pad (args : List AV) (n : Nat) : toFR (args ++ List.replicate n .any) = initFr args := by
  funext i
  simp only [toFR, initFr, List.getD_eq_getElem?_getD]
  rcases Nat.lt_or_ge i args.length with h | h
  · rw [List.getElem?_append_left h]
  · rw [List.getElem?_append_right h, List.getElem?_eq_none h, List.getElem?_replicate]
    split <;> rfl

/-- A function, avl the evaluation takes it. -/
structure Ent where
  np : Nat
  n : Nat
  rs : List ResultVar
  pc : PC
  hint : Nat → Hint
  gc : Bool

structure Eenv where
  tab : Nat → Option Ent
  spec : Nat → List AV → Option AV
  esc : Nat → Bool

structure EnvOK (P : Program) (E : Eenv) : Prop where
  tab : ∀ g e, E.tab g = some e → FnIs P g e.np e.rs e.pc ∧ plainFn P g = true
  spec : ∀ g args r, E.spec g args = some r → PCall P g args r ∧ plainFn P g = true
  esc : ∀ g, E.esc g = true → NoEsc P g ∧ plainFn P g = false

inductive ETask where
  | code (h : Nat → Hint) (c : PC)
  | ops (h : Nat → Hint) (l : List POp)
  | draw (h : Nat → Hint) (l : List DP) (quiet : Bool)
  | pcall (g : Nat)
  | call (g : Nat)

def setE (fr : List AV) (d : Option Nat) (v : AV) : Option (List AV) :=
  match d with
  | none => some fr
  | some d => bif Nat.blt d fr.length then some (fr.set d v) else none

def gateE (fr : List AV) : Option (Nat × Bool) → Option Bool
  | none => some true
  | some (g, b) => match fr.getD g .any with
    | .d (.bool c) => some (c == b)
    | .tuple [] => some false
    | _ => none

def cellE (P : Program) (t : TypeId) (a : AV) (σ : ST) : Option AV :=
  match a with
  | .ptr b o => match (rLoad P t (.ptr b o) σ).run with
    | some (v, _) => some v
    | none => none
  | _ => none

def outE (P : Program) (fr : List AV) (σ : ST) : List ResultVar → Option AV
  | [.tmp t] => some (toFR fr t)
  | [] => some (.tuple [])
  | [.tmp t, .tmp u] => some (.tuple [toFR fr t, toFR fr u])
  | [.tmp t, .tmp u, .tmp v] => some (.tuple [toFR fr t, toFR fr u, toFR fr v])
  | [.cell t ty] => cellE P ty (toFR fr t) σ
  | [.cell t ty, .tmp u] => match cellE P ty (toFR fr t) σ with
    | some v => some (.tuple [v, toFR fr u])
    | none => none
  | [.cell t ty, .cell u uy] => match cellE P ty (toFR fr t) σ, cellE P uy (toFR fr u) σ with
    | some v, some v' => some (.tuple [v, v'])
    | _, _ => none
  | _ => none

abbrev ERes := Option (AExit × List AV × ST)

/-- What is done with what an operation came to. -/
def contE (fr : List AV) (d : Option Nat) (r : Option (AV × ST)) (k : List AV → ST → ERes) : ERes :=
  match r with
  | some (v, σ') => match setE fr d v with
    | some fr' => k fr' σ'
    | none => none
  | none => none

/-- The road of a function's code that may defer a closure once, evaluated. -/
def evW (F : ETask → List AV → ST → ERes) (h : Nat → Hint) : PC → List AV → ST → Option (AExit × List AV × ST × Option (FuncId × List AV))
  | .seq a b, fr, σ => match deferAt a with
    | some (d, g, first, cap) => match setE fr (some d) (.func (.func g) (first.map (aeval (toFR fr))) (cap.map (aeval (toFR fr)))) with
      | some fr1 => match F (.code h b) fr1 σ with
        | some (e, fr', σ') => some (e, fr', σ', some (g, first.map (aeval (toFR fr)) ++ cap.map (aeval (toFR fr))))
        | none => none
      | none => none
    | none => match F (.code h a) fr σ with
      | some (.normal, fr', σ') => evW F h b fr' σ'
      | some (e, fr', σ') => some (e, fr', σ', none)
      | none => none
  | c, fr, σ => match F (.code h c) fr σ with
    | some (e, fr', σ') => some (e, fr', σ', none)
    | none => none

/-- A deferred closure, evaluated. -/
def evR (F : ETask → List AV → ST → ERes) (E : Eenv) (g : FuncId) (args : List AV) (σ : ST) (pv : Option AV) : Option ST :=
  match E.tab g with
  | some ent => match ent.pc, ent.rs with
    | .seq x y, [] => match recAt x with
      | some (d1, d2) => bif Nat.ble args.length ent.np && Nat.ble args.length ent.n then
          match setE (args ++ List.replicate (ent.n - args.length) .any) (some d1) (recV pv) with
          | some fr1 => match setE fr1 (some d2) (recV pv) with
            | some fr2 => match F (.code ent.hint y) fr2 σ with
              | some (.normal, _, σ') => some σ'
              | some (.ret, _, σ') => some σ'
              | _ => none
            | none => none
          | none => none
        else none
      | none => none
    | _, _ => none
  | none => none

/-- A function, evaluated. -/
def fnE (P : Program) (F : ETask → List AV → ST → ERes) (E : Eenv) (e : Ent) (args : List AV) (σ : ST) : Option (Out × ST) :=
  bif Nat.ble args.length e.np && Nat.ble args.length e.n then
    match evW F e.hint e.pc (args ++ List.replicate (e.n - args.length) .any) σ with
    | some (.normal, fr', σ', none) => (outE P fr' σ' e.rs).map fun v => (.ret v, σ')
    | some (.ret, fr', σ', none) => (outE P fr' σ' e.rs).map fun v => (.ret v, σ')
    | some (.panic x, _, σ', none) => some (.panic x, σ')
    | some (.normal, fr', σ', some (g, avl)) => (evR F E g avl σ' none).bind fun σ2 => (outE P fr' σ2 e.rs).map fun v => (.ret v, σ2)
    | some (.ret, fr', σ', some (g, avl)) => (evR F E g avl σ' none).bind fun σ2 => (outE P fr' σ2 e.rs).map fun v => (.ret v, σ2)
    | some (.panic x, fr', σ', some (g, avl)) => (evR F E g avl σ' (some x)).bind fun σ2 => (outE P fr' σ2 e.rs).map fun v => (.ret v, σ2)
    | _ => none
  else none

/-- An operation whose value hangs on no store. -/
def freeOp (fr : FR) : Op → Bool
  | .move _ => true
  | .binOp _ _ x y _ => match aeval fr x, aeval fr y with
    | .d (.int _ _), .d (.int _ _) => true
    | _, _ => false
  | _ => false

def ev (P : Program) (E : Eenv) : Nat → ETask → List AV → ST → ERes
  | 0, _, _, _ => none
  | n + 1, .code h c, fr, σ => match c with
    | .skip => some (.normal, fr, σ)
    | .ret => some (.ret, fr, σ)
    | .exit i => some (.exit i, fr, σ)
    | .other => none
    | .seq a b => match ev P E n (.code h a) fr σ with
      | some (.normal, fr', σ') => ev P E n (.code h b) fr' σ'
      | r => r
    | .cond c x y => match aeval (toFR fr) c with
      | .d (.bool true) => ev P E n (.code h x) fr σ
      | .d (.bool false) => ev P E n (.code h y) fr σ
      | _ => none
    | .block id b => match ev P E n (.code h b) fr σ with
      | some (.exit i, fr', σ') => bif Nat.beq i id then some (.normal, fr', σ') else some (.exit i, fr', σ')
      | r => r
    | .loop b => match ev P E n (.code h b) fr σ with
      | some (.normal, fr', σ') => ev P E n (.code h (.loop b)) fr' σ'
      | r => r
    | .region l => ev P E n (.ops h l) fr σ
    | .draw l => ev P E n (.draw h l true) fr σ
  | n + 1, .ops h l, fr, σ => match l with
    | [] => some (.normal, fr, σ)
    | o :: rest => match gateE fr o.guard with
      | some false => contE fr o.dst (some (.tuple [], σ)) fun fr' σ' => ev P E n (.ops h rest) fr' σ'
      | some true => match o.op with
        | .call ⟨.value f, args, _⟩ => match calleeOf (aeval (toFR fr) f) with
          | some (g, first, cap) => match ev P E n (.call g) (first ++ args.toList.map (aeval (toFR fr)) ++ cap) σ with
            | some (.ret, [v], σ') => contE fr o.dst (some (v, σ')) fun fr' σ' => ev P E n (.ops h rest) fr' σ'
            | some (.panic x, _, σ') => some (.panic x, fr, σ')
            | _ => none
          | none => none
        | .panic x => match aeval (toFR fr) x with
          | .iface u y => some (.panic (.iface u y), fr, σ)
          | .d (.iface u y) => some (.panic (.d (.iface u y)), fr, σ)
          | _ => none
        | .convert s d x => contE fr o.dst (rCvA P s d (aeval (toFR fr) x) σ).run fun fr' σ' => ev P E n (.ops h rest) fr' σ'
        | op => contE fr o.dst (evalOp P (hintOf h o.dst) o.type (toFR fr) σ op).run fun fr' σ' => ev P E n (.ops h rest) fr' σ'
      | none => none
  | n + 1, .draw h l q, fr, σ => match l with
    | [] => some (.normal, fr, σ)
    | o :: rest => match gateE fr o.o.guard with
      | some false => contE fr o.o.dst (some (.tuple [], σ)) fun fr' σ' => ev P E n (.draw h rest q) fr' σ'
      | some true => match o.o.op with
        | .call ⟨.value f, args, _⟩ => match calleeOf (aeval (toFR fr) f) with
          | some (g, first, cap) => bif o.eff || o.fwd || (o.back && !q) then none else match ev P E n (.pcall g) (first ++ args.toList.map (aeval (toFR fr)) ++ cap) σ with
            | some (.ret, [v], _) => contE fr o.o.dst (some (v, σ)) fun fr' σ' => ev P E n (.draw h rest q) fr' σ'
            | _ => none
          | none => none
        | op => bif o.eff then contE fr o.o.dst (evalOp P (hintOf h o.o.dst) o.o.type (toFR fr) σ op).run fun fr' σ' => ev P E n (.draw h rest false) fr' σ'
          else bif isEff op || ((o.fwd || (o.back && !q)) && !freeOp (toFR fr) op) then none else match hintOf h o.o.dst with
            | .no => contE fr o.o.dst (evalOp P .no o.o.type (toFR fr) σ op).run fun fr' _ => ev P E n (.draw h rest q) fr' σ
            | _ => none
      | none => none
  | n + 1, .pcall g, args, σ => match E.spec g args with
    | some v => some (.ret, [v], σ)
    | none => match E.tab g with
      | some e => bif e.gc && AV.pure.pures args then
          match fnE P (ev P E n) E e args [] with
          | some (.ret v, _) => bif v.pure then some (.ret, [v], σ) else none
          | _ => none
        else none
      | none => none
  | n + 1, .call g, args, σ => match ev P E n (.pcall g) args σ with
    | some r => some r
    | none => bif E.esc g then match args with
        | [x] => some (.ret, [x], σ)
        | _ => none
      else match E.tab g with
      | some e => bif e.gc then match ev P E n (.pcall g) (args.map (lent σ)) σ with
          | some (.ret, [v], _) => bif v.scalar && AV.pure.pures (args.map (lent σ)) then some (.ret, [v], σ) else none
          | _ => none
        else match fnE P (ev P E n) E e args σ with
          | some (.ret v, σ') => some (.ret, [v], σ')
          | some (.panic x, σ') => some (.panic x, [], σ')
          | none => none
      | none => none

section
variable {P : Program} {E : Eenv}

theorem keeps_bR {op : BinOp} {b : Bool} {σ : ST} : (bR op b σ).keeps σ := by unfold bR; repeat (first | exact keeps_ok | exact keeps_bad | exact keeps_both | refine keeps_need ?_ | (rw [cond_eq_ite]; split) | split)
theorem keeps_bOpen {σ : ST} : (bOpen σ).keeps σ := keeps_both
theorem keeps_bInt {op : BinOp} {k : IntKind} {x y : Int} {σ : ST} : (bInt op k x y σ).keeps σ := by unfold bInt; repeat (first | exact keeps_ok | exact keeps_bad | exact keeps_both | refine keeps_need ?_ | (rw [cond_eq_ite]; split) | split)
theorem keeps_bIntS {op : BinOp} {k k' : IntKind} {x y : Int} {σ : ST} : (bIntS op k k' x y σ).keeps σ := by unfold bIntS; repeat (first | exact keeps_bInt | exact keeps_ok | exact keeps_bad | refine keeps_need ?_ | split)
theorem keeps_bStr {op : BinOp} {x y : List UInt8} {σ : ST} : (bStr op x y σ).keeps σ := by unfold bStr; repeat (first | exact keeps_ok | exact keeps_bad | exact keeps_both | refine keeps_need ?_ | (rw [cond_eq_ite]; split) | split)
theorem keeps_bBool {op : BinOp} {x y : Bool} {σ : ST} : (bBool op x y σ).keeps σ := by unfold bBool; repeat (first | exact keeps_ok | exact keeps_bad | exact keeps_both | refine keeps_need ?_ | (rw [cond_eq_ite]; split) | split)
theorem keeps_bAgg {op : BinOp} {ks : Option (List Nat)} {x y : List AV} {σ : ST} : (bAgg op ks x y σ).keeps σ := by unfold bAgg; repeat (first | exact keeps_ok | exact keeps_bad | exact keeps_both | refine keeps_need ?_ | (rw [cond_eq_ite]; split) | split)
theorem keeps_bEq {op : BinOp} {d : Option TypeDesc} {c : Bool} {x y : AV} {σ : ST} : (bEq P op d c x y σ).keeps σ := by unfold bEq; repeat (first | exact keeps_bR | exact keeps_bOpen | exact keeps_ok | exact keeps_bad | exact keeps_both | refine keeps_need ?_ | (rw [cond_eq_ite]; split) | split)
theorem keeps_rConv {a b : TypeId} {x : AV} {σ : ST} : (rConv P a b x σ).keeps σ := by unfold rConv; repeat (first | exact keeps_ok | exact keeps_bad | exact keeps_both | refine keeps_need ?_ | (rw [cond_eq_ite]; split) | split)
theorem keeps_rConvU {a b : TypeId} {x y : Nat} {σ : ST} : (rConvU P a b x y σ).keeps σ := by unfold rConvU; repeat (first | exact keeps_ok | exact keeps_bad | exact keeps_both | refine keeps_need ?_ | (rw [cond_eq_ite]; split) | split)
theorem evalOp_keeps {op : Op} (h : isEff op = false) {tt : Nat} {fr : FR} {σ : ST} (hc : ∀ f args ts, op ≠ .call ⟨.value f, args, ts⟩) : (evalOp P .no tt fr σ op).keeps σ := by
  cases op <;> simp only [evalOp] <;> try exact keeps_bad
  case move x => exact keeps_ok
  case assign x => exact keeps_ok
  case alloc t => cases h
  case box t x => cases h
  case buildSlice a b c => cases h
  case makeSlice a b c => cases h
  case range a b => cases h
  case makeMap a b => cases h
  case mapUpdate a b c d => cases h
  case typeAssert a b c d => unfold rAssert; repeat (first | exact keeps_ok | exact keeps_bad | refine keeps_need ?_ | (rw [cond_eq_ite]; split) | split)
  case lookup a b c d => unfold rLookup; repeat (first | exact keeps_ok | exact keeps_bad | refine keeps_need ?_ | (rw [cond_eq_ite]; split) | split)
  case next a b => cases h
  case store a b c => cases h
  case pick c a b => unfold rPick; repeat (first | exact keeps_ok | exact keeps_bad | exact keeps_both | refine keeps_need ?_ | (rw [cond_eq_ite]; split) | split)
  case build t ps => unfold rBuild; repeat (first | exact keeps_ok | exact keeps_bad | exact keeps_both | refine keeps_need ?_ | (rw [cond_eq_ite]; split) | split)
  case load t x => unfold rLoad; repeat (first | exact keeps_ok | exact keeps_bad | exact keeps_both | refine keeps_need ?_ | (rw [cond_eq_ite]; split) | split)
  case nilCheck x => unfold rNil; repeat (first | exact keeps_ok | exact keeps_bad | exact keeps_both | refine keeps_need ?_ | (rw [cond_eq_ite]; split) | split)
  case binOp a b c d e => unfold rBin; repeat (first | exact keeps_bIntS | exact keeps_bInt | exact keeps_bStr | exact keeps_bBool | exact keeps_bAgg | exact keeps_bEq | exact keeps_ok | exact keeps_bad | exact keeps_both | refine keeps_need ?_ | (rw [cond_eq_ite]; split) | split)
  case unOp a b c => unfold rUn; repeat (first | exact keeps_ok | exact keeps_bad | exact keeps_both | refine keeps_need ?_ | (rw [cond_eq_ite]; split) | split)
  case convert a b c => unfold rCv; repeat (first | exact keeps_rConv | exact keeps_rConvU | exact keeps_ok | exact keeps_bad | exact keeps_both | refine keeps_need ?_ | (rw [cond_eq_ite]; split) | split)
  case makeInterface a b => unfold rIface; repeat (first | exact keeps_ok | exact keeps_bad | exact keeps_both | refine keeps_need ?_ | (rw [cond_eq_ite]; split) | split)
  case makeFunc a b c => unfold rFunc; repeat (first | exact keeps_ok | exact keeps_bad | exact keeps_both | refine keeps_need ?_ | (rw [cond_eq_ite]; split) | split)
  case fieldAddr a b c => unfold rField; repeat (first | exact keeps_ok | exact keeps_bad | exact keeps_both | refine keeps_need ?_ | (rw [cond_eq_ite]; split) | split)
  case field a b c => unfold rFieldV; repeat (first | exact keeps_ok | exact keeps_bad | exact keeps_both | refine keeps_need ?_ | (rw [cond_eq_ite]; split) | split)
  case indexAddr a b c => unfold rIndex; repeat (first | exact keeps_ok | exact keeps_bad | exact keeps_both | refine keeps_need ?_ | (rw [cond_eq_ite]; split) | split)
  case index a b c => unfold rIndexV; repeat (first | exact keeps_ok | exact keeps_bad | exact keeps_both | refine keeps_need ?_ | (rw [cond_eq_ite]; split) | split)
  case extract a b => unfold rExtract; repeat (first | exact keeps_ok | exact keeps_bad | exact keeps_both | refine keeps_need ?_ | (rw [cond_eq_ite]; split) | split)
  case slice a b c d e =>
    cases e with
    | some m => exact keeps_bad
    | none => simp only [evalOp]; unfold rSlice; repeat (first | exact keeps_ok | exact keeps_bad | exact keeps_both | refine keeps_need ?_ | (rw [cond_eq_ite]; split) | split)
  case call c =>
    obtain ⟨callee, args, ts⟩ := c
    cases callee with
    | value f => exact absurd rfl (hc _ _ _)
    | invoke r m => exact keeps_bad
    | builtin b =>
      simp only [evalOp, rFin_no]
      unfold rBuiltin
      split
      · unfold rLen; repeat (first | exact keeps_ok | exact keeps_bad | exact keeps_both | refine keeps_need ?_ | (rw [cond_eq_ite]; split) | split)
      · cases h
      · unfold rMin; repeat (first | exact keeps_ok | exact keeps_bad | exact keeps_both | refine keeps_need ?_ | (rw [cond_eq_ite]; split) | split)
      · unfold rMax; repeat (first | exact keeps_ok | exact keeps_bad | exact keeps_both | refine keeps_need ?_ | (rw [cond_eq_ite]; split) | split)
      · unfold rUSD; repeat (first | exact keeps_ok | exact keeps_bad | exact keeps_both | refine keeps_need ?_ | (rw [cond_eq_ite]; split) | split)
      · cases h
      · cases h
      · exact keeps_bad

def SndT (P : Program) (t : ETask) (fr : List AV) (σ : ST) (e : AExit) (fr' : List AV) (σ' : ST) : Prop :=
  match t with
  | .code h c => ∀ Q : Post, Q e (toFR fr') σ' → W P h c Q (toFR fr) σ
  | .ops h l => ∀ Q : Post, Q e (toFR fr') σ' → AOps P h Q l (toFR fr) σ
  | .draw h l q => e = .normal ∧ ∀ (past : List ST) (pend : List PD), (q = true → past = []) → (∀ p, p ∈ pend → ∀ τ, p.ok P h τ) → ∀ K : FR → ST → Prop, K (toFR fr') σ' → DOps P h K l past pend (toFR fr) σ
  | .pcall g => ∃ v, e = .ret ∧ fr' = [v] ∧ PCall P g fr v ∧ plainFn P g = true ∧ σ' = σ
  | .call g => (∃ v, e = .ret ∧ fr' = [v] ∧ ∀ K X : AV → ST → Prop, K v σ' → callB P g fr σ K X) ∨ (∃ x, e = .panic x ∧ ∀ K X : AV → ST → Prop, X x σ' → callB P g fr σ K X)

theorem bIntS_free {op : BinOp} {k k' : IntKind} {x y : Int} {σ σ2 : ST} {v : AV} (h : (bIntS op k k' x y σ).run = some (v, σ2)) (τ : ST) :
    (bIntS op k k' x y τ).dholds fun v' τ' => v' = v ∧ τ' = τ := by
  have key : ∀ (p : Prop) [Decidable p] (a : AV), (Res.need p (.ok a σ)).run = some (v, σ2) → (Res.need p (.ok a τ)).dholds fun v' τ' => v' = v ∧ τ' = τ := by
    intro p _ a hh
    simp only [Res.run] at hh
    split at hh
    · rename_i hp; simp only [Option.some.injEq, Prod.mk.injEq] at hh; exact ⟨hp, hh.1, rfl⟩
    · cases hh
  have key2 : ∀ (a : AV), (Res.ok a σ).run = some (v, σ2) → (Res.ok a τ).dholds fun v' τ' => v' = v ∧ τ' = τ := by
    intro a hh
    simp only [Res.run, Option.some.injEq, Prod.mk.injEq] at hh
    exact ⟨hh.1, rfl⟩
  have key3 : ∀ (p q : Prop) [Decidable p] [Decidable q] (a : AV), (Res.need p (.need q (.ok a σ))).run = some (v, σ2) → (Res.need p (.need q (.ok a τ))).dholds fun v' τ' => v' = v ∧ τ' = τ := by
    intro p q _ _ a hh
    simp only [Res.run] at hh
    split at hh
    · rename_i hp
      split at hh
      · rename_i hq; simp only [Option.some.injEq, Prod.mk.injEq] at hh; exact ⟨hp, hq, hh.1, rfl⟩
      · cases hh
    · cases hh
  have bad : ∀ (p : Prop) [Decidable p], (Res.need p .bad).run = some (v, σ2) → (Res.need p .bad).dholds fun v' τ' => v' = v ∧ τ' = τ := by
    intro p _ hh
    simp only [Res.run] at hh
    split at hh <;> cases hh
  revert h
  unfold bIntS bInt
  cases op <;> first | exact key _ _ | exact key3 _ _ _ | exact bad _

theorem free_again {P : Program} {hh : Nat → Hint} {op : Op} {d : Option Nat} {t : Nat} {fr : FR} {σ σ2 : ST} {v : AV} (hf : freeOp fr op = true) (hno : hintOf hh d = .no)
    (h : (evalOp P .no t fr σ op).run = some (v, σ2)) (τ : ST) : Again P hh ⟨d, op, t, none⟩ fr v τ := by
  unfold freeOp at hf
  split at hf
  · unfold Again DOp
    simp only [hno, evalOp, rMove_no, Res.run, Option.some.injEq, Prod.mk.injEq] at h ⊢
    exact ⟨h.1, rfl⟩
  · split at hf
    · rename_i h1 h2
      unfold Again DOp
      simp only [evalOp, h1, h2, rBin_int] at h ⊢
      exact bIntS_free h τ
    · cases hf
  · cases hf

theorem setE_put {fr fr' : List AV} {d : Option Nat} {v : AV} (h : setE fr d v = some fr') : toFR fr' = put (toFR fr) d v := by
  unfold setE at h
  split at h
  · simp only [Option.some.injEq] at h; subst h; rfl
  · rename_i d
    cases hb : Nat.blt d fr.length
    · rw [hb] at h; cases h
    · rw [hb] at h
      simp only [cond_true, Option.some.injEq] at h
      subst h
      exact toFR_put fr d v (by simpa using hb)

theorem contE_some {fr : List AV} {d : Option Nat} {r : Option (AV × ST)} {k : List AV → ST → ERes} {x : AExit × List AV × ST} (h : contE fr d r k = some x) :
    ∃ v σ' fr', r = some (v, σ') ∧ toFR fr' = put (toFR fr) d v ∧ k fr' σ' = some x := by
  unfold contE at h
  split at h
  · rename_i v σ'
    split at h
    · rename_i fr' hs
      exact ⟨v, σ', fr', rfl, setE_put hs, h⟩
    · cases h
  · cases h

theorem outE_sound {fr : List AV} {σ : ST} {rs : List ResultVar} {v : AV} {K : AV → Prop} (h : outE P fr σ rs = some v) (hk : K v) : outW P (toFR fr) σ rs K := by
  have cell : ∀ {t : Nat} {a v : AV} {K : AV → Prop}, cellE P t a σ = some v → K v → cellW P t a σ K := by
    intro t a v K h hk
    unfold cellE at h
    unfold cellW
    split at h
    · split at h
      · rename_i hr
        simp only [Option.some.injEq] at h; subst h
        exact (Res.run_sound hr (K := fun v _ => K v) hk).1
      · cases h
    · cases h
  unfold outE at h
  unfold outW
  split at h <;> first | (simp only [Option.some.injEq] at h; subst h; exact hk) | skip
  · exact cell h hk
  · split at h
    · rename_i hc
      simp only [Option.some.injEq] at h; subst h
      exact cell hc hk
    · cases h
  · split at h
    · rename_i hc hc'
      simp only [Option.some.injEq] at h; subst h
      exact cell hc (cell hc' hk)
    · cases h
  · cases h

def Gd (fr : List AV) (gd : Option (Nat × Bool)) (yes no : Prop) : Prop :=
  match gd with
  | none => yes
  | some (g, b) => gateA (toFR fr g) b yes no
theorem gateE_true {fr : List AV} {gd : Option (Nat × Bool)} (h : gateE fr gd = some true) {yes no : Prop} (hy : yes) : Gd fr gd yes no := by
  cases gd with
  | none => exact hy
  | some gb =>
    obtain ⟨g, b⟩ := gb
    simp only [gateE] at h
    show gateA (fr.getD g .any) b yes no
    unfold gateA
    split at h
    · rename_i c hc
      rw [hc]
      simp only [Option.some.injEq] at h
      simp only [h, cond_true]; exact hy
    · cases h
    · cases h
theorem gateE_false {fr : List AV} {gd : Option (Nat × Bool)} (h : gateE fr gd = some false) {yes no : Prop} (hn : no) : Gd fr gd yes no := by
  cases gd with
  | none => simp [gateE] at h
  | some gb =>
    obtain ⟨g, b⟩ := gb
    simp only [gateE] at h
    show gateA (fr.getD g .any) b yes no
    unfold gateA
    split at h
    · rename_i c hc
      rw [hc]
      simp only [Option.some.injEq] at h
      simp only [h, cond_false]; exact hn
    · rename_i hc; rw [hc]; exact hn
    · cases h

/-- What an evaluation of code must keep. -/
def FOK (P : Program) (F : ETask → List AV → ST → ERes) : Prop :=
  ∀ (h : Nat → Hint) (c : PC) (fr : List AV) (σ : ST) (e : AExit) (fr' : List AV) (σ' : ST), F (.code h c) fr σ = some (e, fr', σ') → ∀ Q : Post, Q e (toFR fr') σ' → W P h c Q (toFR fr) σ

theorem evW_sound {F : ETask → List AV → ST → ERes} (hF : FOK P F) {h : Nat → Hint} {Q1 : Post} {Q2 : FuncId → List AV → Post} : ∀ (pc : PC) (fr : List AV) (σ : ST) (e : AExit) (fr' : List AV) (σ' : ST) (dd : Option (FuncId × List AV)),
    evW F h pc fr σ = some (e, fr', σ', dd) → (match dd with | none => Q1 e (toFR fr') σ' | some (g, avl) => Q2 g avl e (toFR fr') σ') → WD P h pc Q1 Q2 (toFR fr) σ := by
  intro pc
  have plain : ∀ (c : PC) (fr : List AV) (σ : ST) (e : AExit) (fr' : List AV) (σ' : ST) (dd : Option (FuncId × List AV)),
      (match F (.code h c) fr σ with | some (e, fr', σ') => some (e, fr', σ', (none : Option (FuncId × List AV))) | none => none) = some (e, fr', σ', dd) →
      (match dd with | none => Q1 e (toFR fr') σ' | some (g, avl) => Q2 g avl e (toFR fr') σ') → W P h c Q1 (toFR fr) σ := by
    intro c fr σ e fr' σ' dd hh hq
    split at hh
    · rename_i e1 fr1 σ1 h1
      simp only [Option.some.injEq, Prod.mk.injEq] at hh
      obtain ⟨rfl, rfl, rfl, rfl⟩ := hh
      exact hF _ _ _ _ _ _ _ h1 Q1 hq
    · cases hh
  induction pc with
  | seq a b iha ihb =>
    intro fr σ e fr' σ' dd hh hq
    unfold evW at hh
    unfold WD
    split at hh
    · rename_i d g first cap hd
      rw [hd]
      split at hh
      · rename_i fr1 hs
        split at hh
        · rename_i e1 fr2 σ1 h1
          simp only [Option.some.injEq, Prod.mk.injEq] at hh
          obtain ⟨rfl, rfl, rfl, rfl⟩ := hh
          have := hF _ _ _ _ _ _ _ h1 (Q2 g (first.map (aeval (toFR fr)) ++ cap.map (aeval (toFR fr)))) hq
          rw [setE_put hs] at this
          exact this
        · cases hh
      · cases hh
    · rename_i hd
      rw [hd]
      split at hh
      · rename_i fr1 σ1 h1
        exact hF _ _ _ _ _ _ _ h1 _ (ihb _ _ _ _ _ _ hh hq)
      · rename_i e1 fr1 σ1 hne h1
        simp only [Option.some.injEq, Prod.mk.injEq] at hh
        obtain ⟨rfl, rfl, rfl, rfl⟩ := hh
        refine hF _ _ _ _ _ _ _ h1 _ ?_
        cases e1 with
        | normal => exact absurd rfl hne
        | _ => exact hq
      · cases hh
  | _ => intro fr σ e fr' σ' dd hh hq; unfold evW at hh; unfold WD; exact plain _ _ _ _ _ _ _ hh hq

theorem prep_seq {c : Code} {a b : PC} (h : prep c = .seq a b) : ∃ x y, c = .seq x y ∧ prep x = a ∧ prep y = b := by
  unfold prep at h
  split at h <;> first | (simp only [PC.seq.injEq] at h; exact ⟨_, _, rfl, h.1, h.2⟩) | (simp only [reduceCtorEq] at h)

theorem evR_sound (hE : EnvOK P E) {F : ETask → List AV → ST → ERes} (hF : FOK P F) {g : FuncId} {args : List AV} {σ σ2 : ST} {pv : Option AV} (hh : evR F E g args σ pv = some σ2) :
    plainFn P g = true ∧ ∀ K : Bool → ST → Prop, K pv.isSome σ2 → DCall P g args σ pv K := by
  unfold evR at hh
  split at hh
  · rename_i ent hent
    obtain ⟨hf, hpl⟩ := hE.tab _ _ hent
    refine ⟨hpl, fun K hk => ?_⟩
    split at hh
    · rename_i px py hpc hrs
      split at hh
      · rename_i d1 d2 hrec
        cases hcb : (Nat.ble args.length ent.np && Nat.ble args.length ent.n)
        · rw [hcb] at hh; cases hh
        · rw [hcb] at hh
          simp only [cond_true] at hh
          simp only [Bool.and_eq_true, Nat.ble_eq] at hcb
          split at hh
          · rename_i fr1 hs1
            split at hh
            · rename_i fr2 hs2
              obtain ⟨fn, k1, k2, k3, k4, k5⟩ := hf.is
              unfold pcOf at k2
              unfold wfF at k3
              split at k2
              · rename_i c hb
                rw [hb] at k3
                rw [hpc] at k2
                obtain ⟨x, y, rfl, rfl, rfl⟩ := prep_seq k2
                have hres : fn.results = #[] := by rw [hrs] at k4; simpa using k4
                have fin : ∀ {e1 : AExit} {fr3 : List AV}, (e1 = .normal ∨ e1 = .ret) → F (.code ent.hint (prep y)) fr2 σ = some (e1, fr3, σ2) → DCall P g args σ pv K := by
                  intro e1 fr3 he h1
                  have hw := hF _ _ _ _ _ _ _ h1 (endR (K pv.isSome)) (by rcases he with rfl | rfl <;> exact hk)
                  rw [setE_put hs2, setE_put hs1, toFR_pad] at hw
                  exact DCall_of hf.mx ent.hint k1 hb k3 (Nat.le_trans hcb.1 k5) hres hrec hw
                split at hh
                · rename_i h1; cases hh; exact fin (.inl rfl) h1
                · rename_i h1; cases hh; exact fin (.inr rfl) h1
                · cases hh
              · rw [hpc] at k2; cases k2
            · cases hh
          · cases hh
      · cases hh
    · cases hh
  · cases hh

theorem fnE_sound (hE : EnvOK P E) {F : ETask → List AV → ST → ERes} (hF : FOK P F) {g : FuncId} {e : Ent} (hf : FnIs P g e.np e.rs e.pc) {args : List AV} {σ σ' : ST} {oc : Out} (hh : fnE P F E e args σ = some (oc, σ')) :
    ∀ K : Out → ST → Prop, K oc σ' → ACall P g args σ K := by
  intro K hk
  unfold fnE at hh
  cases hcb : (Nat.ble args.length e.np && Nat.ble args.length e.n)
  · rw [hcb] at hh; cases hh
  · rw [hcb] at hh
    simp only [cond_true] at hh
    simp only [Bool.and_eq_true, Nat.ble_eq] at hcb
    have main : ∀ {e1 : AExit} {fr1 : List AV} {σ1 : ST} {dd : Option (FuncId × List AV)}, evW F e.hint e.pc (args ++ List.replicate (e.n - args.length) .any) σ = some (e1, fr1, σ1, dd) →
        (match dd with | none => endA P e.rs K e1 (toFR fr1) σ1 | some (g, avl) => endD P e.rs K g avl e1 (toFR fr1) σ1) → ACall P g args σ K := by
      intro e1 fr1 σ1 dd h1 hq
      have hw := evW_sound hF (Q1 := endA P e.rs K) (Q2 := endD P e.rs K) _ _ _ _ _ _ _ h1 hq
      rw [toFR_pad] at hw
      obtain ⟨fn, k1, k2, k3, k4, k5⟩ := hf.is
      unfold pcOf at k2
      unfold wfF at k3
      split at k2
      · rename_i c hb
        rw [hb] at k3
        rw [← k2, ← k4] at hw
        exact call_of_WD hf.mx e.hint k1 hb k3 (Nat.le_trans hcb.1 k5) hw
      · rename_i hb
        rw [hb] at k3; cases k3
    have out : ∀ {fr1 : List AV} {σ1 : ST}, (outE P fr1 σ1 e.rs).map (fun v => (Out.ret v, σ1)) = some (oc, σ') → outW P (toFR fr1) σ1 e.rs fun v => K (.ret v) σ1 := by
      intro fr1 σ1 ho
      rw [Option.map_eq_some_iff] at ho
      obtain ⟨v, h1, h2⟩ := ho
      simp only [Prod.mk.injEq] at h2
      obtain ⟨rfl, rfl⟩ := h2
      exact outE_sound h1 hk
    split at hh
    · rename_i fr1 σ1 h1; exact main h1 (out hh)
    · rename_i fr1 σ1 h1; exact main h1 (out hh)
    · rename_i x fr1 σ1 h1
      simp only [Option.some.injEq, Prod.mk.injEq] at hh
      obtain ⟨rfl, rfl⟩ := hh
      exact main h1 hk
    · rename_i fr1 σ1 g1 avl h1
      obtain ⟨σ2, hr, ho⟩ := Option.bind_eq_some_iff.1 hh
      obtain ⟨hpl, hd⟩ := evR_sound hE hF hr
      exact main h1 ⟨hpl, hd _ (out ho)⟩
    · rename_i fr1 σ1 g1 avl h1
      obtain ⟨σ2, hr, ho⟩ := Option.bind_eq_some_iff.1 hh
      obtain ⟨hpl, hd⟩ := evR_sound hE hF hr
      exact main h1 ⟨hpl, hd _ (out ho)⟩
    · rename_i x fr1 σ1 g1 avl h1
      obtain ⟨σ2, hr, ho⟩ := Option.bind_eq_some_iff.1 hh
      obtain ⟨hpl, hd⟩ := evR_sound hE hF hr
      exact main h1 ⟨hpl, hd _ (out ho)⟩
    · cases hh

theorem ev_sound (hE : EnvOK P E) : ∀ (n : Nat) (t : ETask) (fr : List AV) (σ : ST) (e : AExit) (fr' : List AV) (σ' : ST), ev P E n t fr σ = some (e, fr', σ') → SndT P t fr σ e fr' σ' := by
  intro n
  induction n with
  | zero => intro t fr σ e fr' σ' h; simp [ev] at h
  | succ n ih =>
    intro t fr σ e fr' σ' h
    have hFOK : FOK P (ev P E n) := fun h c fr σ e fr' σ' hh => ih _ _ _ _ _ _ hh
    cases t with
    | code hh c =>
      intro Q hQ
      cases c with
      | skip => simp only [ev, Option.some.injEq, Prod.mk.injEq] at h; obtain ⟨rfl, rfl, rfl⟩ := h; exact hQ
      | ret => simp only [ev, Option.some.injEq, Prod.mk.injEq] at h; obtain ⟨rfl, rfl, rfl⟩ := h; exact hQ
      | exit i => simp only [ev, Option.some.injEq, Prod.mk.injEq] at h; obtain ⟨rfl, rfl, rfl⟩ := h; exact hQ
      | other => simp [ev] at h
      | seq a b =>
        simp only [ev] at h
        show W P hh a (thenA (fun fr σ => W P hh b Q fr σ) Q) (toFR fr) σ
        split at h
        · rename_i fr1 σ1 h1
          exact ih _ _ _ _ _ _ h1 _ (ih _ _ _ _ _ _ h Q hQ)
        · rename_i hne
          refine ih _ _ _ _ _ _ h _ ?_
          cases e with
          | normal => exact absurd h (hne _ _)
          | _ => exact hQ
      | cond c x y =>
        simp only [ev] at h
        show condA (aeval (toFR fr) c) _ _
        split at h
        · rename_i hc; rw [hc]; exact ih _ _ _ _ _ _ h Q hQ
        · rename_i hc; rw [hc]; exact ih _ _ _ _ _ _ h Q hQ
        · cases h
      | block id b =>
        simp only [ev] at h
        show W P hh b (blockA id Q) (toFR fr) σ
        split at h
        · rename_i i fr1 σ1 h1
          refine ih _ _ _ _ _ _ h1 _ ?_
          cases hb : Nat.beq i id
          · rw [hb] at h
            simp only [cond_false, Option.some.injEq, Prod.mk.injEq] at h
            obtain ⟨rfl, rfl, rfl⟩ := h
            rw [blockA_exit, if_neg (by intro hc; rw [hc, Nat.beq_refl] at hb; cases hb)]
            exact hQ
          · rw [hb] at h
            simp only [cond_true, Option.some.injEq, Prod.mk.injEq] at h
            obtain ⟨rfl, rfl, rfl⟩ := h
            rw [blockA_exit, if_pos (Nat.eq_of_beq_eq_true hb)]
            exact hQ
        · rename_i hne
          refine ih _ _ _ _ _ _ h _ ?_
          cases e with
          | exit i => exact absurd h (hne _ _ _)
          | _ => exact hQ
      | loop b =>
        simp only [ev] at h
        show LoopW (fun Q fr σ => W P hh b Q fr σ) Q (toFR fr) σ
        refine LoopW.step ?_
        split at h
        · rename_i fr1 σ1 h1
          exact ih _ _ _ _ _ _ h1 _ (ih _ _ _ _ _ _ h Q hQ)
        · rename_i hne
          refine ih _ _ _ _ _ _ h _ ?_
          cases e with
          | normal => exact absurd h (hne _ _)
          | _ => exact hQ
      | region l =>
        simp only [ev] at h
        exact ih _ _ _ _ _ _ h Q hQ
      | draw l =>
        simp only [ev] at h
        obtain ⟨rfl, hd⟩ := ih _ _ _ _ _ _ h
        exact hd [] [] (fun _ => rfl) (fun p hp => by cases hp) _ hQ
    | ops hh l =>
      intro Q hQ
      cases l with
      | nil => simp only [ev, Option.some.injEq, Prod.mk.injEq] at h; obtain ⟨rfl, rfl, rfl⟩ := h; exact hQ
      | cons o rest =>
        have fin : ∀ {yes no : Prop}, Gd fr o.guard yes no →
            (yes = AOp P hh o (fun v σ' => AOps P hh Q rest (put (toFR fr) o.dst v) σ') (fun x σ' => Q (.panic x) (toFR fr) σ') (toFR fr) σ) → (no = AOps P hh Q rest (put (toFR fr) o.dst (.tuple [])) σ) → AOps P hh Q (o :: rest) (toFR fr) σ := by
          intro yes no hm hy hn
          subst hy hn
          unfold AOps
          unfold Gd at hm
          revert hm
          cases o.guard with
          | none => exact fun h => h
          | some gb => exact fun h => h
        simp only [ev] at h
        split at h
        · rename_i hg
          obtain ⟨v, σ1, fr1, h1, h2, h3⟩ := contE_some h
          simp only [Option.some.injEq, Prod.mk.injEq] at h1
          obtain ⟨rfl, rfl⟩ := h1
          refine fin (gateE_false hg ?_) rfl rfl
          have := ih _ _ _ _ _ _ h3 Q hQ
          rwa [h2] at this
        · rename_i hg
          refine fin (gateE_true hg ?_) rfl rfl
          unfold AOp
          split at h
          · rename_i f args ts hop
            rw [hop]
            show callA P _ _ σ _ _
            unfold callA
            split at h
            · rename_i g first cap hc
              rw [hc]
              split at h
              · rename_i v σ1 hcall
                rcases ih _ _ _ _ _ _ hcall with ⟨v', _, hv', hk⟩ | ⟨x, he, _⟩
                · simp only [List.cons.injEq, and_true] at hv'
                  subst hv'
                  obtain ⟨v2, σ2, fr2, h1, h2, h3⟩ := contE_some h
                  simp only [Option.some.injEq, Prod.mk.injEq] at h1
                  obtain ⟨rfl, rfl⟩ := h1
                  refine hk _ _ ?_
                  have := ih _ _ _ _ _ _ h3 Q hQ
                  rwa [h2] at this
                · cases he
              · rename_i x fr1 σ1 hcall
                simp only [Option.some.injEq, Prod.mk.injEq] at h
                obtain ⟨rfl, rfl, rfl⟩ := h
                rcases ih _ _ _ _ _ _ hcall with ⟨v', he, _⟩ | ⟨x', he, hk⟩
                · cases he
                · simp only [AExit.panic.injEq] at he
                  subst he
                  exact hk _ _ hQ
              · cases h
            · cases h
          · rename_i x hop
            rw [hop]
            show panicA _ σ _
            unfold panicA
            split at h
            · rename_i u y hx
              rw [hx]
              simp only [Option.some.injEq, Prod.mk.injEq] at h
              obtain ⟨rfl, rfl, rfl⟩ := h
              exact hQ
            · rename_i u y hx
              rw [hx]
              simp only [Option.some.injEq, Prod.mk.injEq] at h
              obtain ⟨rfl, rfl, rfl⟩ := h
              exact hQ
            · cases h
          · rename_i s d x hop
            rw [hop]
            obtain ⟨v, σ1, fr1, h1, h2, h3⟩ := contE_some h
            exact (Res.run_sound (K := fun v σ' => AOps P hh Q rest (put (toFR fr) o.dst v) σ') h1 (by have := ih _ _ _ _ _ _ h3 Q hQ; rwa [h2] at this)).1
          · rename_i hne hnp hnc
            obtain ⟨v, σ1, fr1, h1, h2, h3⟩ := contE_some h
            have key : (evalOp P (hintOf hh o.dst) o.type (toFR fr) σ o.op).holds (fun v σ' => AOps P hh Q rest (put (toFR fr) o.dst v) σ') :=
              (Res.run_sound h1 (by have := ih _ _ _ _ _ _ h3 Q hQ; rwa [h2] at this)).1
            split
            · rename_i x hop; rw [hop] at key; exact key.elim
            · rename_i s d x hop; exact absurd hop (hnc _ _ _)
            · rename_i f args ts hop; exact absurd hop (hne _ _ _)
            · exact key
        · cases h
    | draw hh l q =>
      cases l with
      | nil =>
        simp only [ev, Option.some.injEq, Prod.mk.injEq] at h
        obtain ⟨rfl, rfl, rfl⟩ := h
        exact ⟨rfl, fun past pend hp hf K hK => hK⟩
      | cons o rest =>
        have fin : ∀ {past : List ST} {pend : List PD} {K : FR → ST → Prop} {yes no : Prop}, Gd fr o.o.guard yes no →
            (yes = DOp P hh o.o (fun v σ' => dNext P hh o past pend (toFR fr) σ v σ' ∧ DOps P hh K rest (dPast o past σ) (dPend o pend (toFR fr) v) (put (toFR fr) o.o.dst v) σ') (toFR fr) σ) →
            (no = DOps P hh K rest past pend (put (toFR fr) o.o.dst (.tuple [])) σ) → DOps P hh K (o :: rest) past pend (toFR fr) σ := by
          intro past pend K yes no hm hy hn
          subst hy hn
          unfold DOps
          unfold Gd at hm
          revert hm
          cases o.o.guard with
          | none => exact fun h => h
          | some gb => exact fun h => h
        simp only [ev] at h
        split at h
        · rename_i hg
          obtain ⟨v, σ1, fr1, h1, h2, h3⟩ := contE_some h
          simp only [Option.some.injEq, Prod.mk.injEq] at h1
          obtain ⟨rfl, rfl⟩ := h1
          obtain ⟨he, hd⟩ := ih _ _ _ _ _ _ h3
          refine ⟨he, fun past pend hp hfr K hK => fin (gateE_false hg ?_) rfl rfl⟩
          have := hd past pend hp hfr K hK
          rwa [h2] at this
        · rename_i hg
          split at h
          · rename_i f args ts hop
            split at h
            · rename_i g first cap hc
              cases hcb : (o.eff || o.fwd || (o.back && !q))
              · rw [hcb] at h
                simp only [cond_false] at h
                simp only [Bool.or_eq_false_iff, Bool.and_eq_false_iff, Bool.not_eq_false'] at hcb
                obtain ⟨⟨he0, hf0⟩, hb0⟩ := hcb
                split at h
                · rename_i v σ1 hcall
                  obtain ⟨v', _, hv', hpc, hpl, _⟩ := ih _ _ _ _ _ _ hcall
                  simp only [List.cons.injEq, and_true] at hv'
                  subst hv'
                  obtain ⟨v2, σ2, fr2, h1, h2, h3⟩ := contE_some h
                  simp only [Option.some.injEq, Prod.mk.injEq] at h1
                  obtain ⟨rfl, rfl⟩ := h1
                  obtain ⟨he, hd⟩ := ih _ _ _ _ _ _ h3
                  refine ⟨he, fun past pend hp hfr K hK => fin (gateE_true hg ?_) rfl rfl⟩
                  unfold DOp
                  rw [hop]
                  refine ⟨v, ?_, ?_⟩
                  · unfold callA
                    rw [hc]
                    show callB P g _ σ _ _
                    unfold callB
                    rw [hpl]
                    exact hpc.use ⟨rfl, rfl⟩
                  · refine ⟨?_, ?_⟩
                    · unfold dNext
                      rw [he0]
                      refine ⟨rfl, fun hb τ hτ => ?_⟩
                      rcases hb0 with hb0 | hb0
                      · rw [hb0] at hb; cases hb
                      · rw [hp hb0] at hτ; cases hτ
                    · have e1 : dPast o past σ = past := by unfold dPast; rw [he0]; rfl
                      have e2 : dPend o pend (toFR fr) v = pend := by unfold dPend; rw [hf0]; rfl
                      rw [e1, e2]
                      have := hd past pend hp hfr K hK
                      rwa [h2] at this
                · cases h
              · rw [hcb] at h; cases h
            · cases h
          · rename_i hne
            have dop : ∀ {R : AV → ST → Prop}, (evalOp P (hintOf hh o.o.dst) o.o.type (toFR fr) σ o.o.op).dholds R → DOp P hh o.o R (toFR fr) σ := by
              intro R hR
              unfold DOp
              split
              · rename_i f args ts hop; exact absurd hop (hne _ _ _)
              · exact hR
            cases he0 : o.eff
            · rw [he0] at h
              simp only [cond_false] at h
              cases hcb : (isEff o.o.op || ((o.fwd || (o.back && !q)) && !freeOp (toFR fr) o.o.op))
              · rw [hcb] at h
                simp only [cond_false] at h
                rw [Bool.or_eq_false_iff] at hcb
                obtain ⟨hi0, hfb⟩ := hcb
                split at h
                · rename_i hno
                  obtain ⟨v2, σ2, fr2, h1, h2, h3⟩ := contE_some h
                  have hσ := evalOp_keeps hi0 hne v2 σ2 h1
                  subst hσ
                  have hag : (o.fwd || (o.back && !q)) = true → ∀ τ, Again P hh ⟨o.o.dst, o.o.op, o.o.type, none⟩ (toFR fr) v2 τ := fun hq τ => by
                    rw [hq, Bool.true_and, Bool.not_eq_false'] at hfb
                    exact free_again hfb hno h1 τ
                  obtain ⟨he, hd⟩ := ih _ _ _ _ _ _ h3
                  refine ⟨he, fun past pend hp hfr K hK => fin (gateE_true hg (dop ?_)) rfl rfl⟩
                  rw [hno]
                  refine (Res.run_sound h1 ?_).2
                  refine ⟨?_, ?_⟩
                  · unfold dNext
                    rw [he0]
                    refine ⟨rfl, fun hb τ hτ => ?_⟩
                    cases hq0 : q
                    · have := hag (by rw [hb, hq0]; simp) τ
                      unfold Again at this ⊢
                      unfold DOp at this ⊢
                      exact this
                    · rw [hp hq0] at hτ; cases hτ
                  · have e1 : dPast o past σ2 = past := by unfold dPast; rw [he0]; rfl
                    rw [e1]
                    have hfr2 : ∀ p, p ∈ dPend o pend (toFR fr) v2 → ∀ τ, p.ok P hh τ := by
                      unfold dPend
                      rw [he0]
                      cases hf0 : o.fwd
                      · exact hfr
                      · intro p hp2 τ
                        simp only [Bool.not_false, Bool.and_self, cond_true] at hp2
                        rcases List.mem_cons.1 hp2 with e | hp2
                        · rw [e]; exact hag (by rw [hf0]; rfl) τ
                        · exact hfr p hp2 τ
                    have := hd past _ hp hfr2 K hK
                    rwa [h2] at this
                · cases h
              · rw [hcb] at h; cases h
            · rw [he0] at h
              simp only [cond_true] at h
              obtain ⟨v2, σ2, fr2, h1, h2, h3⟩ := contE_some h
              obtain ⟨he, hd⟩ := ih _ _ _ _ _ _ h3
              refine ⟨he, fun past pend hp hfr K hK => fin (gateE_true hg (dop ?_)) rfl rfl⟩
              refine (Res.run_sound h1 ?_).2
              refine ⟨?_, ?_⟩
              · unfold dNext
                rw [he0]
                intro p hp'; exact hfr p hp' _
              · have e2 : dPend o pend (toFR fr) v2 = pend := by unfold dPend; rw [he0]; simp
                rw [e2]
                have := hd (dPast o past σ) pend (fun hq => by cases hq) hfr K hK
                rwa [h2] at this
        · cases h
    | pcall g =>
      simp only [ev] at h
      split at h
      · rename_i v hs
        simp only [Option.some.injEq, Prod.mk.injEq] at h
        obtain ⟨rfl, rfl, rfl⟩ := h
        obtain ⟨h1, h2⟩ := hE.spec _ _ _ hs
        exact ⟨v, rfl, rfl, h1, h2, rfl⟩
      · split at h
        · rename_i ent hent
          obtain ⟨hf, hpl⟩ := hE.tab _ _ hent
          cases hcb : (ent.gc && AV.pure.pures fr)
          · rw [hcb] at h; cases h
          · rw [hcb] at h
            simp only [cond_true] at h
            simp only [Bool.and_eq_true] at hcb
            split at h
            · rename_i v σ1 h1
              cases hv : v.pure
              · rw [hv] at h; cases h
              · rw [hv] at h
                simp only [cond_true, Option.some.injEq, Prod.mk.injEq] at h
                obtain ⟨rfl, rfl, rfl⟩ := h
                exact ⟨v, rfl, rfl, PCall.of_nil hcb.2 hv (fnE_sound hE hFOK hf h1 _ rfl), hpl, rfl⟩
            · cases h
        · cases h
    | call g =>
      have viaP : ∀ {args : List AV} {v : AV}, PCall P g args v → plainFn P g = true → ∀ K X : AV → ST → Prop, K v σ → callB P g args σ K X := by
        intro args v hpc hpl K X hk
        unfold callB
        rw [hpl]
        exact hpc.use hk
      simp only [ev] at h
      split at h
      · rename_i r hp
        simp only [Option.some.injEq] at h
        subst h
        obtain ⟨v, rfl, rfl, hpc, hpl, rfl⟩ := ih _ _ _ _ _ _ hp
        exact .inl ⟨v, rfl, rfl, viaP hpc hpl⟩
      · cases hes : E.esc g
        · rw [hes] at h
          simp only [cond_false] at h
          split at h
          · rename_i ent hent
            obtain ⟨hf, hpl⟩ := hE.tab _ _ hent
            cases hgc : ent.gc
            · rw [hgc] at h
              simp only [cond_false] at h
              split at h
              · rename_i v σ1 h1
                simp only [Option.some.injEq, Prod.mk.injEq] at h
                obtain ⟨rfl, rfl, rfl⟩ := h
                refine .inl ⟨v, rfl, rfl, fun K X hk => ?_⟩
                unfold callB
                rw [hpl]
                exact fnE_sound hE hFOK hf h1 (outK K X) hk
              · rename_i x σ1 h1
                simp only [Option.some.injEq, Prod.mk.injEq] at h
                obtain ⟨rfl, rfl, rfl⟩ := h
                refine .inr ⟨x, rfl, fun K X hk => ?_⟩
                unfold callB
                rw [hpl]
                exact fnE_sound hE hFOK hf h1 (outK K X) hk
              · cases h
            · rw [hgc] at h
              simp only [cond_true] at h
              split at h
              · rename_i v σ1 hp
                obtain ⟨v', _, hv', hpc, _, _⟩ := ih _ _ _ _ _ _ hp
                simp only [List.cons.injEq, and_true] at hv'
                subst hv'
                cases hcb : (v.scalar && AV.pure.pures (fr.map (lent σ)))
                · rw [hcb] at h; cases h
                · rw [hcb] at h
                  simp only [cond_true, Option.some.injEq, Prod.mk.injEq] at h
                  obtain ⟨rfl, rfl, rfl⟩ := h
                  simp only [Bool.and_eq_true] at hcb
                  refine .inl ⟨v, rfl, rfl, fun K X hk => ?_⟩
                  unfold callB
                  rw [hpl]
                  exact hpc.lend hcb.2 hcb.1 hk
              · cases h
          · cases h
        · rw [hes] at h
          simp only [cond_true] at h
          obtain ⟨hne, hpl⟩ := hE.esc _ hes
          split at h
          · rename_i x hx0
            simp only [Option.some.injEq, Prod.mk.injEq] at h
            obtain ⟨rfl, rfl, rfl⟩ := h
            refine .inl ⟨x, rfl, rfl, fun K X hk => ?_⟩
            unfold callB
            rw [hpl]
            exact ⟨hne, hk⟩
          · cases h

/-- A call of a function without arguments that the evaluation carries through. -/
theorem ev_pcall (hE : EnvOK P E) {n g : Nat} {args : List AV} {v : AV} (h : ev P E n (.pcall g) args [] = some (.ret, [v], [])) : PCall P g args v := by
  obtain ⟨v', _, hv, hp, _⟩ := ev_sound hE n _ _ _ _ _ _ h
  simp only [List.cons.injEq, and_true] at hv
  rw [hv]; exact hp

/-- Every function of a program, avl the evaluation takes it. -/
def stdTab (P : Program) (hints : Nat → Nat → Hint) (gc : Nat → Bool) (g : Nat) : Option Ent :=
  match P.funcs[g]? with
  | some fn => bif wfF fn && plainFn P g then some ⟨fn.ntmps, fn.ntmps, fn.results.toList, pcOf fn, hints g, gc g⟩ else none
  | none => none

theorem stdTab_ok (hm : P.follows .mixedOrders = true) {hints : Nat → Nat → Hint} {gc : Nat → Bool} : ∀ g e, stdTab P hints gc g = some e → FnIs P g e.np e.rs e.pc ∧ plainFn P g = true := by
  intro g e h
  unfold stdTab at h
  split at h
  · rename_i fn hfn
    cases hb : (wfF fn && plainFn P g)
    · rw [hb] at h; cases h
    · rw [hb] at h
      simp only [cond_true, Option.some.injEq] at h
      subst h
      simp only [Bool.and_eq_true] at hb
      exact ⟨⟨hm, fn, hfn, rfl, hb.1, rfl, Nat.le_refl _⟩, hb.2⟩
  · cases h
end
end Nv
set_option linter.unusedVariables false
set_option linter.unusedSimpArgs false
/- Proved calls avl a table: what an evaluation need not run again. -/
namespace Nv
open Go

def strB : List UInt8 → List UInt8 → Bool
  | [], [] => true
  | a :: l, b :: m => bif Nat.beq a.toNat b.toNat then strB l m else false
  | _, _ => false

theorem strB_eq : ∀ {l m : List UInt8}, strB l m = true → l = m
  | [], [], _ => rfl
  | [], _ :: _, h => by cases h
  | _ :: _, [], h => by cases h
  | a :: l, b :: m, h => by
    simp only [strB] at h
    cases hb : Nat.beq a.toNat b.toNat
    · rw [hb] at h; cases h
    · rw [hb] at h
      rw [UInt8.toNat_inj.mp (Nat.eq_of_beq_eq_true hb), strB_eq h]

mutual
def DV.eqb : DV → DV → Bool
  | .int k n, .int k' n' => bif decide (k = k') then decide (n = n') else false
  | .bool b, .bool b' => b == b'
  | .str s, .str s' => strB s s'
  | .nilptr, .nilptr => true
  | .nilslice, .nilslice => true
  | .nilmap, .nilmap => true
  | .nilfunc, .nilfunc => true
  | .niliface, .niliface => true
  | .list e xs, .list e' ys => bif Nat.beq e e' then DV.eqbs xs ys else false
  | .agg xs, .agg ys => DV.eqbs xs ys
  | _, _ => false
def DV.eqbs : List DV → List DV → Bool
  | [], [] => true
  | x :: xs, y :: ys => bif DV.eqb x y then DV.eqbs xs ys else false
  | _, _ => false
end

mutual
theorem DV.eqb_eq : ∀ {x y : DV}, DV.eqb x y = true → x = y
  | .int k n, y, h => by
    cases y <;> simp only [DV.eqb, cond_eq_ite, Bool.false_eq_true] at h
    split at h
    · rename_i h1; rw [of_decide_eq_true h1, of_decide_eq_true h]
    · cases h
  | .bool b, y, h => by cases y <;> simp only [DV.eqb, Bool.false_eq_true] at h; rw [eq_of_beq h]
  | .str s, y, h => by cases y <;> simp only [DV.eqb, Bool.false_eq_true] at h; rw [strB_eq h]
  | .nilptr, y, h => by cases y <;> simp only [DV.eqb, Bool.false_eq_true] at h; rfl
  | .nilslice, y, h => by cases y <;> simp only [DV.eqb, Bool.false_eq_true] at h; rfl
  | .nilmap, y, h => by cases y <;> simp only [DV.eqb, Bool.false_eq_true] at h; rfl
  | .nilfunc, y, h => by cases y <;> simp only [DV.eqb, Bool.false_eq_true] at h; rfl
  | .niliface, y, h => by cases y <;> simp only [DV.eqb, Bool.false_eq_true] at h; rfl
  | .func f, y, h => by cases y <;> simp only [DV.eqb, Bool.false_eq_true] at h
  | .iface t x, y, h => by cases y <;> simp only [DV.eqb, Bool.false_eq_true] at h
  | .list e xs, y, h => by
    cases y <;> simp only [DV.eqb, cond_eq_ite, Bool.false_eq_true] at h
    split at h
    · rename_i h1; rw [Nat.eq_of_beq_eq_true h1, DV.eqbs_eq h]
    · cases h
  | .agg xs, y, h => by cases y <;> simp only [DV.eqb, Bool.false_eq_true] at h; rw [DV.eqbs_eq h]
theorem DV.eqbs_eq : ∀ {x y : List DV}, DV.eqbs x y = true → x = y
  | [], [], _ => rfl
  | [], _ :: _, h => by simp only [DV.eqbs, Bool.false_eq_true] at h
  | _ :: _, [], h => by simp only [DV.eqbs, Bool.false_eq_true] at h
  | x :: xs, y :: ys, h => by
    simp only [DV.eqbs, cond_eq_ite] at h
    split at h
    · rename_i h1; rw [DV.eqb_eq h1, DV.eqbs_eq h]
    · cases h
end

mutual
def AV.eqb : AV → AV → Bool
  | .d x, .d y => DV.eqb x y
  | .agg xs, .agg ys => AV.eqbs xs ys
  | _, _ => false
def AV.eqbs : List AV → List AV → Bool
  | [], [] => true
  | x :: xs, y :: ys => bif AV.eqb x y then AV.eqbs xs ys else false
  | _, _ => false
end

mutual
theorem AV.eqb_eq : ∀ {x y : AV}, AV.eqb x y = true → x = y
  | .d x, y, h => by cases y <;> simp only [AV.eqb, Bool.false_eq_true] at h; rw [DV.eqb_eq h]
  | .agg xs, y, h => by cases y <;> simp only [AV.eqb, Bool.false_eq_true] at h; rw [AV.eqbs_eq h]
  | .any, y, h => by simp only [AV.eqb, Bool.false_eq_true] at h
  | .ptr _ _, y, h => by simp only [AV.eqb, Bool.false_eq_true] at h
  | .own _ _ _ _, y, h => by simp only [AV.eqb, Bool.false_eq_true] at h
  | .eptr _ _ _ _, y, h => by simp only [AV.eqb, Bool.false_eq_true] at h
  | .iptr _, y, h => by simp only [AV.eqb, Bool.false_eq_true] at h
  | .aptr, y, h => by simp only [AV.eqb, Bool.false_eq_true] at h
  | .tuple _, y, h => by simp only [AV.eqb, Bool.false_eq_true] at h
  | .func _ _ _, y, h => by simp only [AV.eqb, Bool.false_eq_true] at h
  | .iface _ _, y, h => by simp only [AV.eqb, Bool.false_eq_true] at h
  | .map _, y, h => by simp only [AV.eqb, Bool.false_eq_true] at h
  | .itr _, y, h => by simp only [AV.eqb, Bool.false_eq_true] at h
theorem AV.eqbs_eq : ∀ {x y : List AV}, AV.eqbs x y = true → x = y
  | [], [], _ => rfl
  | [], _ :: _, h => by simp only [AV.eqbs, Bool.false_eq_true] at h
  | _ :: _, [], h => by simp only [AV.eqbs, Bool.false_eq_true] at h
  | x :: xs, y :: ys, h => by
    simp only [AV.eqbs, cond_eq_ite] at h
    split at h
    · rename_i h1; rw [AV.eqb_eq h1, AV.eqbs_eq h]
    · cases h
end

structure Known where
  f : Nat
  args : List AV
  r : AV

def findK (g : Nat) (args : List AV) : List Known → Option AV
  | [] => none
  | k :: l => bif Nat.beq k.f g then bif AV.eqbs k.args args then some k.r else findK g args l else findK g args l

def Eenv.know (E : Eenv) (l : List Known) : Eenv := ⟨E.tab, fun g args => match findK g args l with
  | some v => some v
  | none => E.spec g args, E.esc⟩

def AllK (P : Program) : List Known → Prop
  | [] => True
  | k :: l => (PCall P k.f k.args k.r ∧ plainFn P k.f = true) ∧ AllK P l

theorem findK_sound {P : Program} {g : Nat} {args : List AV} {r : AV} : ∀ {l : List Known}, AllK P l → findK g args l = some r → PCall P g args r ∧ plainFn P g = true
  | [], _, h => by cases h
  | k :: l, ⟨h1, h2⟩, h => by
    simp only [findK, cond_eq_ite] at h
    split at h
    · rename_i hg
      have hg := Nat.eq_of_beq_eq_true hg
      split at h
      · rename_i ha
        have ha := AV.eqbs_eq ha
        cases h; subst hg; subst ha; exact h1
      · exact findK_sound h2 h
    · exact findK_sound h2 h

theorem EnvOK.know {P : Program} {E : Eenv} (h : EnvOK P E) {l : List Known} (hl : AllK P l) : EnvOK P (E.know l) := by
  refine ⟨h.tab, fun g args r hr => ?_, h.esc⟩
  simp only [Eenv.know] at hr
  split at hr
  · rename_i v hv
    cases hr
    exact findK_sound hl hv
  · exact h.spec g args r hr
end Nv
