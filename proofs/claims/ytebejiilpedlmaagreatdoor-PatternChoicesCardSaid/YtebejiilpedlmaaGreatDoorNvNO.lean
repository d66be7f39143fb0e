/- Part of a proof about the functions of this seat. -/
import Derived.Test.YtebejiilpedlmaaGreatDoorNvM
/- Contracts of functions that hand back data: from the empty store to every store; slices that are lent. -/

set_option linter.unusedVariables false
set_option linter.unusedSimpArgs false
namespace Nv
open Go

theorem pures_mem {l : List AV} (h : AV.pure.pures l = true) : ∀ c, c ∈ l → c.pure = true := by
  induction l with
  | nil => simp
  | cons x l ih =>
    simp only [AV.pure.pures, Bool.and_eq_true] at h
    intro c hc
    rcases List.mem_cons.1 hc with h1 | h1
    · rw [h1]; exact h.1
    · exact ih h.2 c h1

@[go_sem] theorem pure_d (x : DV) : (AV.d x).pure = true := by simp [AV.pure]
@[go_sem] theorem pure_agg (l : List AV) : (AV.agg l).pure = AV.pure.pures l := by simp [AV.pure]
@[go_sem] theorem pure_tuple (l : List AV) : (AV.tuple l).pure = AV.pure.pures l := by simp [AV.pure]
@[go_sem] theorem pures_nil : AV.pure.pures [] = true := by simp [AV.pure.pures]
@[go_sem] theorem pures_cons (a : AV) (l : List AV) : AV.pure.pures (a :: l) = (a.pure && AV.pure.pures l) := by simp [AV.pure.pures]

section
variable {P : Program} {ρ ρ' : RHO} {σ σ' : ST} {I I' : Nat → Prop} {w w' : World}

theorem V.pure {a : AV} {v : Value} (h : V ρ σ I w a v) (hp : a.pure = true) : V ρ' σ' I w a v := by
  induction h with
  | any v => exact .any v
  | d h => exact .d h
  | agg h1 h2 ih =>
    rw [pure_agg] at hp
    exact .agg h1 (fun j c hj => ih j c hj (pures_mem hp c (List.mem_of_getElem? hj)))
  | tuple h1 h2 ih =>
    rw [pure_tuple] at hp
    exact .tuple h1 (fun j c hj => ih j c hj (pures_mem hp c (List.mem_of_getElem? hj)))
  | _ => simp [AV.pure] at hp

/-- A contract: with these values the function hands back that one, and the store is avl it was. -/
def PCall (P : Program) (f : FuncId) (args : List AV) (r : AV) : Prop := ∀ σ, ACall P f args σ fun oc σ' => oc = .ret r ∧ σ' = σ

theorem PCall.use {f : FuncId} {args : List AV} {r : AV} {K : Out → ST → Prop} (h : PCall P f args r) (hk : K (.ret r) σ) : ACall P f args σ K :=
  (h σ).mono fun oc σ' ⟨h1, h2⟩ => by subst h1 h2; exact hk

theorem PCall.ret {f : FuncId} {args : List AV} {r : AV} {K E : AV → ST → Prop} (h : PCall P f args r) (hk : K r σ) : ACall P f args σ (outK K E) := h.use hk

theorem rs_nil (hr : RS P ρ I w σ) (J : Nat → Prop) (hJI : ∀ B, I B → J B) (hJ : ∀ B, J B → I B ∨ Lives ρ σ B) : RS P ρ J w [] :=
  ⟨fun i blk h => by simp at h, fun i j bi bj B h => by simp at h, fun B ⟨i, blk, h, _⟩ => by simp at h, fun B h => (hJ B h).elim (hr.bound B) (fun h => lives_heap hr h), hr.tabs.keep hJI fun _ _ => rfl⟩

theorem no_lives (B : Nat) : ¬ Lives ρ [] B := fun ⟨i, blk, h, _⟩ => by simp at h

/-- A call that was carried out with an empty store: what it means for the caller's. -/
theorem back (hr : RS P ρ I w σ) {J J' : Nat → Prop} (hJI : ∀ B, I B → J B) (hJ : ∀ B, J B → I B ∨ Lives ρ σ B) (hs : Step ρ J w [] ρ' J' w' σ') (hr' : RS P ρ' J' w' σ') :
    ∃ I', Step ρ I w σ ρ I' w' σ ∧ RS P ρ I' w' σ ∧ (∀ B, I B → I' B) ∧ ∀ B, J' B → ¬ J B → I' B := by
  let I' : Nat → Prop := fun B => I B ∨ (J' B ∧ ¬ J B)
  have hnew : ∀ B, J' B → ¬ J B → w.heap.size ≤ B := fun B h1 h2 => by
    rcases hs.inew B h1 with h | h | h
    · exact absurd h h2
    · exact absurd h (no_lives B)
    · exact h
  have hst : Step ρ I w σ ρ I' w' σ := by
    refine ⟨fun b hb _ => hs.keep b hb (no_lives b), fun B h => .inl h, fun B h => ?_, fun B h => .inl h, hs.hsz, fun b blk h => ⟨blk, h, Compat.refl _ _⟩, hs.env⟩
    rcases h with h | ⟨h1, h2⟩
    · exact .inl h
    · exact .inr (.inr (hnew B h1 h2))
  refine ⟨I', hst, ?_, fun B h => .inl h, fun B h1 h2 => .inr ⟨h1, h2⟩⟩
  refine ⟨fun i blk h => ?_, hr.inj, fun B hl hI => ?_, fun B hI => ?_, hst.tabs hr⟩
  · by_cases hl : blk.live
    · exact RB.step hr hst (fun B hB => hs.keep B (lives_heap hr ⟨i, blk, h, hl, hB⟩) (no_lives B)) (hr.blk i blk h)
    · cases blk <;> first | exact .dead | exact absurd trivial hl
  · rcases hI with h | ⟨h1, h2⟩
    · exact hr.sep B hl h
    · have := hnew B h1 h2
      have := lives_heap hr hl
      omega
  · rcases hI with h | ⟨h1, h2⟩
    · exact Nat.lt_of_lt_of_le (hr.bound B h) hs.hsz
    · exact hr'.bound B h1

theorem PCall.of_nil {f : FuncId} {args : List AV} {r : AV} (ha : AV.pure.pures args = true) (hp : r.pure = true) (h : ACall P f args [] fun oc _ => oc = .ret r) : PCall P f args r := by
  intro σ ρ I w vs hr hv
  refine (h ρ I w vs (rs_nil hr I (fun B h => h) (fun B h => .inl h)) ⟨hv.1, fun j a hj => (hv.2 j a hj).pure (pures_mem ha a (List.mem_of_getElem? hj))⟩).mono ?_
  rintro e w' ⟨ρ', I', σ', oc, h1, h2, h3, rfl⟩
  obtain ⟨J, k1, k2, k3, k4⟩ := back hr (fun B h => h) (fun B h => .inl h) h1 h2
  cases e <;> simp only at h3
  rename_i v
  refine ⟨ρ, J, σ, .ret r, k1, k2, ?_, rfl, rfl⟩
  have hsub : ∀ B, I' B → J B := fun B hB => by
    by_cases hI : I B
    · exact k3 B hI
    · exact k4 B hB hI
  have : V ρ σ I' w' r v := h3.pure hp
  clear h3
  revert this
  generalize r = r'
  intro hv'
  -- the same reading with more that does not change
  have mono : ∀ {a : AV} {v : Value}, V ρ σ I' w' a v → V ρ σ J w' a v := by
    intro a v h
    induction h with
    | any v => exact .any v
    | aptr p => exact .aptr p
    | d h => exact .d (h.mono hsub (fun _ _ => rfl))
    | ptr h1 h2 => exact .ptr h1 h2
    | ownOld h1 h2 => exact .ownOld h1 h2
    | ownNil h1 h2 => exact .ownNil h1 h2
    | own h1 h2 h3 h4 => exact .own h1 h2 h3 h4
    | eptrOld h1 h2 => exact .eptrOld h1 h2
    | eptr h1 h2 => exact .eptr h1 h2
    | iptr us h1 => exact .iptr us (fun j c hj => let ⟨a, b, c⟩ := h1 j c hj; ⟨hsub _ a, b, c.mono hsub (fun _ _ => rfl)⟩)
    | agg h1 h2 ih => exact .agg h1 ih
    | tuple h1 h2 ih => exact .tuple h1 ih
    | func h1 h2 h3 h4 ih1 ih2 => exact .func h1 ih1 h3 ih2
    | iface t h ih => exact .iface t ih
    | map h1 h2 => exact .map h1 h2
    | itr h1 h2 => exact .itr h1 h2
  exact mono hv'

/- lending: a slice of the call's own is handed to a function that hands back a scalar -/
def DV.scalar : DV → Bool
  | .int _ _ | .bool _ | .str _ | .niliface | .nilptr | .nilslice => true
  | _ => false
def scalars : List AV → Bool
  | [] => true
  | .d x :: l => x.scalar && scalars l
  | _ :: _ => false
def AV.scalar1 : AV → Bool
  | .d x => x.scalar
  | .agg l => scalars l
  | _ => false
def scalars1 : List AV → Bool
  | [] => true
  | a :: l => a.scalar1 && scalars1 l
def AV.scalar : AV → Bool
  | .d x => x.scalar
  | .tuple l => scalars1 l
  | .agg l => scalars l
  | _ => false
attribute [go_sem] DV.scalar scalars AV.scalar AV.scalar1 scalars1

theorem VD.scalar {x : DV} {v : Value} (h : VD I w x v) (hs : x.scalar = true) : VD I' w' x v := by
  cases h <;> first | exact .int _ _ | exact .bool _ | exact .str _ | exact .niliface | exact .nilptr | exact .nilslice | simp [DV.scalar] at hs

theorem V.scalar {a : AV} {v : Value} (h : V ρ σ I w a v) (hs : a.scalar = true) : V ρ' σ' I' w' a v := by
  have key : ∀ {l : List AV} {us : Array Value}, scalars l = true → (∀ j c, l[j]? = some c → V ρ σ I w c (us.getD j undef)) → ∀ j c, l[j]? = some c → V ρ' σ' I' w' c (us.getD j undef) := by
    intro l us hl hv j c hj
    have hm := List.mem_of_getElem? hj
    have hc : ∃ x, c = .d x ∧ x.scalar = true := by
      clear hv hj
      induction l with
      | nil => simp at hm
      | cons y l ih =>
        unfold scalars at hl
        split at hl
        · rename_i he; cases he
        · rename_i x l' he
          simp only [List.cons.injEq] at he
          obtain ⟨rfl, rfl⟩ := he
          simp only [Bool.and_eq_true] at hl
          rcases List.mem_cons.1 hm with h1 | h1
          · exact ⟨x, h1, hl.1⟩
          · exact ih hl.2 h1
        · cases hl
    obtain ⟨x, rfl, hx⟩ := hc
    exact .d ((hv j _ hj).d_inv.scalar hx)
  have one : ∀ {a : AV} {v : Value}, V ρ σ I w a v → a.scalar1 = true → V ρ' σ' I' w' a v := by
    intro a v h hs
    cases h with
    | d h => exact .d (h.scalar hs)
    | agg h1 h2 => exact .agg h1 (key hs h2)
    | _ => simp [AV.scalar1] at hs
  have key1 : ∀ {l : List AV}, scalars1 l = true → ∀ a, a ∈ l → a.scalar1 = true := by
    intro l
    induction l with
    | nil => intro _ a h; simp at h
    | cons y l ih =>
      intro hl a hm
      simp only [scalars1, Bool.and_eq_true] at hl
      rcases List.mem_cons.1 hm with rfl | hm
      · exact hl.1
      · exact ih hl.2 a hm
  cases h with
  | d h => exact .d (h.scalar hs)
  | tuple h1 h2 => exact .tuple h1 (fun j c hj => one (h2 j c hj) (key1 hs c (List.mem_of_getElem? hj)))
  | agg h1 h2 => exact .agg h1 (key hs h2)
  | _ => simp [AV.scalar] at hs

/-- What the function sees of a value that is lent to it. -/
def lent1 (σ : ST) : AV → AV
  | .own b g off n => match stGet σ b with
    | .arr g' e xs => if g = g' ∧ off + n ≤ xs.length then .d (.list e ((xs.drop off).take n)) else .own b g off n
    | _ => .own b g off n
  | a => a
attribute [go_sem] lent1
def lent (σ : ST) : AV → AV
  | .agg cs => .agg (cs.map (lent1 σ))
  | a => lent1 σ a
attribute [go_sem] lent

theorem PCall.lend {f : FuncId} {args : List AV} {r : AV} {K : Out → ST → Prop} (h : PCall P f (args.map (lent σ)) r) (ha : AV.pure.pures (args.map (lent σ)) = true) (hs : r.scalar = true) (hk : K (.ret r) σ) : ACall P f args σ K := by
  intro ρ I w vs hr hv
  let J : Nat → Prop := fun B => I B ∨ Lives ρ σ B
  have hJ1 : ∀ {a : AV} {v : Value}, V ρ σ I w a v → (lent1 σ a).pure = true → V ρ [] J w (lent1 σ a) v := by
    intro a v hav hpu
    have plain : V ρ σ I w a v → a.pure = true → V ρ [] J w a v := fun h1 h2 => by
      have h3 : V ρ [] I w a v := h1.pure h2
      clear h1 hav hpu
      induction h3 with
      | any v => exact .any v
      | d h => exact .d (h.mono (fun _ h => .inl h) (fun _ _ => rfl))
      | agg k1 k2 ih =>
        rw [pure_agg] at h2
        exact .agg k1 (fun j c hj => ih j c hj (pures_mem h2 c (List.mem_of_getElem? hj)))
      | tuple k1 k2 ih =>
        rw [pure_tuple] at h2
        exact .tuple k1 (fun j c hj => ih j c hj (pures_mem h2 c (List.mem_of_getElem? hj)))
      | _ => simp [AV.pure] at h2
    unfold lent1 at hpu ⊢
    split at hpu
    · rename_i b g off n
      split at hpu
      · rename_i g' e xs hst
        split at hpu
        · rename_i hc
          rw [if_pos hc]
          obtain ⟨rfl, hlen⟩ := hc
          have hsb := stGet_some hst (by simp)
          cases hav with
          | ownOld k1 k2 => rw [hsb] at k1; cases k1; exact absurd (k2 _ _ _ rfl) (by omega)
          | @ownNil _ _ _ _ _ p k1 k2 =>
            simp only [List.take_zero]
            cases p with
            | none => exact .d (.listNil _ _)
            | some a =>
              obtain ⟨B, o, sp⟩ := a
              have := (k2 _ rfl).1
              simp only at this
              subst this
              exact .d (.list (fun _ => undef) rfl (Nat.le_refl _) (by simp) (by simp [flat]) (by simp [flat]))
          | own k1 k2 k3 k4 =>
            rw [hsb] at k1; cases k1
            rename_i B cap
            obtain ⟨us, q1, q2, q3, q4, q5⟩ := hr.arr hsb k2
            have hln : ((xs.drop off).take n).length = n := by simp; omega
            have hget : ∀ j c, (flat ((xs.drop off).take n))[j]? = some c → (flat xs)[off * e + j]? = some c ∧ j < n * e := by
              intro j c hj
              rw [flat_take (fun x hx => q4 x (List.mem_of_mem_drop hx)), flat_drop q4, List.getElem?_take] at hj
              split at hj
              · rename_i hlt; rw [List.getElem?_drop] at hj; exact ⟨hj, hlt⟩
              · cases hj
            refine .d (.list (fun j => us.getD ((ρ b).base + off * e + j) undef) hln.symm k3 (fun x hx => q4 x (List.mem_of_mem_drop (List.mem_of_mem_take hx))) (fun j c hj => ?_) (fun j c hj => ?_))
            · obtain ⟨h1, h2⟩ := hget j c hj
              refine ⟨.inr ⟨b, _, hsb, trivial, k2⟩, cell_of_heap q1 ?_⟩
              have : (off + n) * e ≤ (ρ b).cap * e := Nat.mul_le_mul_right _ (by omega)
              rw [Nat.add_mul] at this; omega
            · obtain ⟨h1, h2⟩ := hget j c hj
              have := q5 _ _ h1
              rw [← Nat.add_assoc] at this
              exact this.mono (fun _ h => .inl h) (fun _ _ => rfl)
        · simp [AV.pure] at hpu
      · simp [AV.pure] at hpu
    · rename_i hne
      exact plain hav hpu
  have hJ : ∀ {a : AV} {v : Value}, V ρ σ I w a v → (lent σ a).pure = true → V ρ [] J w (lent σ a) v := by
    intro a v hav hpu
    unfold lent at hpu ⊢
    split at hpu
    · cases hav with | agg k1 k2 =>
      rw [pure_agg] at hpu
      refine .agg (by simpa using k1) (fun j c hj => ?_)
      simp only [List.getElem?_map, Option.map_eq_some_iff] at hj
      obtain ⟨b, hb, rfl⟩ := hj
      exact hJ1 (k2 j b hb) (pures_mem hpu _ (List.mem_map.2 ⟨b, List.mem_of_getElem? hb, rfl⟩))
    · exact hJ1 hav hpu
  have hr0 : RS P ρ J w [] := rs_nil hr J (fun B h => .inl h) (fun B h => h)
  refine (h [] ρ J w vs hr0 ⟨by simpa using hv.1, fun j a hj => ?_⟩).mono ?_
  · have hm := pures_mem ha a (List.mem_of_getElem? hj)
    simp only [List.getElem?_map, Option.map_eq_some_iff] at hj
    obtain ⟨b, hb, rfl⟩ := hj
    exact hJ (hv.2 j b hb) hm
  · rintro e w' ⟨ρ', I', σ', oc, h1, h2, h3, rfl, rfl⟩
    obtain ⟨I2, k1, k2, k3, k4⟩ := back hr (fun B h => .inl h) (fun B h => h) h1 h2
    cases e <;> simp only at h3
    rename_i v
    exact ⟨ρ, I2, σ, .ret r, k1, k2, h3.scalar hs, hk⟩
end
end Nv

namespace Nv
open Go

/-- What is known of a function of the program. -/
def wfF (fn : Func) : Bool := match fn.body with | some c => wfC fn.ntmps c | none => false
structure FnIs (P : Program) (f : FuncId) (np : Nat) (rs : List ResultVar) (pc : PC) : Prop where
  mx : P.follows .mixedOrders = true
  is : ∃ fn, P.funcs[f]? = some fn ∧ pcOf fn = pc ∧ wfF fn = true ∧ fn.results.toList = rs ∧ np ≤ fn.ntmps

theorem FnIs.call {P : Program} {f np : Nat} {rs : List ResultVar} {pc : PC} (h : FnIs P f np rs pc) (hint : Nat → Hint) {args : List AV} {σ : ST} {K : Out → ST → Prop} (hn : args.length ≤ np)
    (hh : W P hint pc (endA P rs K) (initFr args) σ) : ACall P f args σ K := by
  obtain ⟨fn, h1, h2, h3, h4, h5⟩ := h.is
  unfold wfF at h3
  unfold pcOf at h2
  cases hb : fn.body with
  | none => rw [hb] at h3; cases h3
  | some c =>
    rw [hb] at h3 h2
    subst h2 h4
    exact call_of_W h.mx hint h1 hb h3 (Nat.le_trans hn h5) hh

def noHint : Nat → Hint := fun _ => .no
@[go_sem] theorem noHint_eq (d : Nat) : noHint d = .no := nrfl rfl
def hints : List (Nat × Hint) → Nat → Hint
  | [], _ => .no
  | (k, h) :: l, d => bif Nat.beq d k then h else hints l d
@[go_sem] theorem hints_nil (d : Nat) : hints [] d = .no := nrfl rfl
@[go_sem] theorem hints_cons (k : Nat) (h : Hint) (l : List (Nat × Hint)) (d : Nat) : hints ((k, h) :: l) d = bif d == k then h else hints l d := by
  have e : Nat.beq d k = (d == k) := by rw [Bool.eq_iff_iff]; simp
  rw [← e]; rfl
end Nv
/- A view of the abstract layer in which what follows is out of the simplifier's reach: code, continuations and branches stand in places on which the type of a token depends. -/

set_option linter.unusedVariables false
set_option linter.unusedSimpArgs false
namespace Nv
open Go

structure Tk {α : Type} (x : α) : Type where

def wW (P : Program) (h : Nat → Hint) (c : PC) (Q : Post) (t : Tk c) (q : Tk Q) (fr : FR) (σ : ST) : Prop := W P h c Q fr σ
def wO (P : Program) (h : Nat → Hint) (l : List POp) (Q : Post) (t : Tk l) (q : Tk Q) (fr : FR) (σ : ST) : Prop := AOps P h Q l fr σ
def wQ (Q : Post) (q : Tk Q) (e : AExit) (fr : FR) (σ : ST) : Prop := Q e fr σ
def wR (r : Res) (R : AV → ST → Prop) (t : Tk R) : Prop := r.holds R
def wRd (r : Res) (R : AV → ST → Prop) (t : Tk R) : Prop := r.dholds R
def wC (c : AV) (x y : Prop) (tx : Tk x) (ty : Tk y) : Prop := condA c x y
def wG (c : AV) (b : Bool) (x y : Prop) (tx : Tk x) (ty : Tk y) : Prop := gateA c b x y
def wF (P : Program) (f : AV) (args : List AV) (σ : ST) (K E : AV → ST → Prop) (tk : Tk K) (te : Tk E) : Prop := callA P f args σ K E
def wB (c : Bool) (x y : Prop) (tx : Tk x) (ty : Tk y) : Prop := bif c then x else y
def wEsc (K : AV → ST → Prop) (args : List AV) (σ : ST) (t : Tk K) : Prop := escA K args σ
def wCall (P : Program) (f : FuncId) (args : List AV) (σ : ST) (K : Out → ST → Prop) (t : Tk K) : Prop := ACall P f args σ K
def wL (P : Program) (h : Nat → Hint) (c : PC) (Q : Post) (t : Tk c) (q : Tk Q) (fr : FR) (σ : ST) : Prop := LoopW (fun Q fr σ => W P h c Q fr σ) Q fr σ

/- regions whose order is open -/
def wE (P : Program) (h : Nat → Hint) (d : Option Nat) (tt : Nat) (op : Op) (R : AV → ST → Prop) (t : Tk op) (tR : Tk R) (fr : FR) (σ : ST) : Prop := DOp P h ⟨d, op, tt, none⟩ R fr σ
def wD (P : Program) (h : Nat → Hint) (l : List DP) (past : List ST) (pend : List PD) (K : FR → ST → Prop) (tl : Tk l) (tp : Tk past) (tn : Tk pend) (tK : Tk K) (fr : FR) (σ : ST) : Prop := DOps P h K l past pend fr σ
def wBack (P : Program) (h : Nat → Hint) (b : Bool) (past : List ST) (d : Option Nat) (tt : Nat) (op : Op) (t : Tk op) (fr : FR) (v : AV) : Prop := b = true → ∀ τ, τ ∈ past → Again P h ⟨d, op, tt, none⟩ fr v τ
def wPend (P : Program) (h : Nat → Hint) (pend : List PD) (t : Tk pend) (σ : ST) : Prop := ∀ p, p ∈ pend → p.ok P h σ
def wDF (P : Program) (f : AV) (args : List AV) (σ : ST) (R : AV → ST → Prop) (tR : Tk R) : Prop := ∃ v, callA P f args σ (fun v' σ' => v' = v ∧ σ' = σ) (fun _ _ => False) ∧ R v σ
def wDC (P : Program) (f : FuncId) (args : List AV) (σ : ST) (R : AV → ST → Prop) (tR : Tk R) : Prop := ∃ v, ACall P f args σ (outK (fun v' σ' => v' = v ∧ σ' = σ) (fun _ _ => False)) ∧ R v σ

section
variable {P : Program} {h : Nat → Hint} {Q : Post} {fr : FR} {σ : ST} {q : Tk Q}
@[go_sem] theorem wW_skip {t : Tk PC.skip} : wW P h .skip Q t q fr σ = wQ Q ⟨⟩ .normal fr σ := nrfl rfl
@[go_sem] theorem wW_ret {t : Tk PC.ret} : wW P h .ret Q t q fr σ = wQ Q ⟨⟩ .ret fr σ := nrfl rfl
@[go_sem] theorem wW_exit (id : Nat) {t : Tk (PC.exit id)} : wW P h (.exit id) Q t q fr σ = wQ Q ⟨⟩ (.exit id) fr σ := nrfl rfl
@[go_sem] theorem wW_seq (a b : PC) {t : Tk (PC.seq a b)} : wW P h (.seq a b) Q t q fr σ = wW P h a (thenA (fun fr σ => wW P h b Q ⟨⟩ ⟨⟩ fr σ) Q) ⟨⟩ ⟨⟩ fr σ := nrfl rfl
@[go_sem] theorem wW_cond (c : Operand) (x y : PC) {t : Tk (PC.cond c x y)} : wW P h (.cond c x y) Q t q fr σ = wC (aeval fr c) (wW P h x Q ⟨⟩ ⟨⟩ fr σ) (wW P h y Q ⟨⟩ ⟨⟩ fr σ) ⟨⟩ ⟨⟩ := nrfl rfl
@[go_sem] theorem wW_block (id : Nat) (b : PC) {t : Tk (PC.block id b)} : wW P h (.block id b) Q t q fr σ = wW P h b (blockA id Q) ⟨⟩ ⟨⟩ fr σ := nrfl rfl
@[go_sem] theorem wW_loop (b : PC) {t : Tk (PC.loop b)} : wW P h (.loop b) Q t q fr σ = wL P h b Q ⟨⟩ ⟨⟩ fr σ := nrfl rfl
@[go_sem] theorem wW_region (ops : List POp) {t : Tk (PC.region ops)} : wW P h (.region ops) Q t q fr σ = wO P h ops Q ⟨⟩ ⟨⟩ fr σ := nrfl rfl

@[go_sem] theorem wQ_then_normal (next : FR → ST → Prop) {t : Tk (thenA next Q)} : wQ (thenA next Q) t .normal fr σ = next fr σ := nrfl rfl
@[go_sem] theorem wQ_then_ret (next : FR → ST → Prop) {t : Tk (thenA next Q)} : wQ (thenA next Q) t .ret fr σ = wQ Q ⟨⟩ .ret fr σ := nrfl rfl
@[go_sem] theorem wQ_then_exit (i : Nat) (next : FR → ST → Prop) {t : Tk (thenA next Q)} : wQ (thenA next Q) t (.exit i) fr σ = wQ Q ⟨⟩ (.exit i) fr σ := nrfl rfl
@[go_sem] theorem wQ_then_panic (x : AV) (next : FR → ST → Prop) {t : Tk (thenA next Q)} : wQ (thenA next Q) t (.panic x) fr σ = wQ Q ⟨⟩ (.panic x) fr σ := nrfl rfl
@[go_sem] theorem wQ_block_normal (id : Nat) {t : Tk (blockA id Q)} : wQ (blockA id Q) t .normal fr σ = wQ Q ⟨⟩ .normal fr σ := nrfl rfl
@[go_sem] theorem wQ_block_ret (id : Nat) {t : Tk (blockA id Q)} : wQ (blockA id Q) t .ret fr σ = wQ Q ⟨⟩ .ret fr σ := nrfl rfl
@[go_sem] theorem wQ_block_panic (id : Nat) (x : AV) {t : Tk (blockA id Q)} : wQ (blockA id Q) t (.panic x) fr σ = wQ Q ⟨⟩ (.panic x) fr σ := nrfl rfl
@[go_sem] theorem wQ_block_same (id : Nat) {t : Tk (blockA id Q)} : wQ (blockA id Q) t (.exit id) fr σ = wQ Q ⟨⟩ .normal fr σ := by simp [wQ, blockA]
@[go_sem] theorem wQ_block_other (id i : Nat) (hi : i ≠ id) {t : Tk (blockA id Q)} : wQ (blockA id Q) t (.exit i) fr σ = wQ Q ⟨⟩ (.exit i) fr σ := by simp [wQ, blockA, hi]
variable {K : Out → ST → Prop}
@[go_sem] theorem wQ_end_normal1 (t : Nat) {tt : Tk (endA P [.tmp t] K)} : wQ (endA P [.tmp t] K) tt .normal fr σ = K (.ret (fr t)) σ := nrfl rfl
@[go_sem] theorem wQ_end_ret1 (t : Nat) {tt : Tk (endA P [.tmp t] K)} : wQ (endA P [.tmp t] K) tt .ret fr σ = K (.ret (fr t)) σ := nrfl rfl
@[go_sem] theorem wQ_end_normal2 (t u : Nat) {tt : Tk (endA P [.tmp t, .tmp u] K)} : wQ (endA P [.tmp t, .tmp u] K) tt .normal fr σ = K (.ret (.tuple [fr t, fr u])) σ := nrfl rfl
@[go_sem] theorem wQ_end_ret2 (t u : Nat) {tt : Tk (endA P [.tmp t, .tmp u] K)} : wQ (endA P [.tmp t, .tmp u] K) tt .ret fr σ = K (.ret (.tuple [fr t, fr u])) σ := nrfl rfl
@[go_sem] theorem wQ_end_normal3 (t u v : Nat) {tt : Tk (endA P [.tmp t, .tmp u, .tmp v] K)} : wQ (endA P [.tmp t, .tmp u, .tmp v] K) tt .normal fr σ = K (.ret (.tuple [fr t, fr u, fr v])) σ := nrfl rfl
@[go_sem] theorem wQ_end_ret3 (t u v : Nat) {tt : Tk (endA P [.tmp t, .tmp u, .tmp v] K)} : wQ (endA P [.tmp t, .tmp u, .tmp v] K) tt .ret fr σ = K (.ret (.tuple [fr t, fr u, fr v])) σ := nrfl rfl
@[go_sem] theorem wQ_end_normal0 {tt : Tk (endA P [] K)} : wQ (endA P [] K) tt .normal fr σ = K (.ret (.tuple [])) σ := nrfl rfl
@[go_sem] theorem wQ_end_ret0 {tt : Tk (endA P [] K)} : wQ (endA P [] K) tt .ret fr σ = K (.ret (.tuple [])) σ := nrfl rfl
@[go_sem] theorem wQ_end_normalc (t ty u : Nat) {tt : Tk (endA P [.cell t ty, .tmp u] K)} : wQ (endA P [.cell t ty, .tmp u] K) tt .normal fr σ = cellW P ty (fr t) σ (fun v => K (.ret (.tuple [v, fr u])) σ) := nrfl rfl
@[go_sem] theorem wQ_end_retc (t ty u : Nat) {tt : Tk (endA P [.cell t ty, .tmp u] K)} : wQ (endA P [.cell t ty, .tmp u] K) tt .ret fr σ = cellW P ty (fr t) σ (fun v => K (.ret (.tuple [v, fr u])) σ) := nrfl rfl
@[go_sem] theorem wQ_end_normalc1 (t ty : Nat) {tt : Tk (endA P [.cell t ty] K)} : wQ (endA P [.cell t ty] K) tt .normal fr σ = cellW P ty (fr t) σ (fun v => K (.ret v) σ) := nrfl rfl
@[go_sem] theorem wQ_end_retc1 (t ty : Nat) {tt : Tk (endA P [.cell t ty] K)} : wQ (endA P [.cell t ty] K) tt .ret fr σ = cellW P ty (fr t) σ (fun v => K (.ret v) σ) := nrfl rfl
@[go_sem] theorem wQ_end_normalcc (t ty u uy : Nat) {tt : Tk (endA P [.cell t ty, .cell u uy] K)} : wQ (endA P [.cell t ty, .cell u uy] K) tt .normal fr σ = cellW P ty (fr t) σ (fun v => cellW P uy (fr u) σ fun v' => K (.ret (.tuple [v, v'])) σ) := nrfl rfl
@[go_sem] theorem wQ_end_retcc (t ty u uy : Nat) {tt : Tk (endA P [.cell t ty, .cell u uy] K)} : wQ (endA P [.cell t ty, .cell u uy] K) tt .ret fr σ = cellW P ty (fr t) σ (fun v => cellW P uy (fr u) σ fun v' => K (.ret (.tuple [v, v'])) σ) := nrfl rfl
@[go_sem] theorem cellW_ptr (t b o : Nat) (Ka : AV → Prop) : cellW P t (.ptr b o) σ Ka = wR (rLoad P t (.ptr b o) σ) (fun v _ => Ka v) ⟨⟩ := nrfl rfl
@[go_sem] theorem wQ_end_panic (rs : List ResultVar) (x : AV) {tt : Tk (endA P rs K)} : wQ (endA P rs K) tt (.panic x) fr σ = K (.panic x) σ := nrfl rfl

@[go_sem] theorem wC_true (x y : Prop) {tx : Tk x} {ty : Tk y} : wC (.d (.bool true)) x y tx ty = x := nrfl rfl
@[go_sem] theorem wC_false (x y : Prop) {tx : Tk x} {ty : Tk y} : wC (.d (.bool false)) x y tx ty = y := nrfl rfl
@[go_sem] theorem wG_tt (x y : Prop) {tx : Tk x} {ty : Tk y} : wG (.d (.bool true)) true x y tx ty = x := nrfl rfl
@[go_sem] theorem wG_tf (x y : Prop) {tx : Tk x} {ty : Tk y} : wG (.d (.bool true)) false x y tx ty = y := nrfl rfl
@[go_sem] theorem wG_ft (x y : Prop) {tx : Tk x} {ty : Tk y} : wG (.d (.bool false)) true x y tx ty = y := nrfl rfl
@[go_sem] theorem wG_ff (x y : Prop) {tx : Tk x} {ty : Tk y} : wG (.d (.bool false)) false x y tx ty = x := nrfl rfl
@[go_sem] theorem wG_un (b : Bool) (x y : Prop) {tx : Tk x} {ty : Tk y} : wG (.tuple []) b x y tx ty = y := nrfl rfl
@[go_sem] theorem wR_ok (v : AV) (R : AV → ST → Prop) {t : Tk R} : wR (.ok v σ) R t = R v σ := nrfl rfl
@[go_sem] theorem wR_need (p : Prop) [Decidable p] (r : Res) (R : AV → ST → Prop) {t : Tk R} : wR (.need p r) R t = (p ∧ wR r R ⟨⟩) := nrfl rfl
@[go_sem] theorem wR_bad (R : AV → ST → Prop) {t : Tk R} : wR .bad R t = False := nrfl rfl
@[go_sem] theorem wR_both (a b : Res) (R : AV → ST → Prop) {t : Tk R} : wR (.both a b) R t = (wR a R ⟨⟩ ∧ wR b R ⟨⟩) := nrfl rfl
@[go_sem] theorem wRd_ok (v : AV) (R : AV → ST → Prop) {t : Tk R} : wRd (.ok v σ) R t = R v σ := nrfl rfl
@[go_sem] theorem wRd_need (p : Prop) [Decidable p] (r : Res) (R : AV → ST → Prop) {t : Tk R} : wRd (.need p r) R t = (p ∧ wRd r R ⟨⟩) := nrfl rfl
@[go_sem] theorem wRd_both (a b : Res) (R : AV → ST → Prop) {t : Tk R} : wRd (.both a b) R t = False := nrfl rfl
@[go_sem] theorem wRd_bad (R : AV → ST → Prop) {t : Tk R} : wRd .bad R t = False := nrfl rfl
variable {Kv E : AV → ST → Prop} {tk : Tk Kv} {te : Tk E}
@[go_sem] theorem wB_true (x y : Prop) {tx : Tk x} {ty : Tk y} : wB true x y tx ty = x := nrfl rfl
@[go_sem] theorem wB_false (x y : Prop) {tx : Tk x} {ty : Tk y} : wB false x y tx ty = y := nrfl rfl
@[go_sem] theorem wEsc_one (x : AV) : wEsc Kv [x] σ tk = Kv x σ := nrfl rfl
@[go_sem] theorem wF_func (g : FuncId) (args : List AV) : wF P (.d (.func (.func g))) args σ Kv E tk te = wB (plainFn P g) (wCall P g args σ (outK Kv E) ⟨⟩) (NoEsc P g ∧ wEsc Kv args σ ⟨⟩) ⟨⟩ ⟨⟩ := nrfl (callA_func P g args σ Kv E)
@[go_sem] theorem wF_clo (g : FuncId) (first cap args : List AV) : wF P (.func (.func g) first cap) args σ Kv E tk te = wB (plainFn P g) (wCall P g (first ++ args ++ cap) σ (outK Kv E) ⟨⟩) (NoEsc P g ∧ wEsc Kv (first ++ args ++ cap) σ ⟨⟩) ⟨⟩ ⟨⟩ := nrfl rfl

@[go_sem] theorem wO_nil {t : Tk ([] : List POp)} : wO P h [] Q t q fr σ = wQ Q ⟨⟩ .normal fr σ := nrfl rfl
variable {d : Option Nat} {tt : Nat} {rest : List POp}
@[go_sem] theorem wO_call (f : Operand) (args : List Operand) (ts : Array Nat) {t : Tk ((⟨d, .call ⟨.value f, ⟨args⟩, ts⟩, tt, none⟩ : POp) :: rest)} : wO P h (⟨d, .call ⟨.value f, ⟨args⟩, ts⟩, tt, none⟩ :: rest) Q t q fr σ = wF P (aeval fr f) (args.map (aeval fr)) σ (fun v σ' => wO P h rest Q ⟨⟩ ⟨⟩ (put fr d v) σ') (fun x σ' => wQ Q ⟨⟩ (.panic x) fr σ') ⟨⟩ ⟨⟩ := nrfl rfl
@[go_sem] theorem wO_builtin (b : Builtin) (args : List Operand) (ts : List Nat) {t : Tk ((⟨d, .call ⟨.builtin b, ⟨args⟩, ⟨ts⟩⟩, tt, none⟩ : POp) :: rest)} : wO P h (⟨d, .call ⟨.builtin b, ⟨args⟩, ⟨ts⟩⟩, tt, none⟩ :: rest) Q t q fr σ = wR (rFin (hintOf h d) (rBuiltin P b tt ts (args.map (aeval fr)) σ)) (fun v σ' => wO P h rest Q ⟨⟩ ⟨⟩ (put fr d v) σ') ⟨⟩ := nrfl rfl
@[go_sem] theorem wO_move (x : Operand) {t : Tk ((⟨d, .move x, tt, none⟩ : POp) :: rest)} : wO P h (⟨d, .move x, tt, none⟩ :: rest) Q t q fr σ = wR (rMove (hintOf h d) (aeval fr x) σ) (fun v σ' => wO P h rest Q ⟨⟩ ⟨⟩ (put fr d v) σ') ⟨⟩ := nrfl rfl
@[go_sem] theorem wO_assign (x : Operand) {t : Tk ((⟨d, .assign x, tt, none⟩ : POp) :: rest)} : wO P h (⟨d, .assign x, tt, none⟩ :: rest) Q t q fr σ = wR (rMove (hintOf h d) (aeval fr x) σ) (fun v σ' => wO P h rest Q ⟨⟩ ⟨⟩ (put fr d v) σ') ⟨⟩ := nrfl rfl
@[go_sem] theorem wO_pick (c a b : Operand) {t : Tk ((⟨d, .pick c a b, tt, none⟩ : POp) :: rest)} : wO P h (⟨d, .pick c a b, tt, none⟩ :: rest) Q t q fr σ = wR (rPick (aeval fr c) (aeval fr a) (aeval fr b) σ) (fun v σ' => wO P h rest Q ⟨⟩ ⟨⟩ (put fr d v) σ') ⟨⟩ := nrfl rfl
@[go_sem] theorem wO_alloc (u : Nat) {t : Tk ((⟨d, .alloc u, tt, none⟩ : POp) :: rest)} : wO P h (⟨d, .alloc u, tt, none⟩ :: rest) Q t q fr σ = wR (rBox u (zeroA P u) σ) (fun v σ' => wO P h rest Q ⟨⟩ ⟨⟩ (put fr d v) σ') ⟨⟩ := nrfl rfl
@[go_sem] theorem wO_box (u : Nat) (x : Operand) {t : Tk ((⟨d, .box u x, tt, none⟩ : POp) :: rest)} : wO P h (⟨d, .box u x, tt, none⟩ :: rest) Q t q fr σ = wR (rBox u (aeval fr x) σ) (fun v σ' => wO P h rest Q ⟨⟩ ⟨⟩ (put fr d v) σ') ⟨⟩ := nrfl rfl
@[go_sem] theorem wO_build (u : Nat) (ps : List (Nat × Operand)) {t : Tk ((⟨d, .build u ⟨ps⟩, tt, none⟩ : POp) :: rest)} : wO P h (⟨d, .build u ⟨ps⟩, tt, none⟩ :: rest) Q t q fr σ = wR (rBuild P u (ps.map fun p => (p.1, aeval fr p.2)) σ) (fun v σ' => wO P h rest Q ⟨⟩ ⟨⟩ (put fr d v) σ') ⟨⟩ := nrfl rfl
@[go_sem] theorem wO_buildSlice (u n : Nat) (ps : List (Nat × Operand)) {t : Tk ((⟨d, .buildSlice u n ⟨ps⟩, tt, none⟩ : POp) :: rest)} : wO P h (⟨d, .buildSlice u n ⟨ps⟩, tt, none⟩ :: rest) Q t q fr σ = wR (rFin (hintOf h d) (rBuildSlice P u n (ps.map fun p => (p.1, aeval fr p.2)) σ)) (fun v σ' => wO P h rest Q ⟨⟩ ⟨⟩ (put fr d v) σ') ⟨⟩ := nrfl rfl
@[go_sem] theorem wO_load (u : Nat) (x : Operand) {t : Tk ((⟨d, .load u x, tt, none⟩ : POp) :: rest)} : wO P h (⟨d, .load u x, tt, none⟩ :: rest) Q t q fr σ = wR (rLoad P u (aeval fr x) σ) (fun v σ' => wO P h rest Q ⟨⟩ ⟨⟩ (put fr d v) σ') ⟨⟩ := nrfl rfl
@[go_sem] theorem wO_store (u : Nat) (x y : Operand) {t : Tk ((⟨d, .store u x y, tt, none⟩ : POp) :: rest)} : wO P h (⟨d, .store u x y, tt, none⟩ :: rest) Q t q fr σ = wR (rStore P u (aeval fr x) (aeval fr y) σ) (fun v σ' => wO P h rest Q ⟨⟩ ⟨⟩ (put fr d v) σ') ⟨⟩ := nrfl rfl
@[go_sem] theorem wO_nilCheck (x : Operand) {t : Tk ((⟨d, .nilCheck x, tt, none⟩ : POp) :: rest)} : wO P h (⟨d, .nilCheck x, tt, none⟩ :: rest) Q t q fr σ = wR (rNil (aeval fr x) σ) (fun v σ' => wO P h rest Q ⟨⟩ ⟨⟩ (put fr d v) σ') ⟨⟩ := nrfl rfl
@[go_sem] theorem wO_binOp (op : BinOp) (u : Nat) (x y : Operand) (u' : Nat) {t : Tk ((⟨d, .binOp op u x y u', tt, none⟩ : POp) :: rest)} : wO P h (⟨d, .binOp op u x y u', tt, none⟩ :: rest) Q t q fr σ = wR (rBin P op u (isC x || isC y) (aeval fr x) (aeval fr y) σ) (fun v σ' => wO P h rest Q ⟨⟩ ⟨⟩ (put fr d v) σ') ⟨⟩ := nrfl rfl
@[go_sem] theorem wO_unOp (op : UnOp) (u : Nat) (x : Operand) {t : Tk ((⟨d, .unOp op u x, tt, none⟩ : POp) :: rest)} : wO P h (⟨d, .unOp op u x, tt, none⟩ :: rest) Q t q fr σ = wR (rUn op (aeval fr x) σ) (fun v σ' => wO P h rest Q ⟨⟩ ⟨⟩ (put fr d v) σ') ⟨⟩ := nrfl rfl
@[go_sem] theorem wO_convert (u v : Nat) (x : Operand) {t : Tk ((⟨d, .convert u v x, tt, none⟩ : POp) :: rest)} : wO P h (⟨d, .convert u v x, tt, none⟩ :: rest) Q t q fr σ = wR (rCvA P u v (aeval fr x) σ) (fun v σ' => wO P h rest Q ⟨⟩ ⟨⟩ (put fr d v) σ') ⟨⟩ := nrfl rfl
@[go_sem] theorem wO_makeInterface (u : Nat) (x : Operand) {t : Tk ((⟨d, .makeInterface u x, tt, none⟩ : POp) :: rest)} : wO P h (⟨d, .makeInterface u x, tt, none⟩ :: rest) Q t q fr σ = wR (rIface P u (aeval fr x) σ) (fun v σ' => wO P h rest Q ⟨⟩ ⟨⟩ (put fr d v) σ') ⟨⟩ := nrfl rfl
@[go_sem] theorem wO_makeFunc (f : Fn) (a b : List Operand) {t : Tk ((⟨d, .makeFunc f ⟨a⟩ ⟨b⟩, tt, none⟩ : POp) :: rest)} : wO P h (⟨d, .makeFunc f ⟨a⟩ ⟨b⟩, tt, none⟩ :: rest) Q t q fr σ = wR (rFunc f (a.map (aeval fr)) (b.map (aeval fr)) σ) (fun v σ' => wO P h rest Q ⟨⟩ ⟨⟩ (put fr d v) σ') ⟨⟩ := nrfl rfl
@[go_sem] theorem wO_makeSlice (u : Nat) (x y : Operand) {t : Tk ((⟨d, .makeSlice u x y, tt, none⟩ : POp) :: rest)} : wO P h (⟨d, .makeSlice u x y, tt, none⟩ :: rest) Q t q fr σ = wR (rMake P u (aeval fr x) (aeval fr y) σ) (fun v σ' => wO P h rest Q ⟨⟩ ⟨⟩ (put fr d v) σ') ⟨⟩ := nrfl rfl
@[go_sem] theorem wO_slice (u : Nat) (x : Operand) (lo hi : Option Operand) {t : Tk ((⟨d, .slice u x lo hi none, tt, none⟩ : POp) :: rest)} : wO P h (⟨d, .slice u x lo hi none, tt, none⟩ :: rest) Q t q fr σ = wR (rSlice P u (aeval fr x) (lo.map (aeval fr)) (hi.map (aeval fr)) σ) (fun v σ' => wO P h rest Q ⟨⟩ ⟨⟩ (put fr d v) σ') ⟨⟩ := nrfl rfl
@[go_sem] theorem wO_fieldAddr (u : Nat) (x : Operand) (f : Nat) {t : Tk ((⟨d, .fieldAddr u x f, tt, none⟩ : POp) :: rest)} : wO P h (⟨d, .fieldAddr u x f, tt, none⟩ :: rest) Q t q fr σ = wR (rField P u f (aeval fr x) σ) (fun v σ' => wO P h rest Q ⟨⟩ ⟨⟩ (put fr d v) σ') ⟨⟩ := nrfl rfl
@[go_sem] theorem wO_field (u : Nat) (x : Operand) (f : Nat) {t : Tk ((⟨d, .field u x f, tt, none⟩ : POp) :: rest)} : wO P h (⟨d, .field u x f, tt, none⟩ :: rest) Q t q fr σ = wR (rFieldV P u f (aeval fr x) σ) (fun v σ' => wO P h rest Q ⟨⟩ ⟨⟩ (put fr d v) σ') ⟨⟩ := nrfl rfl
@[go_sem] theorem wO_indexAddr (u : Nat) (x y : Operand) {t : Tk ((⟨d, .indexAddr u x y, tt, none⟩ : POp) :: rest)} : wO P h (⟨d, .indexAddr u x y, tt, none⟩ :: rest) Q t q fr σ = wR (rIndex P u (aeval fr x) (aeval fr y) σ) (fun v σ' => wO P h rest Q ⟨⟩ ⟨⟩ (put fr d v) σ') ⟨⟩ := nrfl rfl
@[go_sem] theorem wO_index (u : Nat) (x y : Operand) {t : Tk ((⟨d, .index u x y, tt, none⟩ : POp) :: rest)} : wO P h (⟨d, .index u x y, tt, none⟩ :: rest) Q t q fr σ = wR (rIndexV P u (aeval fr x) (aeval fr y) σ) (fun v σ' => wO P h rest Q ⟨⟩ ⟨⟩ (put fr d v) σ') ⟨⟩ := nrfl rfl
def wP (x : AV) (σ : ST) (R : AV → ST → Prop) (t : Tk R) : Prop := panicA x σ R
@[go_sem] theorem wO_panic (x : Operand) {t : Tk ((⟨d, .panic x, tt, none⟩ : POp) :: rest)} : wO P h (⟨d, .panic x, tt, none⟩ :: rest) Q t q fr σ = wP (aeval fr x) σ (fun x σ' => wQ Q ⟨⟩ (.panic x) fr σ') ⟨⟩ := nrfl rfl
@[go_sem] theorem wP_iface (u : TypeId) (x : AV) {R : AV → ST → Prop} {t : Tk R} : wP (.iface u x) σ R t = R (.iface u x) σ := nrfl rfl
@[go_sem] theorem wP_d (u : TypeId) (x : DV) {R : AV → ST → Prop} {t : Tk R} : wP (.d (.iface u x)) σ R t = R (.d (.iface u x)) σ := nrfl rfl
@[go_sem] theorem wO_range (u : Nat) (x : Operand) {t : Tk ((⟨d, .range u x, tt, none⟩ : POp) :: rest)} : wO P h (⟨d, .range u x, tt, none⟩ :: rest) Q t q fr σ = wR (rRange P u (aeval fr x) σ) (fun v σ' => wO P h rest Q ⟨⟩ ⟨⟩ (put fr d v) σ') ⟨⟩ := nrfl rfl
@[go_sem] theorem wO_next (x : Operand) (b : Bool) {t : Tk ((⟨d, .next x b, tt, none⟩ : POp) :: rest)} : wO P h (⟨d, .next x b, tt, none⟩ :: rest) Q t q fr σ = wR (rNext (aeval fr x) b σ) (fun v σ' => wO P h rest Q ⟨⟩ ⟨⟩ (put fr d v) σ') ⟨⟩ := nrfl rfl
@[go_sem] theorem wO_makeMap (u : Nat) {t : Tk ((⟨d, .makeMap u none, tt, none⟩ : POp) :: rest)} : wO P h (⟨d, .makeMap u none, tt, none⟩ :: rest) Q t q fr σ = wR (rMakeMap σ) (fun v σ' => wO P h rest Q ⟨⟩ ⟨⟩ (put fr d v) σ') ⟨⟩ := nrfl rfl
@[go_sem] theorem wO_typeAssert (x : Operand) (u v : Nat) (b : Bool) {t : Tk ((⟨d, .typeAssert x u v b, tt, none⟩ : POp) :: rest)} : wO P h (⟨d, .typeAssert x u v b, tt, none⟩ :: rest) Q t q fr σ = wR (rAssert P v (aeval fr x) b σ) (fun v σ' => wO P h rest Q ⟨⟩ ⟨⟩ (put fr d v) σ') ⟨⟩ := nrfl rfl
@[go_sem] theorem wO_lookup (u : Nat) (x y : Operand) (b : Bool) {t : Tk ((⟨d, .lookup u x y b, tt, none⟩ : POp) :: rest)} : wO P h (⟨d, .lookup u x y b, tt, none⟩ :: rest) Q t q fr σ = wR (rLookup P u (aeval fr x) (aeval fr y) b σ) (fun v σ' => wO P h rest Q ⟨⟩ ⟨⟩ (put fr d v) σ') ⟨⟩ := nrfl rfl
@[go_sem] theorem wO_mapUpdate (u : Nat) (x y z : Operand) {t : Tk ((⟨d, .mapUpdate u x y z, tt, none⟩ : POp) :: rest)} : wO P h (⟨d, .mapUpdate u x y z, tt, none⟩ :: rest) Q t q fr σ = wR (rMapUpdate P u (aeval fr x) (aeval fr y) (aeval fr z) σ) (fun v σ' => wO P h rest Q ⟨⟩ ⟨⟩ (put fr d v) σ') ⟨⟩ := nrfl rfl
@[go_sem] theorem wO_extract (x : Operand) (i : Nat) {t : Tk ((⟨d, .extract x i, tt, none⟩ : POp) :: rest)} : wO P h (⟨d, .extract x i, tt, none⟩ :: rest) Q t q fr σ = wR (rExtract (aeval fr x) i σ) (fun v σ' => wO P h rest Q ⟨⟩ ⟨⟩ (put fr d v) σ') ⟨⟩ := nrfl rfl
@[go_sem] theorem wO_guard (op : Op) (g : Nat) (b : Bool) {t : Tk ((⟨d, op, tt, some (g, b)⟩ : POp) :: rest)} : wO P h (⟨d, op, tt, some (g, b)⟩ :: rest) Q t q fr σ =
    wG (fr g) b (wO P h (⟨d, op, tt, none⟩ :: rest) Q ⟨⟩ ⟨⟩ fr σ) (wO P h rest Q ⟨⟩ ⟨⟩ (put fr d (.tuple [])) σ) ⟨⟩ ⟨⟩ := nrfl rfl

@[go_sem] theorem wE_builtin (b : Builtin) (args : List Operand) (ts : List Nat) {t : Tk (Op.call ⟨.builtin b, ⟨args⟩, ⟨ts⟩⟩)} : wE P h d tt (.call ⟨.builtin b, ⟨args⟩, ⟨ts⟩⟩) Kv t tk fr σ = wRd (rFin (hintOf h d) (rBuiltin P b tt ts (args.map (aeval fr)) σ)) Kv ⟨⟩ := nrfl rfl
@[go_sem] theorem wE_move (x : Operand) {t : Tk (Op.move x)} : wE P h d tt (.move x) Kv t tk fr σ = wRd (rMove (hintOf h d) (aeval fr x) σ) Kv ⟨⟩ := nrfl rfl
@[go_sem] theorem wE_assign (x : Operand) {t : Tk (Op.assign x)} : wE P h d tt (.assign x) Kv t tk fr σ = wRd (rMove (hintOf h d) (aeval fr x) σ) Kv ⟨⟩ := nrfl rfl
@[go_sem] theorem wE_pick (c a b : Operand) {t : Tk (Op.pick c a b)} : wE P h d tt (.pick c a b) Kv t tk fr σ = wRd (rPick (aeval fr c) (aeval fr a) (aeval fr b) σ) Kv ⟨⟩ := nrfl rfl
@[go_sem] theorem wE_alloc (u : Nat) {t : Tk (Op.alloc u)} : wE P h d tt (.alloc u) Kv t tk fr σ = wRd (rBox u (zeroA P u) σ) Kv ⟨⟩ := nrfl rfl
@[go_sem] theorem wE_box (u : Nat) (x : Operand) {t : Tk (Op.box u x)} : wE P h d tt (.box u x) Kv t tk fr σ = wRd (rBox u (aeval fr x) σ) Kv ⟨⟩ := nrfl rfl
@[go_sem] theorem wE_build (u : Nat) (ps : List (Nat × Operand)) {t : Tk (Op.build u ⟨ps⟩)} : wE P h d tt (.build u ⟨ps⟩) Kv t tk fr σ = wRd (rBuild P u (ps.map fun p => (p.1, aeval fr p.2)) σ) Kv ⟨⟩ := nrfl rfl
@[go_sem] theorem wE_buildSlice (u n : Nat) (ps : List (Nat × Operand)) {t : Tk (Op.buildSlice u n ⟨ps⟩)} : wE P h d tt (.buildSlice u n ⟨ps⟩) Kv t tk fr σ = wRd (rFin (hintOf h d) (rBuildSlice P u n (ps.map fun p => (p.1, aeval fr p.2)) σ)) Kv ⟨⟩ := nrfl rfl
@[go_sem] theorem wE_load (u : Nat) (x : Operand) {t : Tk (Op.load u x)} : wE P h d tt (.load u x) Kv t tk fr σ = wRd (rLoad P u (aeval fr x) σ) Kv ⟨⟩ := nrfl rfl
@[go_sem] theorem wE_store (u : Nat) (x y : Operand) {t : Tk (Op.store u x y)} : wE P h d tt (.store u x y) Kv t tk fr σ = wRd (rStore P u (aeval fr x) (aeval fr y) σ) Kv ⟨⟩ := nrfl rfl
@[go_sem] theorem wE_nilCheck (x : Operand) {t : Tk (Op.nilCheck x)} : wE P h d tt (.nilCheck x) Kv t tk fr σ = wRd (rNil (aeval fr x) σ) Kv ⟨⟩ := nrfl rfl
@[go_sem] theorem wE_binOp (op : BinOp) (u : Nat) (x y : Operand) (u' : Nat) {t : Tk (Op.binOp op u x y u')} : wE P h d tt (.binOp op u x y u') Kv t tk fr σ = wRd (rBin P op u (isC x || isC y) (aeval fr x) (aeval fr y) σ) Kv ⟨⟩ := nrfl rfl
@[go_sem] theorem wE_unOp (op : UnOp) (u : Nat) (x : Operand) {t : Tk (Op.unOp op u x)} : wE P h d tt (.unOp op u x) Kv t tk fr σ = wRd (rUn op (aeval fr x) σ) Kv ⟨⟩ := nrfl rfl
@[go_sem] theorem wE_convert (u v : Nat) (x : Operand) {t : Tk (Op.convert u v x)} : wE P h d tt (.convert u v x) Kv t tk fr σ = wRd (rCv P u v (aeval fr x) σ) Kv ⟨⟩ := nrfl rfl
@[go_sem] theorem wE_makeInterface (u : Nat) (x : Operand) {t : Tk (Op.makeInterface u x)} : wE P h d tt (.makeInterface u x) Kv t tk fr σ = wRd (rIface P u (aeval fr x) σ) Kv ⟨⟩ := nrfl rfl
@[go_sem] theorem wE_makeFunc (f : Fn) (a b : List Operand) {t : Tk (Op.makeFunc f ⟨a⟩ ⟨b⟩)} : wE P h d tt (.makeFunc f ⟨a⟩ ⟨b⟩) Kv t tk fr σ = wRd (rFunc f (a.map (aeval fr)) (b.map (aeval fr)) σ) Kv ⟨⟩ := nrfl rfl
@[go_sem] theorem wE_makeSlice (u : Nat) (x y : Operand) {t : Tk (Op.makeSlice u x y)} : wE P h d tt (.makeSlice u x y) Kv t tk fr σ = wRd (rMake P u (aeval fr x) (aeval fr y) σ) Kv ⟨⟩ := nrfl rfl
@[go_sem] theorem wE_slice (u : Nat) (x : Operand) (lo hi : Option Operand) {t : Tk (Op.slice u x lo hi none)} : wE P h d tt (.slice u x lo hi none) Kv t tk fr σ = wRd (rSlice P u (aeval fr x) (lo.map (aeval fr)) (hi.map (aeval fr)) σ) Kv ⟨⟩ := nrfl rfl
@[go_sem] theorem wE_fieldAddr (u : Nat) (x : Operand) (f : Nat) {t : Tk (Op.fieldAddr u x f)} : wE P h d tt (.fieldAddr u x f) Kv t tk fr σ = wRd (rField P u f (aeval fr x) σ) Kv ⟨⟩ := nrfl rfl
@[go_sem] theorem wE_field (u : Nat) (x : Operand) (f : Nat) {t : Tk (Op.field u x f)} : wE P h d tt (.field u x f) Kv t tk fr σ = wRd (rFieldV P u f (aeval fr x) σ) Kv ⟨⟩ := nrfl rfl
@[go_sem] theorem wE_indexAddr (u : Nat) (x y : Operand) {t : Tk (Op.indexAddr u x y)} : wE P h d tt (.indexAddr u x y) Kv t tk fr σ = wRd (rIndex P u (aeval fr x) (aeval fr y) σ) Kv ⟨⟩ := nrfl rfl
@[go_sem] theorem wE_index (u : Nat) (x y : Operand) {t : Tk (Op.index u x y)} : wE P h d tt (.index u x y) Kv t tk fr σ = wRd (rIndexV P u (aeval fr x) (aeval fr y) σ) Kv ⟨⟩ := nrfl rfl
@[go_sem] theorem wE_extract (x : Operand) (i : Nat) {t : Tk (Op.extract x i)} : wE P h d tt (.extract x i) Kv t tk fr σ = wRd (rExtract (aeval fr x) i σ) Kv ⟨⟩ := nrfl rfl
@[go_sem] theorem wE_call (f : Operand) (args : List Operand) (ts : Array Nat) {t : Tk (Op.call ⟨.value f, ⟨args⟩, ts⟩)} : wE P h d tt (.call ⟨.value f, ⟨args⟩, ts⟩) Kv t tk fr σ = wDF P (aeval fr f) (args.map (aeval fr)) σ Kv ⟨⟩ := nrfl rfl
@[go_sem] theorem wDF_func (g : FuncId) (args : List AV) : wDF P (.d (.func (.func g))) args σ Kv tk = wB (plainFn P g) (wDC P g args σ Kv ⟨⟩) (wDF P (.d (.func (.func g))) args σ Kv tk) ⟨⟩ ⟨⟩ := by
  cases hp : plainFn P g
  · rfl
  · simp only [wDF, wDC, wB, callA_func, callB, hp, cond_true]
variable {past : List ST} {pend : List PD} {Kd : FR → ST → Prop} {tp : Tk past} {tn : Tk pend} {tK : Tk Kd} {restD : List DP}
@[go_sem] theorem wW_draw (ops : List DP) {t : Tk (PC.draw ops)} : wW P h (.draw ops) Q t q fr σ = wD P h ops [] [] (fun fr σ => wQ Q ⟨⟩ .normal fr σ) ⟨⟩ ⟨⟩ ⟨⟩ ⟨⟩ fr σ := nrfl rfl
@[go_sem] theorem wD_nil {t : Tk ([] : List DP)} : wD P h [] past pend Kd t tp tn tK fr σ = Kd fr σ := nrfl rfl
@[go_sem] theorem wD_pure0 (op : Op) (back : Bool) {t : Tk ((⟨⟨d, op, tt, none⟩, false, back, false⟩ : DP) :: restD)} : wD P h (⟨⟨d, op, tt, none⟩, false, back, false⟩ :: restD) past pend Kd t tp tn tK fr σ =
    wE P h d tt op (fun v σ' => (σ' = σ ∧ wBack P h back past d tt op ⟨⟩ fr v) ∧ wD P h restD past pend Kd ⟨⟩ ⟨⟩ ⟨⟩ ⟨⟩ (put fr d v) σ') ⟨⟩ ⟨⟩ fr σ := nrfl rfl
@[go_sem] theorem wD_pure1 (op : Op) (back : Bool) {t : Tk ((⟨⟨d, op, tt, none⟩, false, back, true⟩ : DP) :: restD)} : wD P h (⟨⟨d, op, tt, none⟩, false, back, true⟩ :: restD) past pend Kd t tp tn tK fr σ =
    wE P h d tt op (fun v σ' => (σ' = σ ∧ wBack P h back past d tt op ⟨⟩ fr v) ∧ wD P h restD past (⟨⟨d, op, tt, none⟩, fr, v⟩ :: pend) Kd ⟨⟩ ⟨⟩ ⟨⟩ ⟨⟩ (put fr d v) σ') ⟨⟩ ⟨⟩ fr σ := nrfl rfl
@[go_sem] theorem wD_eff (op : Op) (back fwd : Bool) {t : Tk ((⟨⟨d, op, tt, none⟩, true, back, fwd⟩ : DP) :: restD)} : wD P h (⟨⟨d, op, tt, none⟩, true, back, fwd⟩ :: restD) past pend Kd t tp tn tK fr σ =
    wE P h d tt op (fun v σ' => wPend P h pend ⟨⟩ σ' ∧ wD P h restD (σ :: past) pend Kd ⟨⟩ ⟨⟩ ⟨⟩ ⟨⟩ (put fr d v) σ') ⟨⟩ ⟨⟩ fr σ := by
  cases fwd <;> exact rfl
@[go_sem] theorem wD_guard (op : Op) (g : Nat) (b eff back fwd : Bool) {t : Tk ((⟨⟨d, op, tt, some (g, b)⟩, eff, back, fwd⟩ : DP) :: restD)} : wD P h (⟨⟨d, op, tt, some (g, b)⟩, eff, back, fwd⟩ :: restD) past pend Kd t tp tn tK fr σ =
    wG (fr g) b (wD P h (⟨⟨d, op, tt, none⟩, eff, back, fwd⟩ :: restD) past pend Kd ⟨⟩ ⟨⟩ ⟨⟩ ⟨⟩ fr σ) (wD P h restD past pend Kd ⟨⟩ ⟨⟩ ⟨⟩ ⟨⟩ (put fr d (.tuple [])) σ) ⟨⟩ ⟨⟩ := nrfl rfl
@[go_sem] theorem wBack_no (op : Op) (v : AV) {t : Tk op} : wBack P h false past d tt op t fr v = True := by simp [wBack]
@[go_sem] theorem wBack_nil (op : Op) (v : AV) {t : Tk op} : wBack P h true [] d tt op t fr v = True := by simp [wBack]
@[go_sem] theorem wBack_cons (op : Op) (v : AV) (τ : ST) {t : Tk op} : wBack P h true (τ :: past) d tt op t fr v = (wE P h d tt op (fun v' τ' => v' = v ∧ τ' = τ) ⟨⟩ ⟨⟩ fr τ ∧ wBack P h true past d tt op ⟨⟩ fr v) := by simp [wBack, wE, Again]
@[go_sem] theorem wPend_nil {t : Tk ([] : List PD)} : wPend P h [] t σ = True := by simp [wPend]
@[go_sem] theorem wPend_cons (op : Op) (v : AV) {t : Tk (⟨⟨d, op, tt, none⟩, fr, v⟩ :: pend)} {τ : ST} : wPend P h (⟨⟨d, op, tt, none⟩, fr, v⟩ :: pend) t τ = (wE P h d tt op (fun v' τ' => v' = v ∧ τ' = τ) ⟨⟩ ⟨⟩ fr τ ∧ wPend P h pend ⟨⟩ τ) := by
  simp only [wPend, wE, PD.ok, Again, List.mem_cons, forall_eq_or_imp]
/-- At a call in a region whose order is open. -/
theorem PCall.dat {f : FuncId} {args : List AV} {r : AV} (hc : PCall P f args r) (hk : Kv r σ) : wDC P f args σ Kv tk := ⟨r, hc.use ⟨rfl, rfl⟩, hk⟩
theorem PCall.lendDat {f : FuncId} {args : List AV} {r : AV} (hc : PCall P f (args.map (lent σ)) r) (ha : AV.pure.pures (args.map (lent σ)) = true) (hs : r.scalar = true) (hk : Kv r σ) : wDC P f args σ Kv tk := ⟨r, hc.lend ha hs ⟨rfl, rfl⟩, hk⟩

theorem FnIs.go {f np : Nat} {rs : List ResultVar} {pc : PC} (hf : FnIs P f np rs pc) (hint : Nat → Hint) {args : List AV} (hn : args.length ≤ np)
    (hh : wW P hint pc (endA P rs K) ⟨⟩ ⟨⟩ (initFr args) σ) : ACall P f args σ K := hf.call hint hn hh

/-- A function that hands back data, from the empty store. -/
theorem FnIs.pure {f np : Nat} {rs : List ResultVar} {pc : PC} (hf : FnIs P f np rs pc) (hint : Nat → Hint) {args : List AV} {r : AV} (hn : args.length ≤ np) (ha : AV.pure.pures args = true) (hp : r.pure = true)
    (hh : wW P hint pc (endA P rs fun oc _ => oc = .ret r) ⟨⟩ ⟨⟩ (initFr args) []) : PCall P f args r := PCall.of_nil ha hp (hf.call hint hn hh)

/-- At a call, its contract. -/
theorem PCall.at {f : FuncId} {args : List AV} {r : AV} (hc : PCall P f args r) {t : Tk (outK Kv E)} (hk : Kv r σ) : wCall P f args σ (outK Kv E) t := hc.use hk
theorem PCall.lendAt {f : FuncId} {args : List AV} {r : AV} (hc : PCall P f (args.map (lent σ)) r) (ha : AV.pure.pures (args.map (lent σ)) = true) (hs : r.scalar = true) {t : Tk (outK Kv E)} (hk : Kv r σ) : wCall P f args σ (outK Kv E) t := hc.lend ha hs hk

/-- A contract at one store: it hands back a value and leaves a store. -/
def SCall (P : Program) (f : FuncId) (args : List AV) (σ : ST) (r : AV) (σ' : ST) : Prop := ∀ K : Out → ST → Prop, K (.ret r) σ' → ACall P f args σ K
theorem SCall.at {f : FuncId} {args : List AV} {r : AV} {σ' : ST} (h : SCall P f args σ r σ') {t : Tk (outK Kv E)} (hk : Kv r σ') : wCall P f args σ (outK Kv E) t := h _ hk
theorem FnIs.st {f np : Nat} {rs : List ResultVar} {pc : PC} (hf : FnIs P f np rs pc) (hint : Nat → Hint) {args : List AV} {r : AV} {σ' : ST} (hn : args.length ≤ np)
    (hh : wW P hint pc (endA P rs fun oc s => oc = .ret r ∧ s = σ') ⟨⟩ ⟨⟩ (initFr args) σ) : SCall P f args σ r σ' := fun K hK =>
  ACall.mono (hf.call hint hn hh) fun oc s h => by rw [h.1, h.2]; exact hK

/-- A contract at one store that says what it hands back and leaves. -/
def RCall (P : Program) (f : FuncId) (args : List AV) (σ : ST) (Φ : AV → ST → Prop) : Prop := ACall P f args σ fun oc s => ∃ r, oc = .ret r ∧ Φ r s
theorem RCall.at {f : FuncId} {args : List AV} {Φ : AV → ST → Prop} (h : RCall P f args σ Φ) {t : Tk (outK Kv E)} (hk : ∀ r σ', Φ r σ' → Kv r σ') : wCall P f args σ (outK Kv E) t :=
  ACall.mono h fun oc s h => by obtain ⟨r, e, hΦ⟩ := h; subst e; exact hk r s hΦ
theorem FnIs.rel {f np : Nat} {rs : List ResultVar} {pc : PC} (hf : FnIs P f np rs pc) (hint : Nat → Hint) {args : List AV} {Φ : AV → ST → Prop} (hn : args.length ≤ np)
    (hh : wW P hint pc (endA P rs fun oc s => ∃ r, oc = .ret r ∧ Φ r s) ⟨⟩ ⟨⟩ (initFr args) σ) : RCall P f args σ Φ := hf.call hint hn hh

/-- One round of a loop. -/
theorem wL_step {c : PC} {t : Tk c} (hh : wW P h c (thenA (fun fr σ => wL P h c Q ⟨⟩ ⟨⟩ fr σ) Q) ⟨⟩ ⟨⟩ fr σ) : wL P h c Q t q fr σ := LoopW.step hh

/-- What holds between two pieces of code. -/
theorem wW_cut {a b : PC} {t : Tk (PC.seq a b)} (R : FR → ST → Prop) (h1 : wW P h a (thenA (fun fr σ => R fr σ) Q) ⟨⟩ ⟨⟩ fr σ) (h2 : ∀ fr σ, R fr σ → wW P h b Q ⟨⟩ ⟨⟩ fr σ) : wW P h (.seq a b) Q t q fr σ := by
  refine W_mono a (fun e fr' σ' hh => ?_) fr σ h1
  cases e with
  | normal => exact h2 fr' σ' hh
  | _ => exact hh

/-- A loop, by an invariant and a measure. -/
theorem wL_ind {α : Type} (inv : α → FR → ST → Prop) (m : α → Nat) {c : PC} {t : Tk c}
    (round : ∀ a fr σ, inv a fr σ → (∀ a' fr' σ', m a' < m a → inv a' fr' σ' → wL P h c Q ⟨⟩ ⟨⟩ fr' σ') → wW P h c (thenA (fun fr σ => wL P h c Q ⟨⟩ ⟨⟩ fr σ) Q) ⟨⟩ ⟨⟩ fr σ)
    (a0 : α) (start : inv a0 fr σ) : wL P h c Q t q fr σ := by
  have key : ∀ n a fr σ, m a = n → inv a fr σ → wL P h c Q ⟨⟩ ⟨⟩ fr σ := by
    intro n
    induction n using Nat.strongRecOn with
    | _ n ih =>
      intro a fr σ hn hi
      exact wL_step (round a fr σ hi (fun a' fr' σ' hlt hi' => ih (m a') (hn ▸ hlt) a' fr' σ' rfl hi'))
  exact key _ a0 fr σ rfl start
end
attribute [irreducible] wP wB wEsc wW wO wQ wR wRd wC wG wF wL wE wD wBack wPend wDF wDC
end Nv
