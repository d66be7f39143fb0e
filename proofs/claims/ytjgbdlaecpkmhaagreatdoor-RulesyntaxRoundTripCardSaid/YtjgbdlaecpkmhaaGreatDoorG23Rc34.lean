/- Part of a proof about the functions of this seat. -/
import Derived.Test.YtjgbdlaecpkmhaaGreatDoorG15NvS
import Derived.Recover
import Derived.Test.YtjgbdlaecpkmhaaGreatDoorG10NvP
import Derived.Test.YtjgbdlaecpkmhaaGreatDoorG22Vu34
import Derived.KernelRfl
import Derived.Test.YtjgbdlaecpkmhaaGreatDoorG16Pars
import Derived.Test.YtjgbdlaecpkmhaaGreatDoorG12NvY
/- A function that defers one closure; a closure that recovers. -/


set_option linter.unusedVariables false
set_option linter.unusedSimpArgs false
namespace Nv
open Go

/-- A region that makes a closure and defers it. -/
def deferAt : PC → Option (Nat × FuncId × List Operand × List Operand)
  | .region [⟨some d, .makeFunc (.func g) first cap, _, none⟩, ⟨none, .defer ⟨.value (.tmp d'), args, _⟩, _, none⟩] => bif Nat.beq d d' && args.isEmpty then some (d, g, first.toList, cap.toList) else none
  | _ => none

/-- The road of a function's code that may defer a closure once; Q1: its ends before, Q2: behind. -/
def WD (P : Program) (h : Nat → Hint) : PC → Post → (FuncId → List AV → Post) → FR → ST → Prop
  | .seq a b, Q1, Q2, fr, σ => match deferAt a with
    | some (d, g, first, cap) => W P h b (Q2 g (first.map (aeval fr) ++ cap.map (aeval fr))) (put fr (some d) (.func (.func g) (first.map (aeval fr)) (cap.map (aeval fr)))) σ
    | none => W P h a (thenA (fun fr σ => WD P h b Q1 Q2 fr σ) Q1) fr σ
  | c, Q1, _, fr, σ => W P h c Q1 fr σ

def dmode (v : Value) : Option Bool → FrameMode
  | none => .returning
  | some b => .panicking [{ v, recovered := b }]

/-- A deferred call of a closure: in a function that returns (pv = none), or that panics with a value. -/
def DCall (P : Program) (g : FuncId) (args : List AV) (σ : ST) (pv : Option AV) (K : Bool → ST → Prop) : Prop :=
  ∀ ρ I w vs, RS P ρ I w σ → VL ρ σ I w args vs → ∀ v : Value, (∀ x, pv = some x → V ρ σ I w x v) →
    CallsD P g vs (dmode v (pv.map fun _ => false)) w fun e u' w' => ∃ ρ' I' σ' b, Step ρ I w σ ρ' I' w' σ' ∧ RS P ρ' I' w' σ' ∧ e = .returned (.tuple #[]) ∧ u' = dmode v (pv.map fun _ => b) ∧ K b σ'

/-- What is asked at the end of a function that has deferred a closure. -/
def endD (P : Program) (rs : List ResultVar) (K : Out → ST → Prop) (g : FuncId) (args : List AV) : Post
  | .normal, fr, σ => plainFn P g = true ∧ DCall P g args σ none fun _ σ' => outW P fr σ' rs fun v => K (.ret v) σ'
  | .ret, fr, σ => plainFn P g = true ∧ DCall P g args σ none fun _ σ' => outW P fr σ' rs fun v => K (.ret v) σ'
  | .panic x, fr, σ => plainFn P g = true ∧ DCall P g args σ (some x) fun b σ' => bif b then outW P fr σ' rs fun v => K (.ret v) σ' else K (.panic x) σ'
  | .exit _, _, _ => False

section
variable {P : Program} {h : Nat → Hint} {N : Nat}

/-- Where a run stands that may have deferred. -/
def liftD (P : Program) (E : Env) (N : Nat) (Q1 : Post) (Q2 : FuncId → List AV → Post) : Exit → Act → World → Prop := fun e a w =>
  lift P E N Q1 e a w ∨ ∃ (ρ : RHO) (I : Nat → Prop) (w1 : World) (σ : ST) (g : FuncId) (args : List AV) (cap dargs : Array Value), Step E.ρ E.I E.w E.σ ρ I w1 σ ∧ RS P ρ I w1 σ ∧ VL ρ σ I w1 args (dargs ++ cap) ∧
    lift P ⟨ρ, I, w1, σ, [{ target := .fn (.func g) cap, args := dargs }]⟩ N (Q2 g args) e a w

theorem deferAt_some {p : PC} {d : Nat} {g : FuncId} {first cap : List Operand} (h : deferAt p = some (d, g, first, cap)) :
    ∃ f c t0 t1 ts, p = .region [⟨some d, .makeFunc (.func g) f c, t0, none⟩, ⟨none, .defer ⟨.value (.tmp d), #[], ts⟩, t1, none⟩] ∧ first = f.toList ∧ cap = c.toList := by
  unfold deferAt at h
  split at h
  · rename_i d0 g0 f c t0 d1 args ts t1
    cases hb : (Nat.beq d0 d1 && args.isEmpty)
    · rw [hb] at h; cases h
    · rw [hb] at h
      simp only [cond_true, Option.some.injEq, Prod.mk.injEq] at h
      obtain ⟨rfl, rfl, rfl, rfl⟩ := h
      simp only [Bool.and_eq_true] at hb
      obtain rfl := Nat.eq_of_beq_eq_true hb.1
      have : args = #[] := by simpa using hb.2
      subst this
      exact ⟨f, c, t0, t1, ts, rfl, rfl, rfl⟩
  · cases h

theorem VL.append {ρ : RHO} {σ : ST} {I : Nat → Prop} {w : World} {avl bs : List AV} {us vs : Array Value} (h1 : VL ρ σ I w avl us) (h2 : VL ρ σ I w bs vs) : VL ρ σ I w (avl ++ bs) (us ++ vs) := by
  refine ⟨by simp [h1.1, h2.1], fun j c hj => ?_⟩
  rcases Nat.lt_or_ge j avl.length with hlt | hge
  · rw [List.getElem?_append_left hlt] at hj
    have := h1.2 j c hj
    rw [Array.getD_eq_getD_getElem?, Array.getElem?_append_left (by rw [← h1.1]; exact hlt), ← Array.getD_eq_getD_getElem?]
    exact this
  · rw [List.getElem?_append_right hge] at hj
    have := h2.2 _ c hj
    rw [Array.getD_eq_getD_getElem?, Array.getElem?_append_right (by rw [← h1.1]; exact hge), ← h1.1, ← Array.getD_eq_getD_getElem?]
    exact this

theorem two_list {α : Type} {l : List α} (h : l.length = 2) : ∃ a b, l = [a, b] := by
  match l, h with
  | [a, b], _ => exact ⟨a, b, rfl⟩

theorem prep_region {x : Code} {l : List POp} (h : prep x = .region l) : ∃ id ops, x = .region id ops false ∧ ops.toList.map (prepOp ops) = l := by
  unfold prep at h
  split at h <;> first | (simp only [PC.region.injEq] at h; exact ⟨_, _, rfl, h⟩) | (simp only [reduceCtorEq] at h)

theorem WD_sound (hmx : P.follows .mixedOrders = true) {E : Env} (hE : E.D = []) {Q1 : Post} {Q2 : FuncId → List AV → Post} : ∀ (c : Code), wfC N c = true → ∀ (fr : FR) (σ : ST) (ρ : RHO) (I : Nat → Prop) (a : Act) (w : World), At P E N fr σ ρ I a w →
    WD P h (prep c) Q1 Q2 fr σ → c.wp P (liftD P E N Q1 Q2) a w := by
  intro c
  have plain : ∀ (c : Code), wfC N c = true → ∀ (fr : FR) (σ : ST) (ρ : RHO) (I : Nat → Prop) (a : Act) (w : World), At P E N fr σ ρ I a w → W P h (prep c) Q1 fr σ → c.wp P (liftD P E N Q1 Q2) a w :=
    fun c hwf fr σ ρ I a w hat hh => wp_mono (W_sound (Q := Q1) hmx c _ hwf fr σ ρ I a w hat hh) fun e a' w' hl => .inl hl
  induction c with
  | seq x y ihx ihy =>
    intro hwf fr σ ρ I a w hat hh
    have hwf' := hwf
    simp only [wfC, Bool.and_eq_true] at hwf
    simp only [prep, WD] at hh
    split at hh
    · rename_i d g first cap hd
      obtain ⟨f, c, t0, t1, ts, hp, rfl, rfl⟩ := deferAt_some hd
      obtain ⟨id, ops, rfl, hp2⟩ := prep_region hp
      clear hp
      · obtain ⟨o0, o1, hops⟩ : ∃ o0 o1, ops.toList = [o0, o1] := by
          refine two_list ?_
          have hl := congrArg List.length hp2
          rw [List.length_map] at hl
          exact hl
        rw [hops] at hp2
        simp only [List.map_cons, List.map_nil, List.cons.injEq, and_true] at hp2
        obtain ⟨h0, h1⟩ := hp2
        simp only [prepOp, POp.mk.injEq] at h0 h1
        obtain ⟨d0, op0, _, g0⟩ := h0
        obtain ⟨d1, op1, _, g1⟩ := h1
        have gn0 : o0.guard = none := by cases hg : o0.guard with | none => rfl | some gb => rw [hg] at g0; simp at g0
        have gn1 : o1.guard = none := by cases hg : o1.guard with | none => rfl | some gb => rw [hg] at g1; simp at g1
        have hwf0 : wfOp N ops o0 = true := by
          have := hwf.1
          simp only [wfC, hops, List.all_cons, Bool.and_eq_true] at this
          exact this.1
        simp only [wfOp, Bool.and_eq_true] at hwf0
        have hdl : wfDst a.tmps.size o0.dst = true := by rw [hat.size]; exact hwf0.1
        rw [d0] at hdl
        let vclo : Value := .func (.func g) (f.map a.eval) (c.map a.eval)
        let dfr : Deferred := { target := .fn (.func g) (c.map a.eval), args := f.map a.eval ++ #[] }
        have hvf := hat.vf.vl f
        have hvc := hat.vf.vl c
        have hvclo : V ρ σ I w (.func (.func g) (f.toList.map (aeval fr)) (c.toList.map (aeval fr))) vclo := .func hvf.1 hvf.2 hvc.1 hvc.2
        have r0 : (execOp a.eval o0).run P w = .ok (.value vclo) w := by
          simp only [execOp, op0, Instr.makeFunc]; rfl
        have hget : (a.put (some d) vclo).eval (.tmp d) = vclo := by
          have hlt : d < a.tmps.size := by simpa [wfDst] using hdl
          show (a.put (some d) vclo).tmps.getD d undef = vclo
          simp only [Act.put]
          rw [getD_set_arr _ _ _ _ hlt, if_pos rfl]
        have r1 : (execOp (a.put (some d) vclo).eval o1).run P w = .ok (.defer dfr) w := by
          have hr : (execOp (a.put (some d) vclo).eval o1) = (do pure (.defer (← resolve (a.put (some d) vclo).eval ⟨.value (.tmp d), #[], ts⟩ o1.type))) := by
            simp only [execOp, op1]
          rw [hr]
          simp [resolve, hget, Deferred.ofValue, vclo, dfr]
        refine wp_seq (wp_region_list ?_)
        rw [hops]
        have w0 : Region.wanted o0 (yielded ops a.tmps) = true := by simp [Region.wanted, gn0]
        unfold wpList
        rw [if_pos w0]
        refine .inl ?_
        unfold Oper.wp
        rw [r0, Oper.upon_value, d0]
        have w1 : Region.wanted o1 (yielded ops (a.put (some d) vclo).tmps) = true := by simp [Region.wanted, gn1]
        unfold wpList
        rw [if_pos w1]
        refine .inl ?_
        unfold Oper.wp
        rw [r1, Oper.upon_defer, d1]
        unfold wpList
        show y.wp P (liftD P E N Q1 Q2) _ w
        have hat' : At P ⟨ρ, I, w, σ, [dfr]⟩ N (put fr (some d) (.func (.func g) (f.toList.map (aeval fr)) (c.toList.map (aeval fr)))) σ ρ I (({ a.put (some d) vclo with defers := dfr :: (a.put (some d) vclo).defers } : Act).put none undef) w := by
          refine ⟨Step.refl _ _ _ _, hat.rs, hat.vf.put hvclo hdl, ?_, ?_⟩
          · show (a.put (some d) vclo).tmps.size = N
            rw [put_size]; exact hat.size
          · show dfr :: (a.put (some d) vclo).defers = [dfr]
            rw [put_defers, hat.defers, hE]
        refine wp_mono (W_sound (E := ⟨ρ, I, w, σ, [dfr]⟩) (Q := Q2 g (f.toList.map (aeval fr) ++ c.toList.map (aeval fr))) hmx y _ hwf.2 _ σ ρ I _ w hat' hh) fun e a' w' hl => .inr ?_
        refine ⟨ρ, I, w, σ, g, _, c.map a.eval, f.map a.eval ++ #[], hat.step, hat.rs, ?_, hl⟩
        rw [Array.append_empty]
        exact VL.append hvf hvc
    · refine wp_seq (wp_mono (W_sound (Q := Q1) hmx x _ hwf.1 fr σ ρ I a w hat hh) ?_)
      rintro e a' w' ⟨ρ', I', fr', σ', ae, hat', hex, hq⟩
      cases e <;> cases ae <;> simp only [exitIs] at hex
      · exact ihy hwf.2 fr' σ' ρ' I' a' w' hat' hq
      · exact .inl ⟨ρ', I', fr', σ', .exit _, hat', hex, hq⟩
      · exact .inl ⟨ρ', I', fr', σ', .ret, hat', trivial, hq⟩
      · exact .inl ⟨ρ', I', fr', σ', .panic _, hat', hex, hq⟩
  | region id ops dr => intro hwf fr σ ρ I a w hat hh; exact plain _ hwf fr σ ρ I a w hat (by cases dr <;> exact hh)
  | _ => intro hwf fr σ ρ I a w hat hh; exact plain _ hwf fr σ ρ I a w hat hh

theorem VL.step {ρ ρ' : RHO} {σ σ' : ST} {I I' : Nat → Prop} {w w' : World} {avl : List AV} {vs : Array Value} (hr : RS P ρ I w σ) (hs : Step ρ I w σ ρ' I' w' σ') (h : VL ρ σ I w avl vs) : VL ρ' σ' I' w' avl vs :=
  ⟨h.1, fun j c hj => hs.v hr (h.2 j c hj)⟩

theorem settle_rec (v : Value) : settle (.panicking [{ v, recovered := true }]) = .returning := rfl
theorem settle_not (v : Value) : settle (.panicking [{ v, recovered := false }]) = .panicking [{ v, recovered := false }] := rfl

theorem call_of_WD (hmx : P.follows .mixedOrders = true) {f : FuncId} {fn : Func} {c : Code} {args : List AV} {σ : ST} {K : Out → ST → Prop} (hint : Nat → Hint) (hf : P.funcs[f]? = some fn) (hb : fn.body = some c) (hwf : wfC fn.ntmps c = true) (hn : args.length ≤ fn.ntmps)
    (hh : WD P hint (prep c) (endA P fn.results.toList K) (endD P fn.results.toList K) (initFr args) σ) : ACall P f args σ K := by
  intro ρ I w vs hr hv
  refine calls_of_wp_defers hf hb ?_
  let a0 : Act := { tmps := vs ++ Array.replicate (fn.ntmps - vs.size) undef, defers := [] }
  have hat : At P ⟨ρ, I, w, σ, []⟩ fn.ntmps (initFr args) σ ρ I a0 w := by
    refine ⟨Step.refl _ _ _ _, hr, fun i => ?_, ?_, rfl⟩
    · rcases Nat.lt_or_ge i args.length with hlt | hge
      · have := hv.2 i _ (List.getElem?_eq_getElem hlt)
        have e1 : initFr args i = args[i] := by simp [initFr, List.getD_eq_getElem?_getD, hlt]
        have e2 : a0.tmps.getD i undef = vs.getD i undef := by
          have : i < vs.size := by rw [← hv.1]; exact hlt
          simp only [a0, Array.getD_eq_getD_getElem?]
          rw [Array.getElem?_append_left this]
        rw [e1, e2]; exact this
      · have e1 : initFr args i = .any := by simp [initFr, List.getD_eq_getElem?_getD, List.getElem?_eq_none hge]
        rw [e1]; exact .any _
    · have := hv.1
      simp only [a0, Array.size_append, Array.size_replicate]; omega
  refine wp_mono (WD_sound hmx (E := ⟨ρ, I, w, σ, []⟩) rfl c hwf _ σ ρ I a0 w hat hh) ?_
  let R : Ending → World → Prop := fun e w' => ∃ ρ' I' σ' oc, Step ρ I w σ ρ' I' w' σ' ∧ RS P ρ' I' w' σ' ∧
    (match e, oc with
      | .returned v, .ret a => V ρ' σ' I' w' a v
      | .panicked ch, .panic a => ∃ v, ch = [{ v, recovered := false }] ∧ V ρ' σ' I' w' a v
      | _, _ => False) ∧ K oc σ'
  have res : ∀ {E : Env} {ρ' : RHO} {I' : Nat → Prop} {fr' : FR} {σ' : ST} {a' : Act} {w' : World}, Step ρ I w σ ρ' I' w' σ' → RS P ρ' I' w' σ' → VF ρ' σ' I' w' fr' a' → outW P fr' σ' fn.results.toList (fun v => K (.ret v) σ') →
      ∃ v, (results fn a'.tmps).run P w' = .ok v w' ∧ R (.returned v) w' := by
    intro E ρ' I' fr' σ' a' w' hs hr' hvf ho
    obtain ⟨v, u, h1, h2, hk⟩ := outW_sound (P := P) hr' hvf ho
    exact ⟨u, h1, ρ', I', σ', .ret v, hs, hr', h2, hk⟩
  rintro e a' w' (⟨ρ', I', fr', σ', ae, hat', hex, hq⟩ | ⟨ρ1, I1, w1, σ1, g, gargs, cap, dargs, hs1, hr1, hvl, ρ', I', fr', σ', ae, hat', hex, hq⟩)
  · have hd : a'.defers = [] := hat'.defers
    cases e <;> cases ae <;> simp only [exitIs] at hex
    · show Leaves P fn a'.tmps R a'.defers .returning w'
      rw [hd]
      exact res (E := ⟨ρ, I, w, σ, []⟩) hat'.step hat'.rs hat'.vf hq
    · exact hq.elim
    · show Leaves P fn a'.tmps R a'.defers .returning w'
      rw [hd]
      exact res (E := ⟨ρ, I, w, σ, []⟩) hat'.step hat'.rs hat'.vf hq
    · rename_i ch x
      obtain ⟨v, rfl, hv'⟩ := hex
      show Leaves P fn a'.tmps R a'.defers (.panicking _) w'
      rw [hd]
      exact ⟨ρ', I', σ', .panic x, hat'.step, hat'.rs, ⟨v, rfl, hv'⟩, hq⟩
  · have hd : a'.defers = [{ target := .fn (.func g) cap, args := dargs }] := hat'.defers
    have hs2 : Step ρ I w σ ρ' I' w' σ' := hs1.trans hat'.step
    have hvl' : VL ρ' σ' I' w' gargs (dargs ++ cap) := hvl.step hr1 hat'.step
    have ret : plainFn P g = true ∧ DCall P g gargs σ' none (fun _ σ'' => outW P fr' σ'' fn.results.toList fun v => K (.ret v) σ'') → Leaves P fn a'.tmps R a'.defers .returning w' := by
      rintro ⟨hpl, hdc⟩
      rw [hd]
      refine leaves_cons (f := g) (args := dargs ++ cap) (by simp) (by simp only [invoke]; exact run_callFunc hpl) ?_
      refine (hdc ρ' I' w' _ hat'.rs hvl' undef (fun x hx => by cases hx)).mono ?_
      rintro e u' w'' ⟨ρ2, I2, σ2, b, k1, k2, rfl, rfl, k3⟩
      exact res (E := ⟨ρ, I, w, σ, []⟩) (hs2.trans k1) k2 (hat'.vf.step hat'.rs k1) k3
    cases e <;> cases ae <;> simp only [exitIs] at hex
    · exact ret hq
    · exact hq.elim
    · exact ret hq
    · rename_i ch x
      obtain ⟨v, rfl, hv'⟩ := hex
      obtain ⟨hpl, hdc⟩ := hq
      show Leaves P fn a'.tmps R a'.defers (.panicking _) w'
      rw [hd]
      refine leaves_cons (f := g) (args := dargs ++ cap) (by simp) (by simp only [invoke]; exact run_callFunc hpl) ?_
      refine (hdc ρ' I' w' _ hat'.rs hvl' v (fun y hy => by cases hy; exact hv')).mono ?_
      rintro e u' w'' ⟨ρ2, I2, σ2, b, k1, k2, rfl, rfl, k3⟩
      cases b
      · exact ⟨ρ2, I2, σ2, .panic x, hs2.trans k1, k2, ⟨v, rfl, k1.v hat'.rs hv'⟩, k3⟩
      · exact res (E := ⟨ρ, I, w, σ, []⟩) (hs2.trans k1) k2 (hat'.vf.step hat'.rs k1) k3

/-- A closure's code that begins with recover. -/
def recAt : PC → Option (Nat × Nat)
  | .region [⟨some d1, .call ⟨.builtin .recover, args, _⟩, _, none⟩, ⟨some d2, .assign (.tmp d), _, none⟩] => bif Nat.beq d d1 && args.isEmpty then some (d1, d2) else none
  | _ => none

theorem recAt_some {p : PC} {d1 d2 : Nat} (h : recAt p = some (d1, d2)) :
    ∃ t0 t1 ts, p = .region [⟨some d1, .call ⟨.builtin .recover, #[], ts⟩, t0, none⟩, ⟨some d2, .assign (.tmp d1), t1, none⟩] := by
  unfold recAt at h
  split at h
  · rename_i e1 args ts t0 e2 d t1
    cases hb : (Nat.beq d e1 && args.isEmpty)
    · rw [hb] at h; cases h
    · rw [hb] at h
      simp only [cond_true, Option.some.injEq, Prod.mk.injEq] at h
      obtain ⟨rfl, rfl⟩ := h
      simp only [Bool.and_eq_true] at hb
      obtain rfl := Nat.eq_of_beq_eq_true hb.1
      have : args = #[] := by simpa using hb.2
      subst this
      exact ⟨t0, t1, ts, rfl⟩
  · cases h

def recV : Option AV → AV
  | none => .d .niliface
  | some x => x

/-- The ends of a deferred closure. -/
def endR (K : ST → Prop) : Post
  | .normal, _, σ => K σ
  | .ret, _, σ => K σ
  | _, _, _ => False

theorem DCall_of (hmx : P.follows .mixedOrders = true) {g : FuncId} {fn : Func} {x y : Code} {args : List AV} {σ : ST} {pv : Option AV} {K : Bool → ST → Prop} {d1 d2 : Nat} (hint : Nat → Hint)
    (hf : P.funcs[g]? = some fn) (hb : fn.body = some (.seq x y)) (hwf : wfC fn.ntmps (.seq x y) = true) (hn : args.length ≤ fn.ntmps) (hres : fn.results = #[]) (hrec : recAt (prep x) = some (d1, d2))
    (hh : W P hint (prep y) (endR (K pv.isSome)) (put (put (initFr args) (some d1) (recV pv)) (some d2) (recV pv)) σ) : DCall P g args σ pv K := by
  intro ρ I w vs hr hv v hpv
  obtain ⟨t0, t1, ts, hp⟩ := recAt_some hrec
  obtain ⟨id, ops, rfl, hp2⟩ := prep_region hp
  clear hp hrec
  obtain ⟨o0, o1, hops⟩ : ∃ o0 o1, ops.toList = [o0, o1] := by
    refine two_list ?_
    have hl := congrArg List.length hp2
    rw [List.length_map] at hl
    exact hl
  rw [hops] at hp2
  simp only [List.map_cons, List.map_nil, List.cons.injEq, and_true] at hp2
  obtain ⟨h0, h1⟩ := hp2
  simp only [prepOp, POp.mk.injEq] at h0 h1
  obtain ⟨e0, op0, _, g0⟩ := h0
  obtain ⟨e1, op1, _, g1⟩ := h1
  have gn0 : o0.guard = none := by cases hg : o0.guard with | none => rfl | some gb => rw [hg] at g0; simp at g0
  have gn1 : o1.guard = none := by cases hg : o1.guard with | none => rfl | some gb => rw [hg] at g1; simp at g1
  simp only [wfC, hops, List.all_cons, List.all_nil, Bool.and_true, Bool.and_eq_true, wfOp] at hwf
  obtain ⟨⟨⟨hw0, _⟩, ⟨hw1, _⟩⟩, hwy⟩ := hwf
  let a0 : Act := { tmps := vs ++ Array.replicate (fn.ntmps - vs.size) undef, defers := [] }
  have hat : At P ⟨ρ, I, w, σ, []⟩ fn.ntmps (initFr args) σ ρ I a0 w := by
    refine ⟨Step.refl _ _ _ _, hr, fun i => ?_, ?_, rfl⟩
    · rcases Nat.lt_or_ge i args.length with hlt | hge
      · have := hv.2 i _ (List.getElem?_eq_getElem hlt)
        have e1 : initFr args i = args[i] := by simp [initFr, List.getD_eq_getElem?_getD, hlt]
        have e2 : a0.tmps.getD i undef = vs.getD i undef := by
          have : i < vs.size := by rw [← hv.1]; exact hlt
          simp only [a0, Array.getD_eq_getD_getElem?]
          rw [Array.getElem?_append_left this]
        rw [e1, e2]; exact this
      · have e1 : initFr args i = .any := by simp [initFr, List.getD_eq_getElem?_getD, List.getElem?_eq_none hge]
        rw [e1]; exact .any _
    · have := hv.1
      simp only [a0, Array.size_append, Array.size_replicate]; omega
  refine callsD_of_wpS hf hb fun c₀ cs hmode => ?_
  refine wpS_seq (wpS_region ?_)
  have hopsA : ops = #[o0, o1] := by rw [← Array.toArray_toList (xs := ops), hops]
  have hsz : ops.size = 2 := by rw [hopsA]; rfl
  have q0 : ops[0]? = some o0 := by rw [hopsA]; rfl
  have q1 : ops[1]? = some o1 := by rw [hopsA]; rfl
  have r0 : ∀ (a : Act) (w : World), (execOp a.eval o0).run P w = .ok .recover w := by
    intro a w
    simp [execOp, op0, resolve, invoke, builtin]
  -- from the value that recover hands back on
  have go : ∀ (u : Value) (cs' : List Frame) (b : Bool), V ρ σ I w (recV pv) u → cs' = { c₀ with mode := dmode v (pv.map fun _ => b) } :: cs → b = pv.isSome →
      wpOpsS P ops (Exit.thenS (y.wpS P (bodyPostS P fn c₀ cs fun e u' w' => ∃ ρ' I' σ' b, Step ρ I w σ ρ' I' w' σ' ∧ RS P ρ' I' w' σ' ∧ e = .returned (.tuple #[]) ∧ u' = dmode v (pv.map fun _ => b) ∧ K b σ'))
        (bodyPostS P fn c₀ cs fun e u' w' => ∃ ρ' I' σ' b, Step ρ I w σ ρ' I' w' σ' ∧ RS P ρ' I' w' σ' ∧ e = .returned (.tuple #[]) ∧ u' = dmode v (pv.map fun _ => b) ∧ K b σ')) [1] (a0.put o0.dst u) cs' w := by
    intro u cs' b hu hcs hbb
    have hdl : wfDst a0.tmps.size (some d1) = true := by rw [hat.size, ← e0]; exact hw0
    have hget : (a0.put o0.dst u).eval (.tmp d1) = u := by
      have hlt : d1 < a0.tmps.size := by simpa [wfDst] using hdl
      show (a0.put o0.dst u).tmps.getD d1 undef = u
      rw [e0]
      simp only [Act.put]
      rw [getD_set_arr _ _ _ _ hlt, if_pos rfl]
    have r1 : (execOp (a0.put o0.dst u).eval o1).run P w = .ok (.value u) w := by
      simp only [execOp, op1, hget, Sem.run_pure]
    have w1 : Region.wanted o1 (yielded ops (a0.put o0.dst u).tmps) = true := by simp [Region.wanted, gn1]
    unfold wpOpsS
    simp only [q1, w1, if_true, r1, Oper.upon_value]
    unfold wpOpsS
    show y.wpS P _ ((a0.put o0.dst u).put o1.dst u) cs' w
    have hat2 : At P ⟨ρ, I, w, σ, []⟩ fn.ntmps (put (put (initFr args) (some d1) (recV pv)) (some d2) (recV pv)) σ ρ I ((a0.put o0.dst u).put o1.dst u) w := by
      rw [e0, e1]
      have hs1 : (a0.put (some d1) u).tmps.size = fn.ntmps := by rw [put_size]; exact hat.size
      refine ⟨hat.step, hat.rs, (hat.vf.put hu hdl).put hu (by rw [hs1, ← e1]; exact hw1), ?_, ?_⟩
      · rw [put_size, hs1]
      · rw [put_defers, put_defers]
    refine wpS_of_wp (wp_mono (W_sound (E := ⟨ρ, I, w, σ, []⟩) (Q := endR (K pv.isSome)) hmx y _ hwy _ σ ρ I _ w hat2 hh) ?_)
    rintro e a' w' ⟨ρ', I', fr', σ', ae, hat', hex, hq⟩
    have fin : K pv.isSome σ' → a'.defers = [] ∧ ∃ u', cs' = { c₀ with mode := u' } :: cs ∧ ∃ z, (results fn a'.tmps).run P w' = .ok z w' ∧
        ∃ ρ' I' σ' b, Step ρ I w σ ρ' I' w' σ' ∧ RS P ρ' I' w' σ' ∧ Ending.returned z = .returned (.tuple #[]) ∧ u' = dmode v (pv.map fun _ => b) ∧ K b σ' := by
      intro hk
      refine ⟨hat'.defers, _, hcs, .tuple #[], results_none hres a'.tmps P w', ρ', I', σ', b, hat'.step, hat'.rs, rfl, rfl, by rw [hbb]; exact hk⟩
    cases e <;> cases ae <;> simp only [exitIs] at hex
    · exact fin hq
    · exact hq.elim
    · exact fin hq
    · exact hq.elim
  rw [hsz]
  show wpOpsS P ops _ [0, 1] a0 (c₀ :: cs) w
  unfold wpOpsS
  have w0 : Region.wanted o0 (yielded ops a0.tmps) = true := by simp [Region.wanted, gn0]
  simp only [q0, w0, if_true, r0]
  cases pv with
  | none =>
    have hm : recoverD (c₀ :: cs) = none := by
      simp only [recoverD, hmode, dmode, Option.map_none]
    rw [hm]
    exact go .nilIface (c₀ :: cs) false (.d .niliface) (by simp only [Option.map_none, dmode]; rw [← show c₀.mode = .returning from hmode]) rfl
  | some x =>
    have hm : recoverD (c₀ :: cs) = some (v, { c₀ with mode := .panicking [{ v, recovered := true }] } :: cs) := by
      simp only [recoverD, hmode, dmode, Option.map_some]
    rw [hm]
    exact go v _ true (hpv x rfl) rfl rfl
end
end Nv
/- A view of functions that defer a closure, for walks. -/


set_option linter.unusedVariables false
set_option linter.unusedSimpArgs false
namespace Nv
open Go

def wWD (P : Program) (h : Nat → Hint) (c : PC) (Q1 : Post) (Q2 : FuncId → List AV → Post) (t : Tk c) (q1 : Tk Q1) (q2 : Tk Q2) (fr : FR) (σ : ST) : Prop := WD P h c Q1 Q2 fr σ

section
variable {P : Program} {h : Nat → Hint} {Q1 : Post} {Q2 : FuncId → List AV → Post} {fr : FR} {σ : ST}
theorem wWD_none {a b : PC} {t : Tk (PC.seq a b)} {q1 : Tk Q1} {q2 : Tk Q2} (hd : deferAt a = none) (hh : wW P h a (thenA (fun fr σ => wWD P h b Q1 Q2 ⟨⟩ ⟨⟩ ⟨⟩ fr σ) Q1) ⟨⟩ ⟨⟩ fr σ) : wWD P h (.seq a b) Q1 Q2 t q1 q2 fr σ := by
  unfold wWD WD
  rw [hd]
  unfold wW at hh
  exact hh
theorem wWD_some {a b : PC} {d : Nat} {g : FuncId} {first cap : List Operand} {t : Tk (PC.seq a b)} {q1 : Tk Q1} {q2 : Tk Q2} (hd : deferAt a = some (d, g, first, cap))
    (hh : wW P h b (Q2 g (first.map (aeval fr) ++ cap.map (aeval fr))) ⟨⟩ ⟨⟩ (put fr (some d) (.func (.func g) (first.map (aeval fr)) (cap.map (aeval fr)))) σ) : wWD P h (.seq a b) Q1 Q2 t q1 q2 fr σ := by
  unfold wWD WD
  rw [hd]
  unfold wW at hh
  exact hh
theorem FnIs.goD {f np : Nat} {rs : List ResultVar} {pc : PC} {K : Out → ST → Prop} (hf : FnIs P f np rs pc) (hint : Nat → Hint) {args : List AV} (hn : args.length ≤ np)
    (hh : wWD P hint pc (endA P rs K) (endD P rs K) ⟨⟩ ⟨⟩ ⟨⟩ (initFr args) σ) : ACall P f args σ K := by
  obtain ⟨fn, h1, h2, h3, h4, h5⟩ := hf.is
  unfold wfF at h3
  unfold pcOf at h2
  cases hb : fn.body with
  | none => rw [hb] at h3; cases h3
  | some c =>
    rw [hb] at h3 h2
    subst h2 h4
    exact call_of_WD hf.mx hint h1 hb h3 (Nat.le_trans hn h5) hh

/-- The end of a function that has deferred a closure. -/
def DEnd (P : Program) (rs : List ResultVar) (K : Out → ST → Prop) (g : FuncId) (args : List AV) (pv : Option AV) (fr : FR) (σ : ST) : Prop :=
  plainFn P g = true ∧ DCall P g args σ pv fun b σ' => match pv with
    | none => outW P fr σ' rs fun v => K (.ret v) σ'
    | some x => bif b then outW P fr σ' rs (fun v => K (.ret v) σ') else K (.panic x) σ'
variable {K : Out → ST → Prop} {rs : List ResultVar} {g : FuncId} {args : List AV}
@[go_sem] theorem wQ_endD_ret {t : Tk (endD P rs K g args)} : wQ (endD P rs K g args) t .ret fr σ = DEnd P rs K g args none fr σ := by unfold wQ; rfl
@[go_sem] theorem wQ_endD_normal {t : Tk (endD P rs K g args)} : wQ (endD P rs K g args) t .normal fr σ = DEnd P rs K g args none fr σ := by unfold wQ; rfl
@[go_sem] theorem wQ_endD_panic (x : AV) {t : Tk (endD P rs K g args)} : wQ (endD P rs K g args) t (.panic x) fr σ = DEnd P rs K g args (some x) fr σ := by unfold wQ; rfl
variable {K1 : ST → Prop}
@[go_sem] theorem wQ_endR_ret {t : Tk (endR K1)} : wQ (endR K1) t .ret fr σ = K1 σ := by unfold wQ; rfl
@[go_sem] theorem wQ_endR_normal {t : Tk (endR K1)} : wQ (endR K1) t .normal fr σ = K1 σ := by unfold wQ; rfl

theorem prep_seq {c : Code} {a b : PC} (h : prep c = .seq a b) : ∃ x y, c = .seq x y ∧ prep x = a ∧ prep y = b := by
  cases c with
  | seq x y => simp only [prep, PC.seq.injEq] at h; exact ⟨x, y, rfl, h.1, h.2⟩
  | region id ops o => cases o <;> simp [prep] at h
  | _ => simp [prep] at h
/-- A deferred closure that begins with recover. -/
theorem FnIs.dcall {np : Nat} {a b : PC} (hf : FnIs P g np [] (.seq a b)) (hint : Nat → Hint) {pv : Option AV} {K : Bool → ST → Prop} {d1 d2 : Nat} (hn : args.length ≤ np) (hrec : recAt a = some (d1, d2))
    (hh : wW P hint b (endR (K pv.isSome)) ⟨⟩ ⟨⟩ (put (put (initFr args) (some d1) (recV pv)) (some d2) (recV pv)) σ) : DCall P g args σ pv K := by
  obtain ⟨fn, h1, h2, h3, h4, h5⟩ := hf.is
  unfold wfF at h3
  unfold pcOf at h2
  cases hb : fn.body with
  | none => rw [hb] at h3; cases h3
  | some c =>
    rw [hb] at h3 h2
    obtain ⟨x, y, rfl, rfl, rfl⟩ := prep_seq h2
    have hres : fn.results = #[] := by
      have := h4
      cases hr : fn.results with
      | mk l => rw [hr] at this; simp at this; rw [this]
    unfold wW at hh
    exact DCall_of hf.mx hint h1 hb h3 (Nat.le_trans hn h5) hres hrec hh
@[go_sem] theorem outW_cc (t ty u uy : Nat) (Ka : AV → Prop) : outW P fr σ [.cell t ty, .cell u uy] Ka = cellW P ty (fr t) σ (fun v => cellW P uy (fr u) σ fun v' => Ka (.tuple [v, v'])) := nrfl rfl
@[go_sem] theorem recV_none : recV none = .d .niliface := nrfl rfl
@[go_sem] theorem recV_some (x : AV) : recV (some x) = x := nrfl rfl
end
attribute [irreducible] wWD
end Nv
set_option linter.unusedVariables false
set_option linter.unusedSimpArgs false
set_option maxRecDepth 100000
namespace Go.Proofs.YtjgbdlaecpkmhaaGreatDoor
open Go Nv Pat

/- Parse as a whole. -/
theorem V.wkt {ρ : RHO} {σ : Nv.ST} {I : Nat → Prop} {w : World} {a b c : AV} {v : Value} (h : WkB a b) (hv : V ρ σ I w (.tuple [a, c]) v) : V ρ σ I w (.tuple [b, c]) v := by
  cases hv with
  | tuple h1 h2 =>
    refine .tuple (by simpa using h1) fun j x hj => ?_
    match j, hj with
    | 0, hj => simp at hj; subst hj; exact (h2 0 _ rfl).wkb h
    | 1, hj => simp at hj; subst hj; exact h2 1 _ rfl
    | j + 2, hj => simp at hj
theorem ACall.wkt {f : FuncId} {args : List AV} {σ : Nv.ST} {b c : AV} (h : ACall Tryz.prog f args σ fun oc _ => ∃ a, oc = .ret (.tuple [a, c]) ∧ WkB a b) : ACall Tryz.prog f args σ fun oc _ => oc = .ret (.tuple [b, c]) := by
  intro ρ I w vs hr hv
  refine (h ρ I w vs hr hv).mono ?_
  rintro e w' ⟨ρ', I', σ', oc, h1, h2, h3, a, rfl, hw⟩
  cases e <;> simp only at h3
  exact ⟨ρ', I', σ', .ret (.tuple [b, c]), h1, h2, Go.Proofs.YtjgbdlaecpkmhaaGreatDoor.V.wkt hw h3, rfl⟩

def charsOf (s : List UInt8) : List Int := (Nv.runesD s).map fun x => match x with | .int _ n => n | _ => 0
theorem charsOf_enc {l : List Int} (h : Chars l) : charsOf (encS l) = l := by
  rw [charsOf, runes_enc h, List.map_map]
  conv => rhs; rw [← List.map_id l]
  rfl
def zeroT : Tree := .mk 0 [] [] 0 0
/-- What Parse hands back: a tree and the number of an error. -/
def parseM (s : List UInt8) : Tree × Int :=
  if 60 < s.length then (zeroT, 5) else if Lib.validD s = false then (zeroT, 3)
  else match parseC sortR (charsOf s) with
    | some n => (n, 0)
    | none => (zeroT, 3)
theorem wk_zero : WkB (.agg [.d (.int .i64 0), .d .nilslice, .d .nilslice, .d (.int .i64 0), .d (.int .i64 0)]) (nodeA zeroT) :=
  wkB5 (.d (.refl _)) (.d (.nil 2)) (.d (.nil 5)) (.d (.refl _)) (.d (.refl _))

def hintP1 : Nat → Hint := fun i => if i = 15 then .freeze else .no
@[go_sem] theorem hintP1_at (i : Nat) : hintP1 i = if i = 15 then .freeze else .no := nrfl rfl

theorem dcall_none (σ : Nv.ST) (K : Bool → Nv.ST → Prop) (h : K false σ) : DCall Tryz.prog 64 [.ptr 0 0, .ptr 1 0] σ none K := by
  refine FnIs.dcall fn64 noHint (Nat.le_refl _) (d1 := 5) (d2 := 2) rfl ?_
  simp (disch := omega) only [go_sem, reduceIte, reduceDIte, reduceCtorEq, Nat.reduceBEq, Nat.reduceEqDiff, Nat.reduceAdd, Nat.reduceSub, Nat.reduceMul, Nat.reduceLT, Nat.reduceLeDiff, Nat.reduceBNe, Int.reduceNeg, Int.reduceAdd, Int.reduceSub, Int.reduceMul, Int.reduceLT, Int.reduceLE, Int.reduceGT, Int.reduceGE, Int.reduceEq, Int.reduceNe, Int.reduceToNat, Int.reduceTMod, Int.reduceTDiv]
  exact h
theorem dcall_bad (a b c d e : AV) (x : AV) (rest : Nv.ST) (K : Bool → Nv.ST → Prop)
    (h : ∀ τ, K true (.box 78 [.d (.int .i64 0), .d .nilslice, .d .nilslice, .d (.int .i64 0), .d (.int .i64 0)] :: .box 24 [.d (.int .i64 3)] :: τ)) :
    DCall Tryz.prog 64 [.ptr 0 0, .ptr 1 0] (.box 78 [a, b, c, d, e] :: .box 24 [x] :: rest) (some badV) K := by
  refine FnIs.dcall fn64 noHint (Nat.le_refl _) (d1 := 5) (d2 := 2) rfl ?_
  simp (disch := omega) only [go_sem, reduceIte, reduceDIte, reduceCtorEq, Nat.reduceBEq, Nat.reduceEqDiff, Nat.reduceAdd, Nat.reduceSub, Nat.reduceMul, Nat.reduceLT, Nat.reduceLeDiff, Nat.reduceBNe, Int.reduceNeg, Int.reduceAdd, Int.reduceSub, Int.reduceMul, Int.reduceLT, Int.reduceLE, Int.reduceGT, Int.reduceGE, Int.reduceEq, Int.reduceNe, Int.reduceToNat, Int.reduceTMod, Int.reduceTDiv, badV, rAssert, isIf]
  exact ⟨by kernel_rfl, h _⟩

theorem parse14 (s : List UInt8) (hs : s.length ≤ 9223372036854775807) : PCall Tryz.prog 46 [.d (.str s)] (.tuple [nodeA (parseM s).1, .d (.int .i64 (parseM s).2)]) := by
  refine PCall.of_nil (by simp only [go_sem]) (by simp only [go_sem, nodeA, nodeF, setD]) ?_
  refine Go.Proofs.YtjgbdlaecpkmhaaGreatDoor.ACall.wkt ?_
  refine fn46.goD hintP1 (Nat.le_refl _) ?_
  refine wWD_none rfl ?_
  simp (disch := omega) only [go_sem, reduceIte, reduceDIte, reduceCtorEq, Nat.reduceBEq, Nat.reduceEqDiff, Nat.reduceAdd, Nat.reduceSub, Nat.reduceMul, Nat.reduceLT, Nat.reduceLeDiff, Nat.reduceBNe, Int.reduceNeg, Int.reduceAdd, Int.reduceSub, Int.reduceMul, Int.reduceLT, Int.reduceLE, Int.reduceGT, Int.reduceGE, Int.reduceEq, Int.reduceNe, Int.reduceToNat, Int.reduceTMod, Int.reduceTDiv]
  refine wWD_none rfl ?_
  by_cases h60 : (60 : Int) < s.length
  · have e : parseM s = (zeroT, 5) := by rw [parseM, if_pos (by omega)]
    simp (disch := omega) only [go_sem, reduceIte, reduceDIte, reduceCtorEq, Nat.reduceBEq, Nat.reduceEqDiff, Nat.reduceAdd, Nat.reduceSub, Nat.reduceMul, Nat.reduceLT, Nat.reduceLeDiff, Nat.reduceBNe, Int.reduceNeg, Int.reduceAdd, Int.reduceSub, Int.reduceMul, Int.reduceLT, Int.reduceLE, Int.reduceGT, Int.reduceGE, Int.reduceEq, Int.reduceNe, Int.reduceToNat, Int.reduceTMod, Int.reduceTDiv, h60, e]
    exact ⟨_, rfl, wk_zero⟩
  simp (disch := omega) only [go_sem, reduceIte, reduceDIte, reduceCtorEq, Nat.reduceBEq, Nat.reduceEqDiff, Nat.reduceAdd, Nat.reduceSub, Nat.reduceMul, Nat.reduceLT, Nat.reduceLeDiff, Nat.reduceBNe, Int.reduceNeg, Int.reduceAdd, Int.reduceSub, Int.reduceMul, Int.reduceLT, Int.reduceLE, Int.reduceGT, Int.reduceGE, Int.reduceEq, Int.reduceNe, Int.reduceToNat, Int.reduceTMod, Int.reduceTDiv, h60]
  refine wWD_none rfl ?_
  simp (disch := omega) only [go_sem, reduceIte, reduceDIte, reduceCtorEq, Nat.reduceBEq, Nat.reduceEqDiff, Nat.reduceAdd, Nat.reduceSub, Nat.reduceMul, Nat.reduceLT, Nat.reduceLeDiff, Nat.reduceBNe, Int.reduceNeg, Int.reduceAdd, Int.reduceSub, Int.reduceMul, Int.reduceLT, Int.reduceLE, Int.reduceGT, Int.reduceGE, Int.reduceEq, Int.reduceNe, Int.reduceToNat, Int.reduceTMod, Int.reduceTDiv]
  refine (validU s (by omega)).at ?_
  cases hv : Lib.validD s
  · have e : parseM s = (zeroT, 3) := by rw [parseM, if_neg (by omega), if_pos hv]
    simp (disch := omega) only [go_sem, reduceIte, reduceDIte, reduceCtorEq, Nat.reduceBEq, Nat.reduceEqDiff, Nat.reduceAdd, Nat.reduceSub, Nat.reduceMul, Nat.reduceLT, Nat.reduceLeDiff, Nat.reduceBNe, Int.reduceNeg, Int.reduceAdd, Int.reduceSub, Int.reduceMul, Int.reduceLT, Int.reduceLE, Int.reduceGT, Int.reduceGE, Int.reduceEq, Int.reduceNe, Int.reduceToNat, Int.reduceTMod, Int.reduceTDiv, e]
    exact ⟨_, rfl, wk_zero⟩
  simp (disch := omega) only [go_sem, reduceIte, reduceDIte, reduceCtorEq, Nat.reduceBEq, Nat.reduceEqDiff, Nat.reduceAdd, Nat.reduceSub, Nat.reduceMul, Nat.reduceLT, Nat.reduceLeDiff, Nat.reduceBNe, Int.reduceNeg, Int.reduceAdd, Int.reduceSub, Int.reduceMul, Int.reduceLT, Int.reduceLE, Int.reduceGT, Int.reduceGE, Int.reduceEq, Int.reduceNe, Int.reduceToNat, Int.reduceTMod, Int.reduceTDiv]
  refine wWD_some rfl ?_
  obtain ⟨l, hl, rfl⟩ := valid_as hv
  have hll : l.length ≤ 60 := by have := len_enc l; omega
  have hta := take_all (l.map (DV.int .i32)) l.length (by simp)
  have hrun := runes_enc hl
  have hb1 : (encS l).length ≤ 70368744177664 := by omega
  have hm : parseM (encS l) = (match parseC sortR l with | some n => (n, 0) | none => (zeroT, 3)) := by
    rw [parseM, if_neg (by omega), if_neg (by rw [hv]; simp), charsOf_enc hl]
  simp (disch := omega) only [go_sem, reduceIte, reduceDIte, reduceCtorEq, Nat.reduceBEq, Nat.reduceEqDiff, Nat.reduceAdd, Nat.reduceSub, Nat.reduceMul, Nat.reduceLT, Nat.reduceLeDiff, Nat.reduceBNe, Int.reduceNeg, Int.reduceAdd, Int.reduceSub, Int.reduceMul, Int.reduceLT, Int.reduceLE, Int.reduceGT, Int.reduceGE, Int.reduceEq, Int.reduceNe, Int.reduceToNat, Int.reduceTMod, Int.reduceTDiv, hrun, hb1, List.length_map, hta, Nat.zero_add, Nat.le_refl]
  refine (choices (l.length + 1) l l (by omega) hl (by omega)).at [_, _, _] [] [] rfl ?_ ?_
  · intro v r' u' τ ho e'
    cases hch : chP sortR (l.length + 1) l with
    | none => rw [hch] at ho; cases ho
    | some y =>
      obtain ⟨n, r1⟩ := y
      rw [hch] at ho
      simp only [Option.map_some, Option.some.injEq, Prod.mk.injEq] at ho
      obtain ⟨rfl, rfl⟩ := ho
      have hna : nodeA n = .agg [.d (.int .i64 n.kind), .d (setD n.set), .d (.list 5 (n.sub.map nodeD)), .d (.int .i64 n.min), .d (.int .i64 n.max)] := rfl
      simp (disch := omega) only [go_sem, reduceIte, reduceDIte, reduceCtorEq, Nat.reduceBEq, Nat.reduceEqDiff, Nat.reduceAdd, Nat.reduceSub, Nat.reduceMul, Nat.reduceLT, Nat.reduceLeDiff, Nat.reduceBNe, Int.reduceNeg, Int.reduceAdd, Int.reduceSub, Int.reduceMul, Int.reduceLT, Int.reduceLE, Int.reduceGT, Int.reduceGE, Int.reduceEq, Int.reduceNe, Int.reduceToNat, Int.reduceTMod, Int.reduceTDiv, hna, List.append_assoc, List.cons_append, List.nil_append, List.length_append, stGet_app, stGet_app0, stSet_app, stSet_app0]
      refine (peekL l u' r1 e' (by omega) [_, _, _] τ).at ?_
      cases r1 with
      | nil =>
        have e : parseM (encS l) = (n, 0) := by rw [hm, parseC, hch]
        have hn0 : ¬ (0 : Int) ≤ -1 := by omega
        rw [e]
        simp (disch := omega) only [go_sem, reduceIte, reduceDIte, reduceCtorEq, Nat.reduceBEq, Nat.reduceEqDiff, Nat.reduceAdd, Nat.reduceSub, Nat.reduceMul, Nat.reduceLT, Nat.reduceLeDiff, Nat.reduceBNe, Int.reduceNeg, Int.reduceAdd, Int.reduceSub, Int.reduceMul, Int.reduceLT, Int.reduceLE, Int.reduceGT, Int.reduceGE, Int.reduceEq, Int.reduceNe, Int.reduceToNat, Int.reduceTMod, Int.reduceTDiv, List.headD_nil, hn0, boxP]
        refine ⟨by kernel_rfl, dcall_none _ _ ?_⟩
        simp (disch := omega) only [go_sem, reduceIte, reduceDIte, reduceCtorEq, Nat.reduceBEq, Nat.reduceEqDiff, Nat.reduceAdd, Nat.reduceSub, Nat.reduceMul, Nat.reduceLT, Nat.reduceLeDiff, Nat.reduceBNe, Int.reduceNeg, Int.reduceAdd, Int.reduceSub, Int.reduceMul, Int.reduceLT, Int.reduceLE, Int.reduceGT, Int.reduceGE, Int.reduceEq, Int.reduceNe, Int.reduceToNat, Int.reduceTMod, Int.reduceTDiv]
        exact ⟨_, rfl, wkB5 (.d (.refl _)) (.d (.refl _)) (.d (.refl _)) (.d (.refl _)) (.d (.refl _))⟩
      | cons c t =>
        have e : parseM (encS l) = (zeroT, 3) := by rw [hm, parseC, hch]
        have hc0 : 0 ≤ c := hl.nonneg c (by rw [e']; simp)
        rw [e]
        simp (disch := omega) only [go_sem, reduceIte, reduceDIte, reduceCtorEq, Nat.reduceBEq, Nat.reduceEqDiff, Nat.reduceAdd, Nat.reduceSub, Nat.reduceMul, Nat.reduceLT, Nat.reduceLeDiff, Nat.reduceBNe, Int.reduceNeg, Int.reduceAdd, Int.reduceSub, Int.reduceMul, Int.reduceLT, Int.reduceLE, Int.reduceGT, Int.reduceGE, Int.reduceEq, Int.reduceNe, Int.reduceToNat, Int.reduceTMod, Int.reduceTDiv, List.headD_cons, hc0, boxP]
        refine ⟨by kernel_rfl, dcall_bad _ _ _ _ _ _ _ _ fun τ => ?_⟩
        simp (disch := omega) only [go_sem, reduceIte, reduceDIte, reduceCtorEq, Nat.reduceBEq, Nat.reduceEqDiff, Nat.reduceAdd, Nat.reduceSub, Nat.reduceMul, Nat.reduceLT, Nat.reduceLeDiff, Nat.reduceBNe, Int.reduceNeg, Int.reduceAdd, Int.reduceSub, Int.reduceMul, Int.reduceLT, Int.reduceLE, Int.reduceGT, Int.reduceGE, Int.reduceEq, Int.reduceNe, Int.reduceToNat, Int.reduceTMod, Int.reduceTDiv]
        exact ⟨_, rfl, wk_zero⟩
  · intro ho τ
    have e : parseM (encS l) = (zeroT, 3) := by
      rw [hm, parseC]
      cases hch : chP sortR (l.length + 1) l with
      | none => rfl
      | some y => rw [hch] at ho; cases ho
    rw [e]
    simp (disch := omega) only [go_sem, reduceIte, reduceDIte, reduceCtorEq, Nat.reduceBEq, Nat.reduceEqDiff, Nat.reduceAdd, Nat.reduceSub, Nat.reduceMul, Nat.reduceLT, Nat.reduceLeDiff, Nat.reduceBNe, Int.reduceNeg, Int.reduceAdd, Int.reduceSub, Int.reduceMul, Int.reduceLT, Int.reduceLE, Int.reduceGT, Int.reduceGE, Int.reduceEq, Int.reduceNe, Int.reduceToNat, Int.reduceTMod, Int.reduceTDiv, List.append_assoc, List.cons_append, List.nil_append, List.length_append, stGet_app, stGet_app0, stSet_app, stSet_app0]
    refine ⟨by kernel_rfl, dcall_bad _ _ _ _ _ _ _ _ fun τ => ?_⟩
    simp (disch := omega) only [go_sem, reduceIte, reduceDIte, reduceCtorEq, Nat.reduceBEq, Nat.reduceEqDiff, Nat.reduceAdd, Nat.reduceSub, Nat.reduceMul, Nat.reduceLT, Nat.reduceLeDiff, Nat.reduceBNe, Int.reduceNeg, Int.reduceAdd, Int.reduceSub, Int.reduceMul, Int.reduceLT, Int.reduceLE, Int.reduceGT, Int.reduceGE, Int.reduceEq, Int.reduceNe, Int.reduceToNat, Int.reduceTMod, Int.reduceTDiv]
    exact ⟨_, rfl, wk_zero⟩
end Go.Proofs.YtjgbdlaecpkmhaaGreatDoor
set_option linter.unusedVariables false
set_option linter.unusedSimpArgs false
set_option maxRecDepth 100000
namespace Go.Proofs.YtjgbdlaecpkmhaaGreatDoor
open Go Nv Rul

/- The program's check of a rule. -/
def ruleC (r : Rule) : List AV := [.d (.str r.name), .d (.str r.pat), .d (.int .i64 r.lo), .d (.int .i64 r.hi), .d (.int .i64 r.cls), .d (.int .i64 r.wait)]
def ruleA (r : Rule) : AV := .agg (ruleC r)
def ruleD (r : Rule) : DV := .agg [.str r.name, .str r.pat, .int .i64 r.lo, .int .i64 r.hi, .int .i64 r.cls, .int .i64 r.wait]
def peM (s : List UInt8) : Int := (parseM s).2
theorem check12 (r : Rule) (hs : r.pat.length ≤ 9223372036854775807) : PCall Tryz.prog 27 [ruleA r] (.d (.int .i64 (ruleE peM r))) := by
  refine fn27.pure noHint (Nat.le_refl _) (by simp only [go_sem, ruleA, ruleC]) (by simp only [go_sem]) ?_
  by_cases h1 : r.cls < 1
  · have e : ruleE peM r = 9 := by unfold ruleE; rw [if_pos (.inl h1)]
    simp (disch := omega) only [go_sem, reduceIte, reduceDIte, reduceCtorEq, Nat.reduceBEq, Nat.reduceEqDiff, Nat.reduceAdd, Nat.reduceSub, Nat.reduceMul, Nat.reduceLT, Nat.reduceLeDiff, Nat.reduceBNe, Int.reduceNeg, Int.reduceAdd, Int.reduceSub, Int.reduceMul, Int.reduceLT, Int.reduceLE, Int.reduceGT, Int.reduceGE, Int.reduceEq, Int.reduceNe, Int.reduceToNat, Int.reduceTMod, Int.reduceTDiv, ruleA, ruleC, h1, e]
    done
  by_cases h2 : 3 < r.cls
  · have e : ruleE peM r = 9 := by unfold ruleE; rw [if_pos (.inr h2)]
    simp (disch := omega) only [go_sem, reduceIte, reduceDIte, reduceCtorEq, Nat.reduceBEq, Nat.reduceEqDiff, Nat.reduceAdd, Nat.reduceSub, Nat.reduceMul, Nat.reduceLT, Nat.reduceLeDiff, Nat.reduceBNe, Int.reduceNeg, Int.reduceAdd, Int.reduceSub, Int.reduceMul, Int.reduceLT, Int.reduceLE, Int.reduceGT, Int.reduceGE, Int.reduceEq, Int.reduceNe, Int.reduceToNat, Int.reduceTMod, Int.reduceTDiv, ruleA, ruleC, h1, h2, e]
    done
  have e0 : ruleE peM r = if rangeBad r = true ∨ waitBad r = true then 2 else if isIn r.pat 10 = true then 3 else peM r.pat := by
    unfold ruleE; rw [if_neg (by omega)]
  by_cases hb : rangeBad r = true ∨ waitBad r = true
  · rw [if_pos hb] at e0
    simp only [rangeBad, waitBad, Bool.or_eq_true, Bool.and_eq_true, decide_eq_true_eq, Bool.not_eq_true', decide_eq_false_iff_not] at hb
    by_cases h3 : r.lo < 0
    · simp (disch := omega) only [go_sem, reduceIte, reduceDIte, reduceCtorEq, Nat.reduceBEq, Nat.reduceEqDiff, Nat.reduceAdd, Nat.reduceSub, Nat.reduceMul, Nat.reduceLT, Nat.reduceLeDiff, Nat.reduceBNe, Int.reduceNeg, Int.reduceAdd, Int.reduceSub, Int.reduceMul, Int.reduceLT, Int.reduceLE, Int.reduceGT, Int.reduceGE, Int.reduceEq, Int.reduceNe, Int.reduceToNat, Int.reduceTMod, Int.reduceTDiv, ruleA, ruleC, h1, h2, h3, e0]
      done
    by_cases h4 : r.hi ≤ r.lo
    · simp (disch := omega) only [go_sem, reduceIte, reduceDIte, reduceCtorEq, Nat.reduceBEq, Nat.reduceEqDiff, Nat.reduceAdd, Nat.reduceSub, Nat.reduceMul, Nat.reduceLT, Nat.reduceLeDiff, Nat.reduceBNe, Int.reduceNeg, Int.reduceAdd, Int.reduceSub, Int.reduceMul, Int.reduceLT, Int.reduceLE, Int.reduceGT, Int.reduceGE, Int.reduceEq, Int.reduceNe, Int.reduceToNat, Int.reduceTMod, Int.reduceTDiv, ruleA, ruleC, h1, h2, h3, h4, e0]
      done
    by_cases h5 : 60 < r.hi
    · simp (disch := omega) only [go_sem, reduceIte, reduceDIte, reduceCtorEq, Nat.reduceBEq, Nat.reduceEqDiff, Nat.reduceAdd, Nat.reduceSub, Nat.reduceMul, Nat.reduceLT, Nat.reduceLeDiff, Nat.reduceBNe, Int.reduceNeg, Int.reduceAdd, Int.reduceSub, Int.reduceMul, Int.reduceLT, Int.reduceLE, Int.reduceGT, Int.reduceGE, Int.reduceEq, Int.reduceNe, Int.reduceToNat, Int.reduceTMod, Int.reduceTDiv, ruleA, ruleC, h1, h2, h3, h4, h5, e0]
      done
    by_cases h6 : r.wait < 0
    · simp (disch := omega) only [go_sem, reduceIte, reduceDIte, reduceCtorEq, Nat.reduceBEq, Nat.reduceEqDiff, Nat.reduceAdd, Nat.reduceSub, Nat.reduceMul, Nat.reduceLT, Nat.reduceLeDiff, Nat.reduceBNe, Int.reduceNeg, Int.reduceAdd, Int.reduceSub, Int.reduceMul, Int.reduceLT, Int.reduceLE, Int.reduceGT, Int.reduceGE, Int.reduceEq, Int.reduceNe, Int.reduceToNat, Int.reduceTMod, Int.reduceTDiv, ruleA, ruleC, h1, h2, h3, h4, h5, h6, e0]
      done
    by_cases h7 : 60000 < r.wait
    · simp (disch := omega) only [go_sem, reduceIte, reduceDIte, reduceCtorEq, Nat.reduceBEq, Nat.reduceEqDiff, Nat.reduceAdd, Nat.reduceSub, Nat.reduceMul, Nat.reduceLT, Nat.reduceLeDiff, Nat.reduceBNe, Int.reduceNeg, Int.reduceAdd, Int.reduceSub, Int.reduceMul, Int.reduceLT, Int.reduceLE, Int.reduceGT, Int.reduceGE, Int.reduceEq, Int.reduceNe, Int.reduceToNat, Int.reduceTMod, Int.reduceTDiv, ruleA, ruleC, h1, h2, h3, h4, h5, h6, h7, e0]
      done
    have h8 : 0 < r.wait ∧ ¬ r.cls = 3 := by
      rcases hb with ((hb | hb) | hb) | ((hb | hb) | hb)
      · exact absurd hb h3
      · exact absurd hb h4
      · exact absurd hb h5
      · exact absurd hb h6
      · exact absurd hb h7
      · exact hb
    simp (disch := omega) only [go_sem, reduceIte, reduceDIte, reduceCtorEq, Nat.reduceBEq, Nat.reduceEqDiff, Nat.reduceAdd, Nat.reduceSub, Nat.reduceMul, Nat.reduceLT, Nat.reduceLeDiff, Nat.reduceBNe, Int.reduceNeg, Int.reduceAdd, Int.reduceSub, Int.reduceMul, Int.reduceLT, Int.reduceLE, Int.reduceGT, Int.reduceGE, Int.reduceEq, Int.reduceNe, Int.reduceToNat, Int.reduceTMod, Int.reduceTDiv, ruleA, ruleC, h1, h2, h3, h4, h5, h6, h7, h8.1, h8.2, e0]
  · rw [if_neg hb] at e0
    simp only [rangeBad, waitBad, Bool.or_eq_true, Bool.and_eq_true, decide_eq_true_eq, Bool.not_eq_true', decide_eq_false_iff_not, not_or, not_and] at hb
    obtain ⟨⟨⟨h3, h4⟩, h5⟩, ⟨h6, h7⟩, h8⟩ := hb
    by_cases h9 : 0 < r.wait
    · have h10 : r.cls = 3 := Classical.not_not.1 (h8 h9)
      simp (disch := omega) only [go_sem, reduceIte, reduceDIte, reduceCtorEq, Nat.reduceBEq, Nat.reduceEqDiff, Nat.reduceAdd, Nat.reduceSub, Nat.reduceMul, Nat.reduceLT, Nat.reduceLeDiff, Nat.reduceBNe, Int.reduceNeg, Int.reduceAdd, Int.reduceSub, Int.reduceMul, Int.reduceLT, Int.reduceLE, Int.reduceGT, Int.reduceGE, Int.reduceEq, Int.reduceNe, Int.reduceToNat, Int.reduceTMod, Int.reduceTDiv, ruleA, ruleC, h1, h2, h3, h4, h5, h6, h7, h9, h10]
      refine (contains_one r.pat 10).at ?_
      by_cases hn : 0 ≤ Lib.indexByte r.pat 10
      · have e : ruleE peM r = 3 := by rw [e0, if_pos (by unfold isIn; exact decide_eq_true hn)]
        simp (disch := omega) only [go_sem, reduceIte, reduceDIte, reduceCtorEq, Nat.reduceBEq, Nat.reduceEqDiff, Nat.reduceAdd, Nat.reduceSub, Nat.reduceMul, Nat.reduceLT, Nat.reduceLeDiff, Nat.reduceBNe, Int.reduceNeg, Int.reduceAdd, Int.reduceSub, Int.reduceMul, Int.reduceLT, Int.reduceLE, Int.reduceGT, Int.reduceGE, Int.reduceEq, Int.reduceNe, Int.reduceToNat, Int.reduceTMod, Int.reduceTDiv, hn, e]
      · have e : ruleE peM r = (parseM r.pat).2 := by
          rw [e0, if_neg (by unfold isIn; simpa using hn)]; rfl
        have hp := parse14 r.pat hs
        simp only [nodeA, nodeF] at hp
        simp (disch := omega) only [go_sem, reduceIte, reduceDIte, reduceCtorEq, Nat.reduceBEq, Nat.reduceEqDiff, Nat.reduceAdd, Nat.reduceSub, Nat.reduceMul, Nat.reduceLT, Nat.reduceLeDiff, Nat.reduceBNe, Int.reduceNeg, Int.reduceAdd, Int.reduceSub, Int.reduceMul, Int.reduceLT, Int.reduceLE, Int.reduceGT, Int.reduceGE, Int.reduceEq, Int.reduceNe, Int.reduceToNat, Int.reduceTMod, Int.reduceTDiv, hn]
        refine hp.at ?_
        simp (disch := omega) only [go_sem, reduceIte, reduceDIte, reduceCtorEq, Nat.reduceBEq, Nat.reduceEqDiff, Nat.reduceAdd, Nat.reduceSub, Nat.reduceMul, Nat.reduceLT, Nat.reduceLeDiff, Nat.reduceBNe, Int.reduceNeg, Int.reduceAdd, Int.reduceSub, Int.reduceMul, Int.reduceLT, Int.reduceLE, Int.reduceGT, Int.reduceGE, Int.reduceEq, Int.reduceNe, Int.reduceToNat, Int.reduceTMod, Int.reduceTDiv, e]
    · simp (disch := omega) only [go_sem, reduceIte, reduceDIte, reduceCtorEq, Nat.reduceBEq, Nat.reduceEqDiff, Nat.reduceAdd, Nat.reduceSub, Nat.reduceMul, Nat.reduceLT, Nat.reduceLeDiff, Nat.reduceBNe, Int.reduceNeg, Int.reduceAdd, Int.reduceSub, Int.reduceMul, Int.reduceLT, Int.reduceLE, Int.reduceGT, Int.reduceGE, Int.reduceEq, Int.reduceNe, Int.reduceToNat, Int.reduceTMod, Int.reduceTDiv, ruleA, ruleC, h1, h2, h3, h4, h5, h6, h7, h9]
      refine (contains_one r.pat 10).at ?_
      by_cases hn : 0 ≤ Lib.indexByte r.pat 10
      · have e : ruleE peM r = 3 := by rw [e0, if_pos (by unfold isIn; exact decide_eq_true hn)]
        simp (disch := omega) only [go_sem, reduceIte, reduceDIte, reduceCtorEq, Nat.reduceBEq, Nat.reduceEqDiff, Nat.reduceAdd, Nat.reduceSub, Nat.reduceMul, Nat.reduceLT, Nat.reduceLeDiff, Nat.reduceBNe, Int.reduceNeg, Int.reduceAdd, Int.reduceSub, Int.reduceMul, Int.reduceLT, Int.reduceLE, Int.reduceGT, Int.reduceGE, Int.reduceEq, Int.reduceNe, Int.reduceToNat, Int.reduceTMod, Int.reduceTDiv, hn, e]
      · have e : ruleE peM r = (parseM r.pat).2 := by
          rw [e0, if_neg (by unfold isIn; simpa using hn)]; rfl
        have hp := parse14 r.pat hs
        simp only [nodeA, nodeF] at hp
        simp (disch := omega) only [go_sem, reduceIte, reduceDIte, reduceCtorEq, Nat.reduceBEq, Nat.reduceEqDiff, Nat.reduceAdd, Nat.reduceSub, Nat.reduceMul, Nat.reduceLT, Nat.reduceLeDiff, Nat.reduceBNe, Int.reduceNeg, Int.reduceAdd, Int.reduceSub, Int.reduceMul, Int.reduceLT, Int.reduceLE, Int.reduceGT, Int.reduceGE, Int.reduceEq, Int.reduceNe, Int.reduceToNat, Int.reduceTMod, Int.reduceTDiv, hn]
        refine hp.at ?_
        simp (disch := omega) only [go_sem, reduceIte, reduceDIte, reduceCtorEq, Nat.reduceBEq, Nat.reduceEqDiff, Nat.reduceAdd, Nat.reduceSub, Nat.reduceMul, Nat.reduceLT, Nat.reduceLeDiff, Nat.reduceBNe, Int.reduceNeg, Int.reduceAdd, Int.reduceSub, Int.reduceMul, Int.reduceLT, Int.reduceLE, Int.reduceGT, Int.reduceGE, Int.reduceEq, Int.reduceNe, Int.reduceToNat, Int.reduceTMod, Int.reduceTDiv, e]
end Go.Proofs.YtjgbdlaecpkmhaaGreatDoor
set_option linter.unusedVariables false
set_option linter.unusedSimpArgs false
set_option maxRecDepth 100000
namespace Go.Proofs.YtjgbdlaecpkmhaaGreatDoor
open Go Nv Rul

/- The program's check of rules. -/
def Sized (l : List Rule) : Prop := ∀ r, r ∈ l → r.name.length ≤ 9223372036854775807 ∧ r.pat.length ≤ 9223372036854775807
def rulesD (l : List Rule) : DV := .list 6 (l.map ruleD)
@[go_sem] theorem one_rulesD (l : List Rule) : (AV.d (rulesD l)).one = true := nrfl rfl
theorem ruleD_cells (r : Rule) : (ruleD r).cells = [.str r.name, .str r.pat, .int .i64 r.lo, .int .i64 r.hi, .int .i64 r.cls, .int .i64 r.wait] := rfl
theorem rule_get (l : List Rule) (j : Nat) (h : j < l.length) : (l.map ruleD).getD j default = ruleD (l.getD j default) := by
  simp [List.getD_eq_getElem?_getD, h]
theorem rule_mem {l : List Rule} {j : Nat} (h : j < l.length) : l.getD j default ∈ l := by
  rw [List.getD_eq_getElem?_getD, List.getElem?_eq_getElem h]; exact List.getElem_mem h
theorem rule_drop {l : List Rule} {j : Nat} (h : j < l.length) : l.drop j = l.getD j default :: l.drop (j + 1) := by
  rw [List.drop_eq_getElem_cons h]; simp [List.getD_eq_getElem?_getD, h]
theorem check6 (l : List Rule) (hs : Sized l) : PCall Tryz.prog 12 [.d (rulesD l)] (.d (.int .i64 (chkR peM l))) := by
  refine fn12.pure noHint (Nat.le_refl _) (by simp only [go_sem, rulesD]) (by simp only [go_sem]) ?_
  by_cases h16 : 16 < l.length
  · have h16' : (16 : Int) < l.length := by omega
    have e : chkR peM l = 5 := by rw [chkR, if_pos h16]
    simp (disch := omega) only [go_sem, reduceIte, reduceDIte, reduceCtorEq, Nat.reduceBEq, Nat.reduceEqDiff, Nat.reduceAdd, Nat.reduceSub, Nat.reduceMul, Nat.reduceLT, Nat.reduceLeDiff, Nat.reduceBNe, Int.reduceNeg, Int.reduceAdd, Int.reduceSub, Int.reduceMul, Int.reduceLT, Int.reduceLE, Int.reduceGT, Int.reduceGE, Int.reduceEq, Int.reduceNe, Int.reduceToNat, Int.reduceTMod, Int.reduceTDiv, rulesD, List.length_map, h16', e]
    done
  have h16' : ¬ (16 : Int) < l.length := by omega
  have e : chkR peM l = chkFrom peM [] l := by rw [chkR, if_neg h16]
  rw [e]
  simp (disch := omega) only [go_sem, reduceIte, reduceDIte, reduceCtorEq, Nat.reduceBEq, Nat.reduceEqDiff, Nat.reduceAdd, Nat.reduceSub, Nat.reduceMul, Nat.reduceLT, Nat.reduceLeDiff, Nat.reduceBNe, Int.reduceNeg, Int.reduceAdd, Int.reduceSub, Int.reduceMul, Int.reduceLT, Int.reduceLE, Int.reduceGT, Int.reduceGE, Int.reduceEq, Int.reduceNe, Int.reduceToNat, Int.reduceTMod, Int.reduceTDiv, rulesD, List.length_map, h16']
  refine wL_ind (fun (j : Nat) fr σ => j ≤ l.length ∧ fr 11 = .d (.list 6 (l.map ruleD)) ∧ fr 12 = .d (.int .i64 l.length) ∧ fr 13 = .d (.int .i64 j) ∧ fr 3 = .map 0 ∧
    ∃ used B, σ = .map (strSet used) :: B ∧ chkFrom peM [] l = chkFrom peM used (l.drop j)) (fun j => l.length - j) ?_ 0 ?_
  · rintro j fr σ ⟨hj, f11, f12, f13, f3, used, B, rfl, hc⟩ ih
    by_cases hlt : j < l.length
    · obtain ⟨r, hr⟩ : ∃ r, r = l.getD j default := ⟨_, rfl⟩
      have hm := hs r (by rw [hr]; exact rule_mem hlt)
      have hg := rule_get l j hlt
      rw [← hr] at hg
      rw [rule_drop hlt, ← hr] at hc
      simp (disch := omega) only [go_sem, reduceIte, reduceDIte, reduceCtorEq, Nat.reduceBEq, Nat.reduceEqDiff, Nat.reduceAdd, Nat.reduceSub, Nat.reduceMul, Nat.reduceLT, Nat.reduceLeDiff, Nat.reduceBNe, Int.reduceNeg, Int.reduceAdd, Int.reduceSub, Int.reduceMul, Int.reduceLT, Int.reduceLE, Int.reduceGT, Int.reduceGE, Int.reduceEq, Int.reduceNe, Int.reduceToNat, Int.reduceTMod, Int.reduceTDiv, f11, f12, f13, f3, List.length_map, hlt, hg, ruleD_cells, List.append_assoc, List.cons_append, List.nil_append, List.length_append, stGet_app, stGet_app0, stSet_app, stSet_app0]
      refine (name11 r.name hm.1).at ?_
      cases hn : nameB r.name
      · have e : chkFrom peM [] l = 6 := by rw [hc, chkFrom, if_pos hn]
        simp (disch := omega) only [go_sem, reduceIte, reduceDIte, reduceCtorEq, Nat.reduceBEq, Nat.reduceEqDiff, Nat.reduceAdd, Nat.reduceSub, Nat.reduceMul, Nat.reduceLT, Nat.reduceLeDiff, Nat.reduceBNe, Int.reduceNeg, Int.reduceAdd, Int.reduceSub, Int.reduceMul, Int.reduceLT, Int.reduceLE, Int.reduceGT, Int.reduceGE, Int.reduceEq, Int.reduceNe, Int.reduceToNat, Int.reduceTMod, Int.reduceTDiv, e]
      · by_cases hu : r.name ∈ used
        · obtain ⟨k, k1, k2⟩ := keyAt_in used 0 hu
          have e : chkFrom peM [] l = 7 := by rw [hc, chkFrom, if_neg (by rw [hn]; simp), if_pos hu]
          simp (disch := omega) only [go_sem, reduceIte, reduceDIte, reduceCtorEq, Nat.reduceBEq, Nat.reduceEqDiff, Nat.reduceAdd, Nat.reduceSub, Nat.reduceMul, Nat.reduceLT, Nat.reduceLeDiff, Nat.reduceBNe, Int.reduceNeg, Int.reduceAdd, Int.reduceSub, Int.reduceMul, Int.reduceLT, Int.reduceLE, Int.reduceGT, Int.reduceGE, Int.reduceEq, Int.reduceNe, Int.reduceToNat, Int.reduceTMod, Int.reduceTDiv, f3, k1, Nat.zero_add, k2, e, List.append_assoc, List.cons_append, List.nil_append, List.length_append, stGet_app, stGet_app0, stSet_app, stSet_app0]
        · have k1 := keyAt_out used 0 hu
          have hck := check12 r hm.2
          simp only [ruleA, ruleC] at hck
          simp (disch := omega) only [go_sem, reduceIte, reduceDIte, reduceCtorEq, Nat.reduceBEq, Nat.reduceEqDiff, Nat.reduceAdd, Nat.reduceSub, Nat.reduceMul, Nat.reduceLT, Nat.reduceLeDiff, Nat.reduceBNe, Int.reduceNeg, Int.reduceAdd, Int.reduceSub, Int.reduceMul, Int.reduceLT, Int.reduceLE, Int.reduceGT, Int.reduceGE, Int.reduceEq, Int.reduceNe, Int.reduceToNat, Int.reduceTMod, Int.reduceTDiv, f3, k1, List.append_assoc, List.cons_append, List.nil_append, List.length_append, stGet_app, stGet_app0, stSet_app, stSet_app0]
          refine hck.at ?_
          by_cases hz : ruleE peM r = 0
          · simp (disch := omega) only [go_sem, reduceIte, reduceDIte, reduceCtorEq, Nat.reduceBEq, Nat.reduceEqDiff, Nat.reduceAdd, Nat.reduceSub, Nat.reduceMul, Nat.reduceLT, Nat.reduceLeDiff, Nat.reduceBNe, Int.reduceNeg, Int.reduceAdd, Int.reduceSub, Int.reduceMul, Int.reduceLT, Int.reduceLE, Int.reduceGT, Int.reduceGE, Int.reduceEq, Int.reduceNe, Int.reduceToNat, Int.reduceTMod, Int.reduceTDiv, hz, f13]
            refine ih (j + 1) _ _ (by omega) ⟨by omega, ?_, ?_, ?_, ?_, used ++ [r.name], ?B1, ?r1, ?_⟩
            case r1 => rw [strSet_snoc]
            · simp (disch := omega) only [go_sem, reduceIte, reduceDIte, reduceCtorEq, Nat.reduceBEq, Nat.reduceEqDiff, Nat.reduceAdd, Nat.reduceSub, Nat.reduceMul, Nat.reduceLT, Nat.reduceLeDiff, Nat.reduceBNe, Int.reduceNeg, Int.reduceAdd, Int.reduceSub, Int.reduceMul, Int.reduceLT, Int.reduceLE, Int.reduceGT, Int.reduceGE, Int.reduceEq, Int.reduceNe, Int.reduceToNat, Int.reduceTMod, Int.reduceTDiv, f11]
            · simp (disch := omega) only [go_sem, reduceIte, reduceDIte, reduceCtorEq, Nat.reduceBEq, Nat.reduceEqDiff, Nat.reduceAdd, Nat.reduceSub, Nat.reduceMul, Nat.reduceLT, Nat.reduceLeDiff, Nat.reduceBNe, Int.reduceNeg, Int.reduceAdd, Int.reduceSub, Int.reduceMul, Int.reduceLT, Int.reduceLE, Int.reduceGT, Int.reduceGE, Int.reduceEq, Int.reduceNe, Int.reduceToNat, Int.reduceTMod, Int.reduceTDiv, f12]
            · simp (disch := omega) only [go_sem, reduceIte, reduceDIte, reduceCtorEq, Nat.reduceBEq, Nat.reduceEqDiff, Nat.reduceAdd, Nat.reduceSub, Nat.reduceMul, Nat.reduceLT, Nat.reduceLeDiff, Nat.reduceBNe, Int.reduceNeg, Int.reduceAdd, Int.reduceSub, Int.reduceMul, Int.reduceLT, Int.reduceLE, Int.reduceGT, Int.reduceGE, Int.reduceEq, Int.reduceNe, Int.reduceToNat, Int.reduceTMod, Int.reduceTDiv, f13]
            · simp (disch := omega) only [go_sem, reduceIte, reduceDIte, reduceCtorEq, Nat.reduceBEq, Nat.reduceEqDiff, Nat.reduceAdd, Nat.reduceSub, Nat.reduceMul, Nat.reduceLT, Nat.reduceLeDiff, Nat.reduceBNe, Int.reduceNeg, Int.reduceAdd, Int.reduceSub, Int.reduceMul, Int.reduceLT, Int.reduceLE, Int.reduceGT, Int.reduceGE, Int.reduceEq, Int.reduceNe, Int.reduceToNat, Int.reduceTMod, Int.reduceTDiv, f3]
            · rw [hc, chkFrom, if_neg (by rw [hn]; simp), if_neg hu, if_pos hz]
          · have e : chkFrom peM [] l = ruleE peM r := by rw [hc, chkFrom, if_neg (by rw [hn]; simp), if_neg hu, if_neg hz]
            simp (disch := omega) only [go_sem, reduceIte, reduceDIte, reduceCtorEq, Nat.reduceBEq, Nat.reduceEqDiff, Nat.reduceAdd, Nat.reduceSub, Nat.reduceMul, Nat.reduceLT, Nat.reduceLeDiff, Nat.reduceBNe, Int.reduceNeg, Int.reduceAdd, Int.reduceSub, Int.reduceMul, Int.reduceLT, Int.reduceLE, Int.reduceGT, Int.reduceGE, Int.reduceEq, Int.reduceNe, Int.reduceToNat, Int.reduceTMod, Int.reduceTDiv, hz, e]
    · have e : chkFrom peM [] l = 0 := by rw [hc, List.drop_eq_nil_of_le (by omega)]; rfl
      simp (disch := omega) only [go_sem, reduceIte, reduceDIte, reduceCtorEq, Nat.reduceBEq, Nat.reduceEqDiff, Nat.reduceAdd, Nat.reduceSub, Nat.reduceMul, Nat.reduceLT, Nat.reduceLeDiff, Nat.reduceBNe, Int.reduceNeg, Int.reduceAdd, Int.reduceSub, Int.reduceMul, Int.reduceLT, Int.reduceLE, Int.reduceGT, Int.reduceGE, Int.reduceEq, Int.reduceNe, Int.reduceToNat, Int.reduceTMod, Int.reduceTDiv, f12, f13, hlt, e]
  · refine ⟨by omega, ?_, ?_, ?_, ?_, [], [], rfl, rfl⟩ <;> simp (disch := omega) only [go_sem, reduceIte, reduceDIte, reduceCtorEq, Nat.reduceBEq, Nat.reduceEqDiff, Nat.reduceAdd, Nat.reduceSub, Nat.reduceMul, Nat.reduceLT, Nat.reduceLeDiff, Nat.reduceBNe, Int.reduceNeg, Int.reduceAdd, Int.reduceSub, Int.reduceMul, Int.reduceLT, Int.reduceLE, Int.reduceGT, Int.reduceGE, Int.reduceEq, Int.reduceNe, Int.reduceToNat, Int.reduceTMod, Int.reduceTDiv]
end Go.Proofs.YtjgbdlaecpkmhaaGreatDoor
