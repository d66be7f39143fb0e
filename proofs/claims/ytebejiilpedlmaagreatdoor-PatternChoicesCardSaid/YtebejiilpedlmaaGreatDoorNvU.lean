/- A function that defers one closure; a closure that recovers. -/
import Derived.Test.YtebejiilpedlmaaGreatDoorNvS
import Derived.Recover
set_option linter.unusedVariables false
set_option linter.unusedSimpArgs false
namespace Nv
open Go

/-- A region that makes a closure and defers it. -/
def deferAt : PC → Option (Nat × FuncId × List Operand × List Operand)
  | .region [⟨some d, .makeFunc (.func g) first cap, _, none⟩, ⟨none, .defer ⟨.value (.tmp d'), args, _⟩, _, none⟩] => bif Nat.beq d d' && args.isEmpty then some (d, g, first.toList, cap.toList) else none
  | _ => none

/-- The road of a function's code that may defer a closure once; Q1: its ends before, Q2: behind. -/
def WD (P : Program) (h : Nat → Hint) : PC → Post → (FuncId → List AV → Post) → FR → ST → Prop
  | .seq a b, Q1, Q2, fr, σ => match deferAt a with
    | some (d, g, first, cap) => W P h b (Q2 g (first.map (aeval fr) ++ cap.map (aeval fr))) (put fr (some d) (.func (.func g) (first.map (aeval fr)) (cap.map (aeval fr)))) σ
    | none => W P h a (thenA (fun fr σ => WD P h b Q1 Q2 fr σ) Q1) fr σ
  | c, Q1, _, fr, σ => W P h c Q1 fr σ

def dmode (v : Value) : Option Bool → FrameMode
  | none => .returning
  | some b => .panicking [{ v, recovered := b }]

/-- A deferred call of a closure: in a function that returns (pv = none), or that panics with a value. -/
def DCall (P : Program) (g : FuncId) (args : List AV) (σ : ST) (pv : Option AV) (K : Bool → ST → Prop) : Prop :=
  ∀ ρ I w vs, RS P ρ I w σ → VL ρ σ I w args vs → ∀ v : Value, (∀ x, pv = some x → V ρ σ I w x v) →
    CallsD P g vs (dmode v (pv.map fun _ => false)) w fun e u' w' => ∃ ρ' I' σ' b, Step ρ I w σ ρ' I' w' σ' ∧ RS P ρ' I' w' σ' ∧ e = .returned (.tuple #[]) ∧ u' = dmode v (pv.map fun _ => b) ∧ K b σ'

/-- What is asked at the end of a function that has deferred a closure. -/
def endD (P : Program) (rs : List ResultVar) (K : Out → ST → Prop) (g : FuncId) (args : List AV) : Post
  | .normal, fr, σ => plainFn P g = true ∧ DCall P g args σ none fun _ σ' => outW P fr σ' rs fun v => K (.ret v) σ'
  | .ret, fr, σ => plainFn P g = true ∧ DCall P g args σ none fun _ σ' => outW P fr σ' rs fun v => K (.ret v) σ'
  | .panic x, fr, σ => plainFn P g = true ∧ DCall P g args σ (some x) fun b σ' => bif b then outW P fr σ' rs fun v => K (.ret v) σ' else K (.panic x) σ'
  | .exit _, _, _ => False

section
variable {P : Program} {h : Nat → Hint} {N : Nat}

/-- Where a run stands that may have deferred. -/
def liftD (P : Program) (E : Env) (N : Nat) (Q1 : Post) (Q2 : FuncId → List AV → Post) : Exit → Act → World → Prop := fun e a w =>
  lift P E N Q1 e a w ∨ ∃ (ρ : RHO) (I : Nat → Prop) (w1 : World) (σ : ST) (g : FuncId) (args : List AV) (cap dargs : Array Value), Step E.ρ E.I E.w E.σ ρ I w1 σ ∧ RS P ρ I w1 σ ∧ VL ρ σ I w1 args (dargs ++ cap) ∧
    lift P ⟨ρ, I, w1, σ, [{ target := .fn (.func g) cap, args := dargs }]⟩ N (Q2 g args) e a w

theorem deferAt_some {p : PC} {d : Nat} {g : FuncId} {first cap : List Operand} (h : deferAt p = some (d, g, first, cap)) :
    ∃ f c t0 t1 ts, p = .region [⟨some d, .makeFunc (.func g) f c, t0, none⟩, ⟨none, .defer ⟨.value (.tmp d), #[], ts⟩, t1, none⟩] ∧ first = f.toList ∧ cap = c.toList := by
  unfold deferAt at h
  split at h
  · rename_i d0 g0 f c t0 d1 args ts t1
    cases hb : (Nat.beq d0 d1 && args.isEmpty)
    · rw [hb] at h; cases h
    · rw [hb] at h
      simp only [cond_true, Option.some.injEq, Prod.mk.injEq] at h
      obtain ⟨rfl, rfl, rfl, rfl⟩ := h
      simp only [Bool.and_eq_true] at hb
      obtain rfl := Nat.eq_of_beq_eq_true hb.1
      have : args = #[] := by simpa using hb.2
      subst this
      exact ⟨f, c, t0, t1, ts, rfl, rfl, rfl⟩
  · cases h

theorem VL.append {ρ : RHO} {σ : ST} {I : Nat → Prop} {w : World} {avl bs : List AV} {us vs : Array Value} (h1 : VL ρ σ I w avl us) (h2 : VL ρ σ I w bs vs) : VL ρ σ I w (avl ++ bs) (us ++ vs) := by
  refine ⟨by simp [h1.1, h2.1], fun j c hj => ?_⟩
  rcases Nat.lt_or_ge j avl.length with hlt | hge
  · rw [List.getElem?_append_left hlt] at hj
    have := h1.2 j c hj
    rw [Array.getD_eq_getD_getElem?, Array.getElem?_append_left (by rw [← h1.1]; exact hlt), ← Array.getD_eq_getD_getElem?]
    exact this
  · rw [List.getElem?_append_right hge] at hj
    have := h2.2 _ c hj
    rw [Array.getD_eq_getD_getElem?, Array.getElem?_append_right (by rw [← h1.1]; exact hge), ← h1.1, ← Array.getD_eq_getD_getElem?]
    exact this

theorem two_list {α : Type} {l : List α} (h : l.length = 2) : ∃ a b, l = [a, b] := by
  match l, h with
  | [a, b], _ => exact ⟨a, b, rfl⟩

theorem prep_region {x : Code} {l : List POp} (h : prep x = .region l) : ∃ id ops, x = .region id ops false ∧ ops.toList.map (prepOp ops) = l := by
  unfold prep at h
  split at h <;> first | (simp only [PC.region.injEq] at h; exact ⟨_, _, rfl, h⟩) | (simp only [reduceCtorEq] at h)

theorem WD_sound (hmx : P.follows .mixedOrders = true) {E : Env} (hE : E.D = []) {Q1 : Post} {Q2 : FuncId → List AV → Post} : ∀ (c : Code), wfC N c = true → ∀ (fr : FR) (σ : ST) (ρ : RHO) (I : Nat → Prop) (a : Act) (w : World), At P E N fr σ ρ I a w →
    WD P h (prep c) Q1 Q2 fr σ → c.wp P (liftD P E N Q1 Q2) a w := by
  intro c
  have plain : ∀ (c : Code), wfC N c = true → ∀ (fr : FR) (σ : ST) (ρ : RHO) (I : Nat → Prop) (a : Act) (w : World), At P E N fr σ ρ I a w → W P h (prep c) Q1 fr σ → c.wp P (liftD P E N Q1 Q2) a w :=
    fun c hwf fr σ ρ I a w hat hh => wp_mono (W_sound (Q := Q1) hmx c _ hwf fr σ ρ I a w hat hh) fun e a' w' hl => .inl hl
  induction c with
  | seq x y ihx ihy =>
    intro hwf fr σ ρ I a w hat hh
    have hwf' := hwf
    simp only [wfC, Bool.and_eq_true] at hwf
    simp only [prep, WD] at hh
    split at hh
    · rename_i d g first cap hd
      obtain ⟨f, c, t0, t1, ts, hp, rfl, rfl⟩ := deferAt_some hd
      obtain ⟨id, ops, rfl, hp2⟩ := prep_region hp
      clear hp
      · obtain ⟨o0, o1, hops⟩ : ∃ o0 o1, ops.toList = [o0, o1] := by
          refine two_list ?_
          have hl := congrArg List.length hp2
          rw [List.length_map] at hl
          exact hl
        rw [hops] at hp2
        simp only [List.map_cons, List.map_nil, List.cons.injEq, and_true] at hp2
        obtain ⟨h0, h1⟩ := hp2
        simp only [prepOp, POp.mk.injEq] at h0 h1
        obtain ⟨d0, op0, _, g0⟩ := h0
        obtain ⟨d1, op1, _, g1⟩ := h1
        have gn0 : o0.guard = none := by cases hg : o0.guard with | none => rfl | some gb => rw [hg] at g0; simp at g0
        have gn1 : o1.guard = none := by cases hg : o1.guard with | none => rfl | some gb => rw [hg] at g1; simp at g1
        have hwf0 : wfOp N ops o0 = true := by
          have := hwf.1
          simp only [wfC, hops, List.all_cons, Bool.and_eq_true] at this
          exact this.1
        simp only [wfOp, Bool.and_eq_true] at hwf0
        have hdl : wfDst a.tmps.size o0.dst = true := by rw [hat.size]; exact hwf0.1
        rw [d0] at hdl
        let vclo : Value := .func (.func g) (f.map a.eval) (c.map a.eval)
        let dfr : Deferred := { target := .fn (.func g) (c.map a.eval), args := f.map a.eval ++ #[] }
        have hvf := hat.vf.vl f
        have hvc := hat.vf.vl c
        have hvclo : V ρ σ I w (.func (.func g) (f.toList.map (aeval fr)) (c.toList.map (aeval fr))) vclo := .func hvf.1 hvf.2 hvc.1 hvc.2
        have r0 : (execOp a.eval o0).run P w = .ok (.value vclo) w := by
          simp only [execOp, op0, Instr.makeFunc]; rfl
        have hget : (a.put (some d) vclo).eval (.tmp d) = vclo := by
          have hlt : d < a.tmps.size := by simpa [wfDst] using hdl
          show (a.put (some d) vclo).tmps.getD d undef = vclo
          simp only [Act.put]
          rw [getD_set_arr _ _ _ _ hlt, if_pos rfl]
        have r1 : (execOp (a.put (some d) vclo).eval o1).run P w = .ok (.defer dfr) w := by
          have hr : (execOp (a.put (some d) vclo).eval o1) = (do pure (.defer (← resolve (a.put (some d) vclo).eval ⟨.value (.tmp d), #[], ts⟩ o1.type))) := by
            simp only [execOp, op1]
          rw [hr]
          simp [resolve, hget, Deferred.ofValue, vclo, dfr]
        refine wp_seq (wp_region_list ?_)
        rw [hops]
        have w0 : Region.wanted o0 (yielded ops a.tmps) = true := by simp [Region.wanted, gn0]
        unfold wpList
        rw [if_pos w0]
        refine .inl ?_
        unfold Oper.wp
        rw [r0, Oper.upon_value, d0]
        have w1 : Region.wanted o1 (yielded ops (a.put (some d) vclo).tmps) = true := by simp [Region.wanted, gn1]
        unfold wpList
        rw [if_pos w1]
        refine .inl ?_
        unfold Oper.wp
        rw [r1, Oper.upon_defer, d1]
        unfold wpList
        show y.wp P (liftD P E N Q1 Q2) _ w
        have hat' : At P ⟨ρ, I, w, σ, [dfr]⟩ N (put fr (some d) (.func (.func g) (f.toList.map (aeval fr)) (c.toList.map (aeval fr)))) σ ρ I (({ a.put (some d) vclo with defers := dfr :: (a.put (some d) vclo).defers } : Act).put none undef) w := by
          refine ⟨Step.refl _ _ _ _, hat.rs, hat.vf.put hvclo hdl, ?_, ?_⟩
          · show (a.put (some d) vclo).tmps.size = N
            rw [put_size]; exact hat.size
          · show dfr :: (a.put (some d) vclo).defers = [dfr]
            rw [put_defers, hat.defers, hE]
        refine wp_mono (W_sound (E := ⟨ρ, I, w, σ, [dfr]⟩) (Q := Q2 g (f.toList.map (aeval fr) ++ c.toList.map (aeval fr))) hmx y _ hwf.2 _ σ ρ I _ w hat' hh) fun e a' w' hl => .inr ?_
        refine ⟨ρ, I, w, σ, g, _, c.map a.eval, f.map a.eval ++ #[], hat.step, hat.rs, ?_, hl⟩
        rw [Array.append_empty]
        exact VL.append hvf hvc
    · refine wp_seq (wp_mono (W_sound (Q := Q1) hmx x _ hwf.1 fr σ ρ I a w hat hh) ?_)
      rintro e a' w' ⟨ρ', I', fr', σ', ae, hat', hex, hq⟩
      cases e <;> cases ae <;> simp only [exitIs] at hex
      · exact ihy hwf.2 fr' σ' ρ' I' a' w' hat' hq
      · exact .inl ⟨ρ', I', fr', σ', .exit _, hat', hex, hq⟩
      · exact .inl ⟨ρ', I', fr', σ', .ret, hat', trivial, hq⟩
      · exact .inl ⟨ρ', I', fr', σ', .panic _, hat', hex, hq⟩
  | region id ops dr => intro hwf fr σ ρ I a w hat hh; exact plain _ hwf fr σ ρ I a w hat (by cases dr <;> exact hh)
  | _ => intro hwf fr σ ρ I a w hat hh; exact plain _ hwf fr σ ρ I a w hat hh

theorem VL.step {ρ ρ' : RHO} {σ σ' : ST} {I I' : Nat → Prop} {w w' : World} {avl : List AV} {vs : Array Value} (hr : RS P ρ I w σ) (hs : Step ρ I w σ ρ' I' w' σ') (h : VL ρ σ I w avl vs) : VL ρ' σ' I' w' avl vs :=
  ⟨h.1, fun j c hj => hs.v hr (h.2 j c hj)⟩

theorem settle_rec (v : Value) : settle (.panicking [{ v, recovered := true }]) = .returning := rfl
theorem settle_not (v : Value) : settle (.panicking [{ v, recovered := false }]) = .panicking [{ v, recovered := false }] := rfl

theorem call_of_WD (hmx : P.follows .mixedOrders = true) {f : FuncId} {fn : Func} {c : Code} {args : List AV} {σ : ST} {K : Out → ST → Prop} (hint : Nat → Hint) (hf : P.funcs[f]? = some fn) (hb : fn.body = some c) (hwf : wfC fn.ntmps c = true) (hn : args.length ≤ fn.ntmps)
    (hh : WD P hint (prep c) (endA P fn.results.toList K) (endD P fn.results.toList K) (initFr args) σ) : ACall P f args σ K := by
  intro ρ I w vs hr hv
  refine calls_of_wp_defers hf hb ?_
  let a0 : Act := { tmps := vs ++ Array.replicate (fn.ntmps - vs.size) undef, defers := [] }
  have hat : At P ⟨ρ, I, w, σ, []⟩ fn.ntmps (initFr args) σ ρ I a0 w := by
    refine ⟨Step.refl _ _ _ _, hr, fun i => ?_, ?_, rfl⟩
    · rcases Nat.lt_or_ge i args.length with hlt | hge
      · have := hv.2 i _ (List.getElem?_eq_getElem hlt)
        have e1 : initFr args i = args[i] := by simp [initFr, List.getD_eq_getElem?_getD, hlt]
        have e2 : a0.tmps.getD i undef = vs.getD i undef := by
          have : i < vs.size := by rw [← hv.1]; exact hlt
          simp only [a0, Array.getD_eq_getD_getElem?]
          rw [Array.getElem?_append_left this]
        rw [e1, e2]; exact this
      · have e1 : initFr args i = .any := by simp [initFr, List.getD_eq_getElem?_getD, List.getElem?_eq_none hge]
        rw [e1]; exact .any _
    · have := hv.1
      simp only [a0, Array.size_append, Array.size_replicate]; omega
  refine wp_mono (WD_sound hmx (E := ⟨ρ, I, w, σ, []⟩) rfl c hwf _ σ ρ I a0 w hat hh) ?_
  let R : Ending → World → Prop := fun e w' => ∃ ρ' I' σ' oc, Step ρ I w σ ρ' I' w' σ' ∧ RS P ρ' I' w' σ' ∧
    (match e, oc with
      | .returned v, .ret a => V ρ' σ' I' w' a v
      | .panicked ch, .panic a => ∃ v, ch = [{ v, recovered := false }] ∧ V ρ' σ' I' w' a v
      | _, _ => False) ∧ K oc σ'
  have res : ∀ {E : Env} {ρ' : RHO} {I' : Nat → Prop} {fr' : FR} {σ' : ST} {a' : Act} {w' : World}, Step ρ I w σ ρ' I' w' σ' → RS P ρ' I' w' σ' → VF ρ' σ' I' w' fr' a' → outW P fr' σ' fn.results.toList (fun v => K (.ret v) σ') →
      ∃ v, (results fn a'.tmps).run P w' = .ok v w' ∧ R (.returned v) w' := by
    intro E ρ' I' fr' σ' a' w' hs hr' hvf ho
    obtain ⟨v, u, h1, h2, hk⟩ := outW_sound (P := P) hr' hvf ho
    exact ⟨u, h1, ρ', I', σ', .ret v, hs, hr', h2, hk⟩
  rintro e a' w' (⟨ρ', I', fr', σ', ae, hat', hex, hq⟩ | ⟨ρ1, I1, w1, σ1, g, gargs, cap, dargs, hs1, hr1, hvl, ρ', I', fr', σ', ae, hat', hex, hq⟩)
  · have hd : a'.defers = [] := hat'.defers
    cases e <;> cases ae <;> simp only [exitIs] at hex
    · show Leaves P fn a'.tmps R a'.defers .returning w'
      rw [hd]
      exact res (E := ⟨ρ, I, w, σ, []⟩) hat'.step hat'.rs hat'.vf hq
    · exact hq.elim
    · show Leaves P fn a'.tmps R a'.defers .returning w'
      rw [hd]
      exact res (E := ⟨ρ, I, w, σ, []⟩) hat'.step hat'.rs hat'.vf hq
    · rename_i ch x
      obtain ⟨v, rfl, hv'⟩ := hex
      show Leaves P fn a'.tmps R a'.defers (.panicking _) w'
      rw [hd]
      exact ⟨ρ', I', σ', .panic x, hat'.step, hat'.rs, ⟨v, rfl, hv'⟩, hq⟩
  · have hd : a'.defers = [{ target := .fn (.func g) cap, args := dargs }] := hat'.defers
    have hs2 : Step ρ I w σ ρ' I' w' σ' := hs1.trans hat'.step
    have hvl' : VL ρ' σ' I' w' gargs (dargs ++ cap) := hvl.step hr1 hat'.step
    have ret : plainFn P g = true ∧ DCall P g gargs σ' none (fun _ σ'' => outW P fr' σ'' fn.results.toList fun v => K (.ret v) σ'') → Leaves P fn a'.tmps R a'.defers .returning w' := by
      rintro ⟨hpl, hdc⟩
      rw [hd]
      refine leaves_cons (f := g) (args := dargs ++ cap) (by simp) (by simp only [invoke]; exact run_callFunc hpl) ?_
      refine (hdc ρ' I' w' _ hat'.rs hvl' undef (fun x hx => by cases hx)).mono ?_
      rintro e u' w'' ⟨ρ2, I2, σ2, b, k1, k2, rfl, rfl, k3⟩
      exact res (E := ⟨ρ, I, w, σ, []⟩) (hs2.trans k1) k2 (hat'.vf.step hat'.rs k1) k3
    cases e <;> cases ae <;> simp only [exitIs] at hex
    · exact ret hq
    · exact hq.elim
    · exact ret hq
    · rename_i ch x
      obtain ⟨v, rfl, hv'⟩ := hex
      obtain ⟨hpl, hdc⟩ := hq
      show Leaves P fn a'.tmps R a'.defers (.panicking _) w'
      rw [hd]
      refine leaves_cons (f := g) (args := dargs ++ cap) (by simp) (by simp only [invoke]; exact run_callFunc hpl) ?_
      refine (hdc ρ' I' w' _ hat'.rs hvl' v (fun y hy => by cases hy; exact hv')).mono ?_
      rintro e u' w'' ⟨ρ2, I2, σ2, b, k1, k2, rfl, rfl, k3⟩
      cases b
      · exact ⟨ρ2, I2, σ2, .panic x, hs2.trans k1, k2, ⟨v, rfl, k1.v hat'.rs hv'⟩, k3⟩
      · exact res (E := ⟨ρ, I, w, σ, []⟩) (hs2.trans k1) k2 (hat'.vf.step hat'.rs k1) k3

/-- A closure's code that begins with recover. -/
def recAt : PC → Option (Nat × Nat)
  | .region [⟨some d1, .call ⟨.builtin .recover, args, _⟩, _, none⟩, ⟨some d2, .assign (.tmp d), _, none⟩] => bif Nat.beq d d1 && args.isEmpty then some (d1, d2) else none
  | _ => none

theorem recAt_some {p : PC} {d1 d2 : Nat} (h : recAt p = some (d1, d2)) :
    ∃ t0 t1 ts, p = .region [⟨some d1, .call ⟨.builtin .recover, #[], ts⟩, t0, none⟩, ⟨some d2, .assign (.tmp d1), t1, none⟩] := by
  unfold recAt at h
  split at h
  · rename_i e1 args ts t0 e2 d t1
    cases hb : (Nat.beq d e1 && args.isEmpty)
    · rw [hb] at h; cases h
    · rw [hb] at h
      simp only [cond_true, Option.some.injEq, Prod.mk.injEq] at h
      obtain ⟨rfl, rfl⟩ := h
      simp only [Bool.and_eq_true] at hb
      obtain rfl := Nat.eq_of_beq_eq_true hb.1
      have : args = #[] := by simpa using hb.2
      subst this
      exact ⟨t0, t1, ts, rfl⟩
  · cases h

def recV : Option AV → AV
  | none => .d .niliface
  | some x => x

/-- The ends of a deferred closure. -/
def endR (K : ST → Prop) : Post
  | .normal, _, σ => K σ
  | .ret, _, σ => K σ
  | _, _, _ => False

theorem DCall_of (hmx : P.follows .mixedOrders = true) {g : FuncId} {fn : Func} {x y : Code} {args : List AV} {σ : ST} {pv : Option AV} {K : Bool → ST → Prop} {d1 d2 : Nat} (hint : Nat → Hint)
    (hf : P.funcs[g]? = some fn) (hb : fn.body = some (.seq x y)) (hwf : wfC fn.ntmps (.seq x y) = true) (hn : args.length ≤ fn.ntmps) (hres : fn.results = #[]) (hrec : recAt (prep x) = some (d1, d2))
    (hh : W P hint (prep y) (endR (K pv.isSome)) (put (put (initFr args) (some d1) (recV pv)) (some d2) (recV pv)) σ) : DCall P g args σ pv K := by
  intro ρ I w vs hr hv v hpv
  obtain ⟨t0, t1, ts, hp⟩ := recAt_some hrec
  obtain ⟨id, ops, rfl, hp2⟩ := prep_region hp
  clear hp hrec
  obtain ⟨o0, o1, hops⟩ : ∃ o0 o1, ops.toList = [o0, o1] := by
    refine two_list ?_
    have hl := congrArg List.length hp2
    rw [List.length_map] at hl
    exact hl
  rw [hops] at hp2
  simp only [List.map_cons, List.map_nil, List.cons.injEq, and_true] at hp2
  obtain ⟨h0, h1⟩ := hp2
  simp only [prepOp, POp.mk.injEq] at h0 h1
  obtain ⟨e0, op0, _, g0⟩ := h0
  obtain ⟨e1, op1, _, g1⟩ := h1
  have gn0 : o0.guard = none := by cases hg : o0.guard with | none => rfl | some gb => rw [hg] at g0; simp at g0
  have gn1 : o1.guard = none := by cases hg : o1.guard with | none => rfl | some gb => rw [hg] at g1; simp at g1
  simp only [wfC, hops, List.all_cons, List.all_nil, Bool.and_true, Bool.and_eq_true, wfOp] at hwf
  obtain ⟨⟨⟨hw0, _⟩, ⟨hw1, _⟩⟩, hwy⟩ := hwf
  let a0 : Act := { tmps := vs ++ Array.replicate (fn.ntmps - vs.size) undef, defers := [] }
  have hat : At P ⟨ρ, I, w, σ, []⟩ fn.ntmps (initFr args) σ ρ I a0 w := by
    refine ⟨Step.refl _ _ _ _, hr, fun i => ?_, ?_, rfl⟩
    · rcases Nat.lt_or_ge i args.length with hlt | hge
      · have := hv.2 i _ (List.getElem?_eq_getElem hlt)
        have e1 : initFr args i = args[i] := by simp [initFr, List.getD_eq_getElem?_getD, hlt]
        have e2 : a0.tmps.getD i undef = vs.getD i undef := by
          have : i < vs.size := by rw [← hv.1]; exact hlt
          simp only [a0, Array.getD_eq_getD_getElem?]
          rw [Array.getElem?_append_left this]
        rw [e1, e2]; exact this
      · have e1 : initFr args i = .any := by simp [initFr, List.getD_eq_getElem?_getD, List.getElem?_eq_none hge]
        rw [e1]; exact .any _
    · have := hv.1
      simp only [a0, Array.size_append, Array.size_replicate]; omega
  refine callsD_of_wpS hf hb fun c₀ cs hmode => ?_
  refine wpS_seq (wpS_region ?_)
  have hopsA : ops = #[o0, o1] := by rw [← Array.toArray_toList (xs := ops), hops]
  have hsz : ops.size = 2 := by rw [hopsA]; rfl
  have q0 : ops[0]? = some o0 := by rw [hopsA]; rfl
  have q1 : ops[1]? = some o1 := by rw [hopsA]; rfl
  have r0 : ∀ (a : Act) (w : World), (execOp a.eval o0).run P w = .ok .recover w := by
    intro a w
    simp [execOp, op0, resolve, invoke, builtin]
  -- from the value that recover hands back on
  have go : ∀ (u : Value) (cs' : List Frame) (b : Bool), V ρ σ I w (recV pv) u → cs' = { c₀ with mode := dmode v (pv.map fun _ => b) } :: cs → b = pv.isSome →
      wpOpsS P ops (Exit.thenS (y.wpS P (bodyPostS P fn c₀ cs fun e u' w' => ∃ ρ' I' σ' b, Step ρ I w σ ρ' I' w' σ' ∧ RS P ρ' I' w' σ' ∧ e = .returned (.tuple #[]) ∧ u' = dmode v (pv.map fun _ => b) ∧ K b σ'))
        (bodyPostS P fn c₀ cs fun e u' w' => ∃ ρ' I' σ' b, Step ρ I w σ ρ' I' w' σ' ∧ RS P ρ' I' w' σ' ∧ e = .returned (.tuple #[]) ∧ u' = dmode v (pv.map fun _ => b) ∧ K b σ')) [1] (a0.put o0.dst u) cs' w := by
    intro u cs' b hu hcs hbb
    have hdl : wfDst a0.tmps.size (some d1) = true := by rw [hat.size, ← e0]; exact hw0
    have hget : (a0.put o0.dst u).eval (.tmp d1) = u := by
      have hlt : d1 < a0.tmps.size := by simpa [wfDst] using hdl
      show (a0.put o0.dst u).tmps.getD d1 undef = u
      rw [e0]
      simp only [Act.put]
      rw [getD_set_arr _ _ _ _ hlt, if_pos rfl]
    have r1 : (execOp (a0.put o0.dst u).eval o1).run P w = .ok (.value u) w := by
      simp only [execOp, op1, hget, Sem.run_pure]
    have w1 : Region.wanted o1 (yielded ops (a0.put o0.dst u).tmps) = true := by simp [Region.wanted, gn1]
    unfold wpOpsS
    simp only [q1, w1, if_true, r1, Oper.upon_value]
    unfold wpOpsS
    show y.wpS P _ ((a0.put o0.dst u).put o1.dst u) cs' w
    have hat2 : At P ⟨ρ, I, w, σ, []⟩ fn.ntmps (put (put (initFr args) (some d1) (recV pv)) (some d2) (recV pv)) σ ρ I ((a0.put o0.dst u).put o1.dst u) w := by
      rw [e0, e1]
      have hs1 : (a0.put (some d1) u).tmps.size = fn.ntmps := by rw [put_size]; exact hat.size
      refine ⟨hat.step, hat.rs, (hat.vf.put hu hdl).put hu (by rw [hs1, ← e1]; exact hw1), ?_, ?_⟩
      · rw [put_size, hs1]
      · rw [put_defers, put_defers]
    refine wpS_of_wp (wp_mono (W_sound (E := ⟨ρ, I, w, σ, []⟩) (Q := endR (K pv.isSome)) hmx y _ hwy _ σ ρ I _ w hat2 hh) ?_)
    rintro e a' w' ⟨ρ', I', fr', σ', ae, hat', hex, hq⟩
    have fin : K pv.isSome σ' → a'.defers = [] ∧ ∃ u', cs' = { c₀ with mode := u' } :: cs ∧ ∃ z, (results fn a'.tmps).run P w' = .ok z w' ∧
        ∃ ρ' I' σ' b, Step ρ I w σ ρ' I' w' σ' ∧ RS P ρ' I' w' σ' ∧ Ending.returned z = .returned (.tuple #[]) ∧ u' = dmode v (pv.map fun _ => b) ∧ K b σ' := by
      intro hk
      refine ⟨hat'.defers, _, hcs, .tuple #[], results_none hres a'.tmps P w', ρ', I', σ', b, hat'.step, hat'.rs, rfl, rfl, by rw [hbb]; exact hk⟩
    cases e <;> cases ae <;> simp only [exitIs] at hex
    · exact fin hq
    · exact hq.elim
    · exact fin hq
    · exact hq.elim
  rw [hsz]
  show wpOpsS P ops _ [0, 1] a0 (c₀ :: cs) w
  unfold wpOpsS
  have w0 : Region.wanted o0 (yielded ops a0.tmps) = true := by simp [Region.wanted, gn0]
  simp only [q0, w0, if_true, r0]
  cases pv with
  | none =>
    have hm : recoverD (c₀ :: cs) = none := by
      simp only [recoverD, hmode, dmode, Option.map_none]
    rw [hm]
    exact go .nilIface (c₀ :: cs) false (.d .niliface) (by simp only [Option.map_none, dmode]; rw [← show c₀.mode = .returning from hmode]) rfl
  | some x =>
    have hm : recoverD (c₀ :: cs) = some (v, { c₀ with mode := .panicking [{ v, recovered := true }] } :: cs) := by
      simp only [recoverD, hmode, dmode, Option.map_some]
    rw [hm]
    exact go v _ true (hpv x rfl) rfl rfl
end
end Nv
