/- Soundness of the abstract layer: what it says of a function's code holds of every run. -/
import Derived.Laws.ResultCell
import Derived.Test.YtebejiilpedlmaaGreatDoorNvL
import Derived.Laws.Externs
set_option linter.unusedVariables false
set_option linter.unusedSimpArgs false
namespace Nv
open Go

def wfDst (N : Nat) : Option Nat → Bool
  | some d => Nat.blt d N
  | none => true
def wfGuard (N : Nat) (ops : Array Oper) : Option (Nat × Bool) → Bool
  | some (g, _) => match (ops[g]?).bind (·.dst) with
    | some d => Nat.blt d N
    | none => false
  | none => true
def wfOp (N : Nat) (ops : Array Oper) (o : Oper) : Bool := wfDst N o.dst && wfGuard N ops o.guard
def wfC (N : Nat) : Code → Bool
  | .region _ ops false => ops.toList.all fun o => wfOp N ops o
  | .region _ ops true => (ops.toList.all fun o => wfOp N ops o) && drawOK ops
  | .seq a b => wfC N a && wfC N b
  | .cond _ x y => wfC N x && wfC N y
  | .block _ b => wfC N b
  | .loop b => wfC N b
  | _ => true

/-- How a run began. -/
structure Env where
  ρ : RHO
  I : Nat → Prop
  w : World
  σ : ST
  D : List Deferred := []

/-- Where a run stands. -/
structure At (P : Program) (E : Env) (N : Nat) (fr : FR) (σ : ST) (ρ : RHO) (I : Nat → Prop) (a : Act) (w : World) : Prop where
  step : Step E.ρ E.I E.w E.σ ρ I w σ
  rs : RS P ρ I w σ
  vf : VF ρ σ I w fr a
  size : a.tmps.size = N
  defers : a.defers = E.D

def exitIs (ρ : RHO) (σ : ST) (I : Nat → Prop) (w : World) : Exit → AExit → Prop
  | .normal, .normal => True
  | .exit i, .exit j => i = j
  | .ret, .ret => True
  | .panic ch, .panic x => ∃ v, ch = [{ v, recovered := false }] ∧ V ρ σ I w x v
  | _, _ => False

def lift (P : Program) (E : Env) (N : Nat) (Q : Post) : Exit → Act → World → Prop := fun e a w =>
  ∃ ρ I fr σ ae, At P E N fr σ ρ I a w ∧ exitIs ρ σ I w e ae ∧ Q ae fr σ

section
variable {P : Program} {h : Nat → Hint} {E : Env} {N : Nat}

theorem VF.put {ρ : RHO} {σ : ST} {I : Nat → Prop} {w : World} {fr : FR} {a : Act} {x : AV} {v : Value} {d : Option Nat} (hf : VF ρ σ I w fr a) (hv : V ρ σ I w x v) (hd : wfDst a.tmps.size d = true) :
    VF ρ σ I w (Nv.put fr d x) (a.put d v) := by
  cases d with
  | none => exact hf
  | some d =>
    intro i
    simp only [Nv.put, Act.put]
    have hlt : d < a.tmps.size := by simpa [wfDst] using hd
    by_cases hi : i = d
    · subst hi
      have : Nat.beq i i = true := by simp
      rw [this, getD_set_arr _ _ _ _ hlt, if_pos rfl]
      exact hv
    · have : Nat.beq i d = false := by cases hb : Nat.beq i d; rfl; exact absurd (Nat.eq_of_beq_eq_true hb) hi
      rw [this, getD_set_arr _ _ _ _ hlt, if_neg hi]
      exact hf i

theorem VF.step {ρ ρ' : RHO} {σ σ' : ST} {I I' : Nat → Prop} {w w' : World} {fr : FR} {a : Act} (hr : RS P ρ I w σ) (hs : Step ρ I w σ ρ' I' w' σ') (hf : VF ρ σ I w fr a) : VF ρ' σ' I' w' fr a :=
  fun i => hs.v hr (hf i)

theorem put_size (a : Act) (d : Option Nat) (v : Value) : (a.put d v).tmps.size = a.tmps.size := by cases d <;> simp [Act.put]
theorem put_defers (a : Act) (d : Option Nat) (v : Value) : (a.put d v).defers = a.defers := by cases d <;> rfl

theorem run_callFunc {g : FuncId} {args : Array Value} {w : World} (hp : plainFn P g = true) : (callFunc g args).run P w = .ok (.enter g args) w := by
  unfold plainFn at hp
  split at hp
  · rename_i fn hf
    simp only [Bool.and_eq_true, Bool.not_eq_true'] at hp
    have hb : fn.body.isNone = false := by cases hbd : fn.body <;> simp_all
    simp only [callFunc, Sem.run_bind, run_program, Result.andThen_ok, hf, hp.1, Bool.false_eq_true, if_false, hb]
    rfl
  · cases hp

/-- One operation. -/
theorem AOp_sound {o : Oper} {po : POp} (hop : po.op = o.op) (hdst : po.dst = o.dst) (hty : po.type = o.type) {K Ep : AV → ST → Prop} {fr : FR} {σ : ST} {ρ : RHO} {I : Nat → Prop} {a : Act} {w : World} (hat : At P E N fr σ ρ I a w)
    (hd : wfDst N o.dst = true) (hh : AOp P h po K Ep fr σ) (next : Act → World → Prop) (Q : Exit → Act → World → Prop)
    (hn : ∀ v σ', K v σ' → ∀ ρ' I' w' u, At P E N (put fr o.dst v) σ' ρ' I' (a.put o.dst u) w' → next (a.put o.dst u) w')
    (hp : ∀ x σ', Ep x σ' → ∀ ρ' I' w' v, At P E N fr σ' ρ' I' a w' → V ρ' σ' I' w' x v → Q (.panic [{ v, recovered := false }]) a w') : o.wp P a w next Q := by
  unfold AOp at hh
  split at hh
  · rename_i x hpan
    rw [hop] at hpan
    have hv := hat.vf.eval x
    have key : ∀ (t : TypeId) (u : Value), a.eval x = .iface t u → (execOp a.eval o).run P w = .halt (.panic (a.eval x)) w := by
      intro t u hu
      simp only [execOp, hpan, Instr.panic, hu]
      rfl
    unfold panicA at hh
    unfold Oper.wp
    split at hh
    · rename_i t y he
      rw [he] at hv
      obtain ⟨u, hu⟩ : ∃ u, a.eval x = .iface t u := by
        generalize a.eval x = vv at hv ⊢
        cases hv; exact ⟨_, rfl⟩
      rw [key t u hu, Oper.upon_panic]
      exact hp _ σ hh ρ I w _ hat (by rw [he]; exact hv)
    · rename_i t y he
      rw [he] at hv
      obtain ⟨u, hu⟩ : ∃ u, a.eval x = .iface t u := by
        have hd := hv.d_inv
        generalize a.eval x = vv at hd ⊢
        cases hd; exact ⟨_, rfl⟩
      rw [key t u hu, Oper.upon_panic]
      exact hp _ σ hh ρ I w _ hat (by rw [he]; exact hv)
    · exact hh.elim
  · rename_i s d x hcv
    rw [hop] at hcv
    obtain ⟨nx, v, av, w', ρ', I', σ', h1, h2, h3, h4, h5, h6⟩ := convA_sound (P := P) hat.rs hat.vf o hcv K hh
    have hat' : At P E N (put fr o.dst av) σ' ρ' I' (a.put o.dst v) w' := ⟨hat.step.trans h3, h4, (hat.vf.step hat.rs h3).put h5 (by rw [hat.size]; exact hd), by rw [put_size]; exact hat.size, by rw [put_defers]; exact hat.defers⟩
    unfold Oper.wp
    rw [h1]
    rcases h2 with rfl | ⟨rfl, rfl⟩
    · rw [Oper.upon_value]; exact hn av σ' h6 ρ' I' w' v hat'
    · rw [Oper.upon_skip]; exact hn av σ' h6 ρ' I' w' undef hat'
  · rename_i f args ts hcall
    rw [hop] at hcall
    unfold callA at hh
    split at hh
    · rename_i g first cap hc
      have hfv := hat.vf.eval f
      have hvl := hat.vf.vl args
      -- the function value
      have hex : ∃ (vf vc : Array Value), a.eval f = .func (.func g) vf vc ∧ VL ρ σ I w first vf ∧ VL ρ σ I w cap vc := by
        unfold calleeOf at hc
        split at hc
        · rename_i g' he
          simp only [Option.some.injEq, Prod.mk.injEq] at hc
          obtain ⟨rfl, rfl, rfl⟩ := hc
          rw [he] at hfv
          have hd := hfv.d_inv
          generalize a.eval f = vv at hd
          cases hd
          exact ⟨#[], #[], rfl, ⟨rfl, by simp⟩, ⟨rfl, by simp⟩⟩
        · rename_i g' fs cs he
          simp only [Option.some.injEq, Prod.mk.injEq] at hc
          obtain ⟨rfl, rfl, rfl⟩ := hc
          rw [he] at hfv
          generalize a.eval f = vv at hfv
          cases hfv with | func h1 h2 h3 h4 => exact ⟨_, _, rfl, ⟨h1, h2⟩, ⟨h3, h4⟩⟩
        · cases hc
      obtain ⟨vf, vc, he, hvf, hvc⟩ := hex
      have hall : VL ρ σ I w (first ++ args.toList.map (aeval fr) ++ cap) (vf ++ args.map a.eval ++ vc) := by
        have app : ∀ {avl bs : List AV} {us vs : Array Value}, VL ρ σ I w avl us → VL ρ σ I w bs vs → VL ρ σ I w (avl ++ bs) (us ++ vs) := by
          intro avl bs us vs h1 h2
          refine ⟨by simp [h1.1, h2.1], fun j c hj => ?_⟩
          rcases Nat.lt_or_ge j avl.length with hlt | hge
          · rw [List.getElem?_append_left hlt] at hj
            have := h1.2 j c hj
            rw [Array.getD_eq_getD_getElem?, Array.getElem?_append_left (by rw [← h1.1]; exact hlt), ← Array.getD_eq_getD_getElem?]
            exact this
          · rw [List.getElem?_append_right hge] at hj
            have := h2.2 _ c hj
            rw [Array.getD_eq_getD_getElem?, Array.getElem?_append_right (by rw [← h1.1]; exact hge), ← h1.1, ← Array.getD_eq_getD_getElem?]
            exact this
        exact app (app hvf hvl) hvc
      unfold callB at hh
      cases hpl : plainFn P g
      · rw [hpl] at hh
        obtain ⟨⟨fn, e1, e2, e3, e4, e5⟩, hesc⟩ := hh
        generalize hA : first ++ args.toList.map (aeval fr) ++ cap = avl at *
        generalize hV : vf ++ args.map a.eval ++ vc = us at *
        unfold escA at hesc
        split at hesc
        · rename_i x
          obtain ⟨us⟩ := us
          match us, hall with
          | [v], hall =>
            have hv : V ρ σ I w x v := by simpa using hall.2 0 _ rfl
            have hrun : (execOp a.eval o).run P w = .ok (.value v) w := by
              simp only [execOp, hcall, Sem.run_bind, resolve, he, Deferred.ofValue, Sem.run_pure, Result.andThen_ok, invoke]
              rw [hV, run_callFunc_extern e1 e2 e3 e4 e5]
              rfl
            unfold Oper.wp
            rw [hrun, Oper.upon_value]
            exact hn x σ hesc ρ I w v ⟨hat.step, hat.rs, hat.vf.put hv (by rw [hat.size]; exact hd), by rw [put_size]; exact hat.size, by rw [put_defers]; exact hat.defers⟩
        · exact hesc.elim
      · rw [hpl] at hh
        simp only [cond_true] at hh
        have hrun : (execOp a.eval o).run P w = .ok (.enter g (vf ++ args.map a.eval ++ vc)) w := by
          simp only [execOp, hcall, Sem.run_bind, resolve, he, Deferred.ofValue, Sem.run_pure, Result.andThen_ok, invoke]
          rw [run_callFunc hpl]
        unfold Oper.wp
        rw [hrun, Oper.upon_enter]
        refine (hh ρ I w _ hat.rs hall).mono fun e w' ⟨ρ', I', σ', oc, h1, h2, h3, h4⟩ => ?_
        have hat' : At P E N fr σ' ρ' I' a w' := ⟨hat.step.trans h1, h2, hat.vf.step hat.rs h1, hat.size, hat.defers⟩
        cases e with
        | returned v =>
          cases oc with
          | ret av => exact hn av σ' h4 ρ' I' w' v ⟨hat'.step, h2, hat'.vf.put h3 (by rw [hat.size]; exact hd), by rw [put_size]; exact hat.size, by rw [put_defers]; exact hat.defers⟩
          | panic x => exact h3.elim
        | panicked ch =>
          cases oc with
          | ret av => exact h3.elim
          | panic x =>
            obtain ⟨v, rfl, hv⟩ := h3
            exact hp x σ' h4 ρ' I' w' v hat' hv
        | outgrown => cases oc <;> exact h3.elim
    · exact hh.elim
  · rename_i hnc
    rw [hop, hty] at hh
    obtain ⟨nx, v, av, w', ρ', I', σ', h1, h2, h3, h4, h5, h6⟩ := evalOp_sound (P := P) hat.rs hat.vf (hintOf h po.dst) o K hh
    have hat' : At P E N (put fr o.dst av) σ' ρ' I' (a.put o.dst v) w' := ⟨hat.step.trans h3, h4, (hat.vf.step hat.rs h3).put h5 (by rw [hat.size]; exact hd), by rw [put_size]; exact hat.size, by rw [put_defers]; exact hat.defers⟩
    unfold Oper.wp
    rw [h1]
    rcases h2 with rfl | ⟨rfl, rfl⟩
    · rw [Oper.upon_value]; exact hn av σ' h6 ρ' I' w' v hat'
    · rw [Oper.upon_skip]; exact hn av σ' h6 ρ' I' w' undef hat'

theorem V.skipped {ρ : RHO} {σ : ST} {I : Nat → Prop} {w : World} : V ρ σ I w (.tuple []) undef := .tuple rfl (fun j c hj => by simp at hj)
theorem yielded_un {ops : Array Oper} {fr : FR} {σ : ST} {ρ : RHO} {I : Nat → Prop} {a : Act} {w : World} (hat : At P E N fr σ ρ I a w) {g d : Nat} (hd : d < a.tmps.size)
    (hd1 : (ops[g]?).bind (·.dst) = some d) (hc : fr ((some d).getD 0) = .tuple []) : yielded ops a.tmps g = none := by
  have hv := hat.vf d
  simp only [Option.getD_some] at hc
  rw [hc] at hv
  unfold yielded
  rw [hd1]
  simp only [Option.bind_some]
  rw [Array.getD_eq_getD_getElem?, Array.getElem?_eq_getElem hd] at hv
  rw [Array.getElem?_eq_getElem hd]
  simp only [Option.getD_some] at hv
  generalize a.tmps[d] = v at *
  cases hv
  rfl

theorem AOps_sound {ops : Array Oper} {Q : Post} : ∀ (l : List Oper), (∀ o, o ∈ l → wfOp N ops o = true) → ∀ (fr : FR) (σ : ST) (ρ : RHO) (I : Nat → Prop) (a : Act) (w : World), At P E N fr σ ρ I a w →
    AOps P h Q (l.map (prepOp ops)) fr σ → wpList P ops (lift P E N Q) l a w := by
  intro l
  induction l with
  | nil => intro _ fr σ ρ I a w hat hh; exact ⟨ρ, I, fr, σ, .normal, hat, trivial, hh⟩
  | cons o l ih =>
    intro hwf fr σ ρ I a w hat hh
    have hwo := hwf o (by simp)
    simp only [wfOp, Bool.and_eq_true] at hwo
    have hd := hwo.1
    have ih' := ih (fun x hx => hwf x (by simp [hx]))
    have run : AOp P h (prepOp ops o) (fun v σ' => AOps P h Q (l.map (prepOp ops)) (put fr o.dst v) σ') (fun x σ' => Q (.panic x) fr σ') fr σ → o.wp P a w (wpList P ops (lift P E N Q) l) (lift P E N Q) := fun h1 =>
      AOp_sound rfl rfl rfl hat hd h1 _ _ (fun v σ' hk ρ' I' w' u hat' => ih' _ _ ρ' I' _ w' hat' hk) (fun x σ' hk ρ' I' w' v hat' hv => ⟨ρ', I', fr, σ', .panic x, hat', ⟨v, rfl, hv⟩, hk⟩)
    unfold wpList
    simp only [List.map_cons, AOps] at hh
    cases hg : o.guard with
    | none =>
      have hpg : (prepOp ops o).guard = none := by simp [prepOp, hg]
      rw [hpg] at hh
      have hw : Region.wanted o (yielded ops a.tmps) = true := by simp [Region.wanted, hg]
      rw [if_pos hw]
      exact .inl (run hh)
    | some gb =>
      obtain ⟨g, b⟩ := gb
      have hpg : (prepOp ops o).guard = some (((ops[g]?).bind (·.dst)).getD 0, b) := by simp [prepOp, hg]
      rw [hpg] at hh
      simp only at hh
      unfold gateA at hh
      split at hh
      · rename_i c hc
        have hv := hat.vf (((ops[g]?).bind (·.dst)).getD 0)
        rw [hc] at hv
        have hb := hv.d_inv.bool_inv
        have hpd : (prepOp ops o).dst = o.dst := rfl
        by_cases hdd : ∃ d, (ops[g]?).bind (·.dst) = some d ∧ d < a.tmps.size
        · obtain ⟨d, hd1, hd2⟩ := hdd
          rw [hd1] at hb
          simp only [Option.getD_some] at hb
          have hy : yielded ops a.tmps g = some c := by
            unfold yielded
            rw [hd1]
            simp only [Option.bind_some]
            rw [Array.getD_eq_getD_getElem?, Array.getElem?_eq_getElem hd2] at hb
            rw [Array.getElem?_eq_getElem hd2]
            simp only [Option.getD_some] at hb
            rw [hb]
          cases hcb : c == b
          · rw [hcb] at hh
            have hw : Region.wanted o (yielded ops a.tmps) = false := by
              simp only [Region.wanted, hg, hy]
              revert hcb; cases c <;> cases b <;> simp
            rw [hw]
            simp only [Bool.false_eq_true, if_false]
            exact ih' _ _ ρ I _ w ⟨hat.step, hat.rs, hat.vf.put V.skipped (by rw [hat.size]; exact hd), by rw [put_size]; exact hat.size, by rw [put_defers]; exact hat.defers⟩ hh
          · rw [hcb] at hh
            have hw : Region.wanted o (yielded ops a.tmps) = true := by
              simp only [Region.wanted, hg, hy]
              revert hcb; cases c <;> cases b <;> simp
            rw [if_pos hw]
            exact .inl (run hh)
        · have hwg := hwo.2
          rw [hg] at hwg
          simp only [wfGuard] at hwg
          split at hwg
          · rename_i d hd1
            exact absurd ⟨d, hd1, by rw [hat.size]; simpa using hwg⟩ hdd
          · cases hwg
      · rename_i hc
        have hwg := hwo.2
        rw [hg] at hwg
        simp only [wfGuard] at hwg
        split at hwg
        · rename_i d hd1
          have hy := yielded_un hat (by rw [hat.size]; simpa using hwg) hd1 (by rw [hd1] at hc; exact hc)
          have hw : Region.wanted o (yielded ops a.tmps) = false := by
            simp only [Region.wanted, hg, hy]
            cases b <;> rfl
          rw [hw]
          simp only [Bool.false_eq_true, if_false]
          exact ih' _ _ ρ I _ w ⟨hat.step, hat.rs, hat.vf.put V.skipped (by rw [hat.size]; exact hd), by rw [put_size]; exact hat.size, by rw [put_defers]; exact hat.defers⟩ hh
        · cases hwg
      · exact hh.elim

/-- The guard's answer is what the run finds. -/
theorem wanted_of {ops : Array Oper} {o : Oper} {fr : FR} {σ : ST} {ρ : RHO} {I : Nat → Prop} {a : Act} {w : World} (hat : At P E N fr σ ρ I a w) (hwg : wfGuard N ops o.guard = true) {b : Bool} (hg : Gate (prepOp ops o) fr b) :
    Region.wanted o (yielded ops a.tmps) = b := by
  cases hg with
  | opn hn =>
    simp only [prepOp] at hn
    cases hgd : o.guard with
    | none => simp [Region.wanted, hgd]
    | some gb => rw [hgd] at hn; simp at hn
  | @att g b c hs hc =>
    simp only [prepOp] at hs
    cases hgd : o.guard with
    | none => rw [hgd] at hs; simp at hs
    | some gb =>
      obtain ⟨g', b'⟩ := gb
      rw [hgd] at hs
      simp only [Option.some.injEq, Prod.mk.injEq] at hs
      obtain ⟨rfl, rfl⟩ := hs
      rw [hgd] at hwg
      simp only [wfGuard] at hwg
      split at hwg
      · rename_i d hd1
        have hd2 : d < a.tmps.size := by rw [hat.size]; simpa using hwg
        have hv := hat.vf (((ops[g']?).bind (·.dst)).getD 0)
        rw [hc] at hv
        have hb := hv.d_inv.bool_inv
        rw [hd1] at hb
        simp only [Option.getD_some] at hb
        have hy : yielded ops a.tmps g' = some c := by
          unfold yielded
          rw [hd1]
          simp only [Option.bind_some]
          rw [Array.getD_eq_getD_getElem?, Array.getElem?_eq_getElem hd2] at hb
          rw [Array.getElem?_eq_getElem hd2]
          simp only [Option.getD_some] at hb
          rw [hb]
        simp only [Region.wanted, hgd, hy]
        cases c <;> cases b' <;> simp
      · cases hwg
  | @un g b hs hc =>
    simp only [prepOp] at hs
    cases hgd : o.guard with
    | none => rw [hgd] at hs; simp at hs
    | some gb =>
      obtain ⟨g', b'⟩ := gb
      rw [hgd] at hs
      simp only [Option.some.injEq, Prod.mk.injEq] at hs
      obtain ⟨rfl, rfl⟩ := hs
      rw [hgd] at hwg
      simp only [wfGuard] at hwg
      split at hwg
      · rename_i d hd1
        have hy := yielded_un hat (by rw [hat.size]; simpa using hwg) hd1 (by rw [hd1] at hc; exact hc)
        simp only [Region.wanted, hgd, hy]
        cases b' <;> rfl
      · cases hwg

theorem Gate.fr {po : POp} {fr fr' : FR} {b : Bool} (hx : ∀ g c, po.guard = some (g, c) → fr g = fr' g) (hg : Gate po fr b) : Gate po fr' b := by
  cases hg with
  | opn hn => exact .opn hn
  | att hs hc => exact .att hs (by rw [← hx _ _ hs]; exact hc)
  | un hs hc => exact .un hs (by rw [← hx _ _ hs]; exact hc)

theorem blt_false {a b : Nat} (h : b ≤ a) : Nat.blt a b = false := by
  cases hb : Nat.blt a b
  · rfl
  · have : a < b := by simpa using hb
    omega

theorem draw_sound {ops : Array Oper} {Q : Post} (hwf : ∀ o, o ∈ ops.toList → wfOp N ops o = true) (hed : edgesOK ops = true) (hpr : pairsOK ops (masks ops.toList []) = true)
    {fr : FR} {vs : Nat → AV} {ss : Nat → ST} (hK : Q .normal (frS ops vs fr (fun j => Nat.blt j ops.size)) (ss ops.size))
    (hs : ∀ i o, ops[i]? = some o → Says P h ops.size (dpAt ops (masks ops.toList []) i o) (frS ops vs fr (fun j => Nat.blt j i)) vs ss [] i) :
    ∀ (fuel : Nat) (listed : Array Bool) (m : Nat) (ρ : RHO) (I : Nat → Prop) (a : Act) (w : World), listed.size = ops.size → unl listed ops.size ≤ fuel → ClosedL ops listed → m ≤ ops.size →
      (∀ j, effAt ops j = true → (listed.getD j false = true ↔ j < m)) → At P E N (frS ops vs fr (fun j => listed.getD j false)) (ss m) ρ I a w → wpAny P .any ops (lift P E N Q) fuel listed a w := by
  -- between two operations that change the store it stays
  have stay : ∀ d i, i + d ≤ ops.size → (∀ j, i ≤ j → j < i + d → effAt ops j = false) → ss (i + d) = ss i := by
    intro d
    induction d with
    | zero => intro i _ _; rfl
    | succ d ih =>
      intro i hi hno
      have hlt : i + d < ops.size := by omega
      have ho : ops[i + d]? = some ops[i + d] := Array.getElem?_eq_getElem hlt
      have hne := hno (i + d) (by omega) (by omega)
      have h1 : ss (i + d + 1) = ss (i + d) := by
        rcases hs _ _ ho with ⟨_, f⟩ | ⟨_, _, h⟩
        · refine f.still ?_
          unfold effAt at hne; rw [ho] at hne; exact hne
        · exact h
      rw [← Nat.add_assoc, h1]
      exact ih i (by omega) (fun j h1 h2 => hno j h1 (by omega))
  have stay' : ∀ i k, i ≤ k → k ≤ ops.size → (∀ j, i ≤ j → j < k → effAt ops j = false) → ss k = ss i := by
    intro i k hik hk hno
    obtain ⟨d, rfl⟩ := Nat.exists_eq_add_of_le hik
    exact stay d i hk hno
  have done : ∀ (listed : Array Bool) (m : Nat) (ρ : RHO) (I : Nat → Prop) (a : Act) (w : World), listed.size = ops.size → m ≤ ops.size →
      (∀ j, effAt ops j = true → (listed.getD j false = true ↔ j < m)) → At P E N (frS ops vs fr (fun j => listed.getD j false)) (ss m) ρ I a w → Region.ready .any ops listed = [] → lift P E N Q .normal a w := by
    intro listed m ρ I a w hsz hm hef hat hr
    have hall := all_listed hed hsz hr
    have hfr : frS ops vs fr (fun j => listed.getD j false) = frS ops vs fr (fun j => Nat.blt j ops.size) := by
      funext t
      unfold frS
      split
      · rename_i j hw
        obtain ⟨o', ho', _⟩ := wr_some hw
        have hlt := (Array.getElem?_eq_some_iff.1 ho').1
        show (bif listed.getD j false then vs j else fr t) = bif Nat.blt j ops.size then vs j else fr t
        rw [hall j hlt]
        have : Nat.blt j ops.size = true := by simpa using hlt
        rw [this]
      · rfl
    have hss : ss ops.size = ss m := by
      refine stay' m ops.size hm (Nat.le_refl _) (fun j h1 h2 => ?_)
      cases he : effAt ops j
      · rfl
      · have := (hef j he).1 (hall j h2); omega
    rw [hfr] at hat
    exact ⟨ρ, I, _, _, .normal, hat, trivial, by rw [← hss]; exact hK⟩
  intro fuel
  induction fuel with
  | zero =>
    intro listed m ρ I a w hsz hun hcl hm hef hat
    have hr : Region.ready .any ops listed = [] := by
      cases hr : Region.ready .any ops listed with
      | nil => rfl
      | cons i l =>
        exfalso
        have hi : i ∈ Region.ready .any ops listed := by rw [hr]; exact List.mem_cons_self
        obtain ⟨h0, o, ho, _⟩ := mem_ready.1 hi
        have := unl_set hsz (Array.getElem?_eq_some_iff.1 ho).1 h0
        omega
    exact ⟨hr, done listed m ρ I a w hsz hm hef hat hr⟩
  | succ fuel ih =>
    intro listed m ρ I a w hsz hun hcl hm hef hat
    refine ⟨fun hr => done listed m ρ I a w hsz hm hef hat hr, fun i hi => ?_⟩
    obtain ⟨h0, o, ho, hall⟩ := mem_ready.1 hi
    have hlt : i < ops.size := (Array.getElem?_eq_some_iff.1 ho).1
    have hli : listed.getD i false = false := by
      have : i < listed.size := by omega
      simp [this] at h0 ⊢; exact h0
    have hwo := hwf o (by rw [← Array.getElem?_toList] at ho; exact List.mem_of_getElem? ho)
    simp only [wfOp, Bool.and_eq_true] at hwo
    -- operations that stand later and must follow have not run
    have later : ∀ j, forced (masks ops.toList []) i j = true → listed.getD j false = false := fun j hf => by
      cases hj : listed.getD j false
      · rfl
      · rw [forced_spec hcl hf hj] at hli; cases hli
    -- slots that are looked at
    have look : ∀ t, t ∈ o.looksAt ops → frS ops vs fr (fun j => Nat.blt j i) t = frS ops vs fr (fun j => listed.getD j false) t := by
      intro t ht
      unfold frS
      split
      · rename_i j hw
        obtain ⟨o', ho', hd'⟩ := wr_some hw
        have e : Nat.blt j i = listed.getD j false := by
          rcases Nat.lt_trichotomy j i with h | h | h
          · have := (pair_spec hpr ho' ho h).2.1 t hd' ht
            rw [forced_ready hcl hsz hi this (by omega)]
            simpa using h
          · subst h; rw [hli]; exact blt_false (Nat.le_refl _)
          · have := (pair_spec hpr ho ho' h).2.2.1 t hd' ht
            rw [later j this]
            exact blt_false (Nat.le_of_lt h)
        show (bif Nat.blt j i then vs j else fr t) = bif listed.getD j false then vs j else fr t
        rw [e]
      · rfl
    have hops : ∀ x, x ∈ o.op.operands → aeval (frS ops vs fr (fun j => Nat.blt j i)) x = aeval (frS ops vs fr (fun j => listed.getD j false)) x := by
      intro x hx
      cases x with
      | tmp t => exact look t (List.mem_append_left _ (List.mem_filterMap.2 ⟨.tmp t, by simpa using hx, rfl⟩))
      | _ => rfl
    have hgd : ∀ b, Gate (prepOp ops o) (frS ops vs fr (fun j => Nat.blt j i)) b → Gate (prepOp ops o) (frS ops vs fr (fun j => listed.getD j false)) b := by
      intro b hg
      refine hg.fr (fun g c hgc => look _ (List.mem_append_right _ ?_))
      simp only [prepOp] at hgc
      cases hog : o.guard with
      | none => rw [hog] at hgc; simp at hgc
      | some gb =>
        obtain ⟨g', b'⟩ := gb
        rw [hog] at hgc
        simp only [Option.some.injEq, Prod.mk.injEq] at hgc
        obtain ⟨rfl, rfl⟩ := hgc
        have hwg := hwo.2
        rw [hog] at hwg
        simp only [wfGuard] at hwg
        split at hwg
        · rename_i d hd; simp only [hog, hd]; simp
        · cases hwg
    -- the frame after it
    have frame : frS ops vs fr (fun j => (listed.setIfInBounds i true).getD j false) = put (frS ops vs fr (fun j => listed.getD j false)) o.dst (vs i) := by
      refine frS_put hpr ho (fun k => ?_)
      by_cases hk : k = i
      · subst hk; simp [hsz, hlt]
      · rw [getD_set_ne false (Ne.symm hk)]
        have : (k == i) = false := by simp [hk]
        rw [this, Bool.or_false]
    have hsz' : (listed.setIfInBounds i true).size = ops.size := by simp [hsz]
    have hun' : unl (listed.setIfInBounds i true) ops.size ≤ fuel := by have := unl_set hsz hlt h0; omega
    have hcl' := closed_set hcl hi
    -- it leaves this store, the next stage holds
    have next : ∀ (eff : Bool), isEff o.op = eff → ∃ m', m' ≤ ops.size ∧ (∀ j, effAt ops j = true → ((listed.setIfInBounds i true).getD j false = true ↔ j < m')) ∧
        (∀ f : Fact P h ops.size (dpAt ops (masks ops.toList []) i o) (frS ops vs fr (fun j => Nat.blt j i)) vs ss [] i, Does P h (prepOp ops o) (frS ops vs fr (fun j => Nat.blt j i)) (ss m) (vs i) (ss m')) ∧ (ss (i + 1) = ss i → ss m' = ss m) := by
      intro eff heff
      have hother : ∀ j, j ≠ i → (listed.setIfInBounds i true).getD j false = listed.getD j false := fun j hj => getD_set_ne false (Ne.symm hj)
      cases eff with
      | true =>
        have hei : effAt ops i = true := by unfold effAt; rw [ho]; exact heff
        have before : ∀ j, effAt ops j = true → j < i → listed.getD j false = true := fun j he hj => by
          unfold effAt at he
          split at he
          · rename_i oj hoj
            exact forced_ready hcl hsz hi ((pair_spec hpr hoj ho hj).2.2.2 he heff) (by omega)
          · cases he
        have after : ∀ j, effAt ops j = true → i < j → listed.getD j false = false := fun j he hj => by
          unfold effAt at he
          split at he
          · rename_i oj hoj
            exact later j ((pair_spec hpr ho hoj hj).2.2.2 heff he)
          · cases he
        have hmi : m ≤ i := by
          rcases Nat.lt_or_ge i m with h | h
          · rw [(hef i hei).2 h] at hli; cases hli
          · exact h
        have hsm : ss i = ss m := stay' m i hmi (Nat.le_of_lt hlt) (fun j h1 h2 => by
          cases he : effAt ops j
          · rfl
          · have := (hef j he).1 (before j he h2); omega)
        refine ⟨i + 1, hlt, fun j he => ?_, fun f => ?_, fun h => h.trans hsm⟩
        · rcases Nat.lt_trichotomy j i with h | h | h
          · rw [hother j (by omega), before j he h]; simp; omega
          · subst h; simp [hsz, hlt]
          · rw [hother j (by omega), after j he h]; simp; omega
        · rw [← hsm]; exact f.does
      | false =>
        refine ⟨m, hm, fun j he => ?_, fun f => ?_, fun _ => rfl⟩
        · have hji : j ≠ i := fun e => by
            subst e; unfold effAt at he; rw [ho] at he; simp only at he; rw [heff] at he; cases he
          rw [hother j hji]; exact hef j he
        · have base : Does P h (prepOp ops o) (frS ops vs fr (fun j => Nat.blt j i)) (ss i) (vs i) (ss i) := by
            have := f.does
            rw [f.still heff] at this
            exact this
          rcases Nat.lt_or_ge i m with him | hmi
          · cases hfw : (dpAt ops (masks ops.toList []) i o).fwd
            · have hsm : ss m = ss i := stay' i m (Nat.le_of_lt him) hm (fun j h1 h2 => by
                cases he : effAt ops j
                · rfl
                · exfalso
                  have hji : j ≠ i := fun e => by
                    subst e; unfold effAt at he; rw [ho] at he; simp only at he; rw [heff] at he; cases he
                  have hlj := (hef j he).2 h2
                  have h3 := List.any_eq_false.1 hfw j (List.mem_range.2 (by omega))
                  rw [he] at h3
                  have hb : Nat.blt i j = true := by simp; omega
                  rw [hb] at h3
                  simp only [Bool.true_and, Bool.not_eq_true, Bool.not_eq_false'] at h3
                  rw [later j h3] at hlj; cases hlj)
              rw [hsm]; exact base
            · exact f.fwd heff hfw m him hm
          · cases hbk : (dpAt ops (masks ops.toList []) i o).back
            · have hsm : ss i = ss m := stay' m i hmi (Nat.le_of_lt hlt) (fun j h1 h2 => by
                cases he : effAt ops j
                · rfl
                · exfalso
                  have h3 := List.any_eq_false.1 hbk j (List.mem_range.2 h2)
                  rw [he] at h3
                  simp only [Bool.true_and, Bool.not_eq_true, Bool.not_eq_false'] at h3
                  have := (hef j he).1 (forced_ready hcl hsz hi h3 (by omega))
                  omega)
              rw [← hsm]; exact base
            · exact (f.back heff hbk).2 m hmi
    obtain ⟨m', hm', hef', hdo, hsk⟩ := next _ rfl
    unfold wpOp
    rw [ho]
    simp only
    rcases hs i o ho with ⟨hg, f⟩ | ⟨hg, hv, hst⟩
    · rw [wanted_of hat hwo.2 (hgd _ hg), if_pos rfl]
      refine .inl (AOp_sound (po := prepOp ops o) rfl rfl rfl hat hwo.1 ((hdo f).fr hops) _ _ ?_ (fun _ _ hf => hf.elim))
      rintro v σ' ⟨rfl, rfl⟩ ρ' I' w' u hat'
      rw [← frame] at hat'
      exact ih _ m' ρ' I' _ w' hsz' hun' hcl' hm' hef' hat'
    · rw [wanted_of hat hwo.2 (hgd _ hg)]
      simp only [Bool.false_eq_true, if_false]
      have hat' : At P E N (put (frS ops vs fr (fun j => listed.getD j false)) o.dst (vs i)) (ss m') ρ I (a.put o.dst undef) w := by
        rw [hsk hst, hv]
        exact ⟨hat.step, hat.rs, hat.vf.put V.skipped (by rw [hat.size]; exact hwo.1), by rw [put_size]; exact hat.size, by rw [put_defers]; exact hat.defers⟩
      rw [← frame] at hat'
      exact ih _ m' ρ I _ w hsz' hun' hcl' hm' hef' hat'

theorem draws_sound (hm : P.follows .mixedOrders = true) {id : Nat} {ops : Array Oper} {Q : Post} (hwf : ∀ o, o ∈ ops.toList → wfOp N ops o = true) (hd : drawOK ops = true) {fr : FR} {σ : ST} {ρ : RHO} {I : Nat → Prop} {a : Act} {w : World}
    (hat : At P E N fr σ ρ I a { w with drawn := w.drawn + 1 }) (hh : DOps P h (fun fr' σ' => Q .normal fr' σ') (prepDraw ops) [] [] fr σ) : (Code.region id ops true).wp P (lift P E N Q) a w := by
  refine wp_region_any hm ?_
  simp only [drawOK, Bool.and_eq_true] at hd
  obtain ⟨vs, ss, h0, hK, _, hs⟩ := DOps.extract _ _ _ _ _ hh
  rw [prepDraw_length] at hK hs
  rw [frT_S hd.2 _ (Nat.le_refl _)] at hK
  refine draw_sound (h := h) (fr := fr) (vs := vs) (ss := ss) hwf hd.1 hd.2 hK (fun i o ho => ?_) ops.size _ 0 ρ I a _ (by simp) ?_ ?_ (Nat.zero_le _) ?_ ?_
  · have := hs i _ (prepDraw_get ops i o ho)
    rw [frT_S hd.2 i (Nat.le_of_lt (Array.getElem?_eq_some_iff.1 ho).1)] at this
    exact this
  · exact Nat.le_trans List.countP_le_length (by simp)
  · intro i o ho hl
    have hlt := (Array.getElem?_eq_some_iff.1 ho).1
    simp [hlt] at hl
  · intro j he
    constructor
    · intro hl
      rcases Nat.lt_or_ge j ops.size with h | h
      · simp [h] at hl
      · simp [Array.getElem?_eq_none, h] at hl
    · intro h; omega
  · have e : (fun j => (Array.replicate ops.size false).getD j false) = fun _ => false := by
      funext j
      rcases Nat.lt_or_ge j ops.size with h | h
      · simp [h]
      · simp [Array.getElem?_eq_none, h]
    rw [e, frS_none, h0]
    exact hat

theorem RB.heap {ρ : RHO} {σ : ST} {I : Nat → Prop} {w w' : World} (hh : w'.heap = w.heap) {p : Place} {b : Blk} (hb : RB ρ σ I w p b) (hr : RS P ρ I w σ) (hs : Step ρ I w σ ρ I w' σ) : RB ρ σ I w' p b := by
  cases hb with
  | box h1 h2 h3 h4 => exact .box h1 (by rw [hh]; exact h2) h3 (fun j c hj => hs.v hr (h4 j c hj))
  | arrNil h1 h2 => exact .arrNil h1 h2
  | map h1 h2 h3 h4 => exact .map h1 (by rw [hh]; exact h2) h3 (fun j y hj => let ⟨e, k1, k2, k3⟩ := h4 j y hj; ⟨e, k1, hs.vd hr k2, hs.vd hr k3⟩)
  | iter h1 h2 => exact .iter h1 (by rw [hh]; exact h2)
  | arr h1 h2 h3 h4 h5 h6 => exact .arr h1 (by rw [hh]; exact h2) h3 h4 h5 (fun j c hj => hs.vd hr (h6 j c hj))
  | dead => exact .dead

theorem At.drawn {fr : FR} {σ : ST} {ρ : RHO} {I : Nat → Prop} {a : Act} {w : World} (hat : At P E N fr σ ρ I a w) : At P E N fr σ ρ I a { w with drawn := w.drawn + 1 } := by
  have hs : Step ρ I w σ ρ I { w with drawn := w.drawn + 1 } σ := ⟨fun _ _ _ => rfl, fun _ h => h, fun _ h => .inl h, fun _ h => .inl h, Nat.le_refl _, fun b blk h => ⟨blk, h, Compat.refl _ _⟩, ⟨rfl, rfl, rfl⟩⟩
  refine ⟨hat.step.trans hs, ⟨fun i blk hi => RB.heap (w := w) (w' := { w with drawn := w.drawn + 1 }) rfl (hat.rs.blk i blk hi) hat.rs hs, hat.rs.inj, hat.rs.sep, hat.rs.bound, hs.tabs hat.rs⟩, hat.vf.step hat.rs hs, hat.size, hat.defers⟩

theorem W_sound (hmx : P.follows .mixedOrders = true) {Q : Post} : ∀ (c : Code) (Q : Post), wfC N c = true → ∀ (fr : FR) (σ : ST) (ρ : RHO) (I : Nat → Prop) (a : Act) (w : World), At P E N fr σ ρ I a w → W P h (prep c) Q fr σ → c.wp P (lift P E N Q) a w := by
  intro c
  induction c with
  | skip => intro Q _ fr σ ρ I a w hat hh; exact wp_skip ⟨ρ, I, fr, σ, .normal, hat, trivial, hh⟩
  | ret => intro Q _ fr σ ρ I a w hat hh; exact wp_ret ⟨ρ, I, fr, σ, .ret, hat, trivial, hh⟩
  | exit id => intro Q _ fr σ ρ I a w hat hh; exact wp_exit ⟨ρ, I, fr, σ, .exit id, hat, rfl, hh⟩
  | region id ops dr =>
    intro Q hwf fr σ ρ I a w hat hh
    cases dr with
    | true =>
      simp only [wfC, Bool.and_eq_true, List.all_eq_true] at hwf
      exact draws_sound hmx hwf.1 hwf.2 hat.drawn hh
    | false =>
      simp only [wfC, List.all_eq_true] at hwf
      exact wp_region_list (AOps_sound ops.toList hwf fr σ ρ I a w hat hh)
  | seq x y ihx ihy =>
    intro Q hwf fr σ ρ I a w hat hh
    simp only [wfC, Bool.and_eq_true] at hwf
    refine wp_seq (wp_mono (ihx _ hwf.1 fr σ ρ I a w hat hh) ?_)
    rintro e a' w' ⟨ρ', I', fr', σ', ae, hat', hex, hq⟩
    cases e <;> cases ae <;> simp only [exitIs] at hex
    · exact ihy _ hwf.2 fr' σ' ρ' I' a' w' hat' hq
    · exact ⟨ρ', I', fr', σ', .exit _, hat', hex, hq⟩
    · exact ⟨ρ', I', fr', σ', .ret, hat', trivial, hq⟩
    · exact ⟨ρ', I', fr', σ', .panic _, hat', hex, hq⟩
  | cond c x y ihx ihy =>
    intro Q hwf fr σ ρ I a w hat hh
    simp only [wfC, Bool.and_eq_true] at hwf
    simp only [prep, W] at hh
    have hv := hat.vf.eval c
    generalize hgen : aeval fr c = v at *
    unfold condA at hh
    split at hh
    · rename_i b
      have hb := hv.d_inv.bool_inv
      cases b
      · exact wp_cond_false hb (ihy _ hwf.2 fr σ ρ I a w hat hh)
      · exact wp_cond_true hb (ihx _ hwf.1 fr σ ρ I a w hat hh)
    · exact hh.elim
  | block id b ih =>
    intro Q hwf fr σ ρ I a w hat hh
    refine wp_block (wp_mono (ih _ hwf fr σ ρ I a w hat hh) ?_)
    rintro e a' w' ⟨ρ', I', fr', σ', ae, hat', hex, hq⟩
    cases e <;> cases ae <;> simp only [exitIs] at hex
    · exact ⟨ρ', I', fr', σ', .normal, hat', trivial, hq⟩
    · subst hex
      simp only [Exit.inBlock, blockA] at hq ⊢
      split
      · rename_i hid; rw [if_pos hid] at hq; exact ⟨ρ', I', fr', σ', .normal, hat', trivial, hq⟩
      · rename_i hid; rw [if_neg hid] at hq; exact ⟨ρ', I', fr', σ', .exit _, hat', rfl, hq⟩
    · exact ⟨ρ', I', fr', σ', .ret, hat', trivial, hq⟩
    · exact ⟨ρ', I', fr', σ', .panic _, hat', hex, hq⟩
  | loop body ih =>
    intro Q hwf fr σ ρ I a w hat hh
    have key : ∀ (fr : FR) (σ : ST), LoopW (fun Q fr σ => W P h (prep body) Q fr σ) Q fr σ → ∀ ρ I a w, At P E N fr σ ρ I a w → ∀ b k cs,
        ∃ e a' w', lift P E N Q e a' w' ∧ Arrives P (lone (b.at a (.code body :: .inLoop body :: k)) cs w) b k cs e a' w' := by
      intro fr σ hl
      refine hl (fun fr σ => ∀ ρ I a w, At P E N fr σ ρ I a w → ∀ b k cs, ∃ e a' w', lift P E N Q e a' w' ∧ Arrives P (lone (b.at a (.code body :: .inLoop body :: k)) cs w) b k cs e a' w') ?_
      intro fr σ hb ρ I a w hat b k cs
      obtain ⟨e, a₁, w₁, ⟨ρ', I', fr', σ', ae, hat', hex, hq⟩, harr⟩ := ih _ hwf fr σ ρ I a w hat hb b (.inLoop body :: k) cs
      cases e <;> cases ae <;> simp only [exitIs] at hex
      · obtain ⟨e₂, a₂, w₂, hq₂, harr₂⟩ := hq ρ' I' a₁ w₁ hat' b k cs
        exact ⟨e₂, a₂, w₂, hq₂, .of_steps (Steps.trans harr (.one step_inLoop)) harr₂⟩
      · exact ⟨.exit _, a₁, w₁, ⟨ρ', I', fr', σ', .exit _, hat', hex, hq⟩, .pass (x := .inLoop body) rfl (fun _ _ => .inl (by simp)) harr⟩
      · exact ⟨.ret, a₁, w₁, ⟨ρ', I', fr', σ', .ret, hat', trivial, hq⟩, .pass (x := .inLoop body) rfl (fun _ _ => .inl (by simp)) harr⟩
      · exact ⟨.panic _, a₁, w₁, ⟨ρ', I', fr', σ', .panic _, hat', hex, hq⟩, .pass (x := .inLoop body) rfl (fun _ _ => .inl (by simp)) harr⟩
    intro b k cs
    obtain ⟨e, a', w', hq, harr⟩ := key fr σ hh ρ I a w hat b k cs
    exact ⟨e, a', w', hq, .of_steps (.one step_loop) harr⟩
  | _ => intro Q _ fr σ ρ I a w hat hh; exact hh.elim

/-- A result that lies in a variable. -/
def cellW (P : Program) (t : TypeId) (a : AV) (σ : ST) (K : AV → Prop) : Prop :=
  match a with
  | .ptr b o => (rLoad P t (.ptr b o) σ).holds fun v _ => K v
  | _ => False

/-- The values that a function hands back. -/
def outW (P : Program) (fr : FR) (σ : ST) (rs : List ResultVar) (K : AV → Prop) : Prop :=
  match rs with
  | [.tmp t] => K (fr t)
  | [] => K (.tuple [])
  | [.tmp t, .tmp u] => K (.tuple [fr t, fr u])
  | [.tmp t, .tmp u, .tmp v] => K (.tuple [fr t, fr u, fr v])
  | [.cell t ty] => cellW P ty (fr t) σ K
  | [.cell t ty, .tmp u] => cellW P ty (fr t) σ fun v => K (.tuple [v, fr u])
  | [.cell t ty, .cell u uy] => cellW P ty (fr t) σ fun v => cellW P uy (fr u) σ fun v' => K (.tuple [v, v'])
  | _ => False

/-- What is asked at the end of a function's code. -/
def endA (P : Program) (rs : List ResultVar) (K : Out → ST → Prop) : Post
  | .normal, fr, σ => outW P fr σ rs fun v => K (.ret v) σ
  | .ret, fr, σ => outW P fr σ rs fun v => K (.ret v) σ
  | .panic x, fr, σ => K (.panic x) σ
  | .exit _, _, _ => False
variable {K : Out → ST → Prop} {fr : FR} {σ : ST}
def initFr (args : List AV) : FR := fun i => args.getD i .any
@[go_sem] theorem initFr_zero (a : AV) (l : List AV) : initFr (a :: l) 0 = a := nrfl rfl
@[go_sem] theorem initFr_succ (a : AV) (l : List AV) (i : Nat) : initFr (a :: l) (i + 1) = initFr l i := nrfl rfl
@[go_sem] theorem initFr_nil (i : Nat) : initFr [] i = .any := nrfl rfl

theorem cellW_sound {ρ : RHO} {I : Nat → Prop} {w : World} {t : TypeId} {x : AV} {v : Value} {K : AV → Prop} (hr : RS P ρ I w σ) (hx : V ρ σ I w x v) (ho : cellW P t x σ K) :
    ∃ a y u, v = .pointer (some a) ∧ (loadVar t a).run P w = .ok u w ∧ V ρ σ I w y u ∧ K y := by
  unfold cellW at ho
  split at ho
  · rename_i b o
    obtain ⟨u, y, h1, h2, h3⟩ := rLoad_sound hr t _ _ hx _ ho
    cases hx with | ptr k1 k2 =>
    refine ⟨_, y, u, rfl, ?_, h2, h3⟩
    simpa [Instr.loadAt, Instr.sureAddr] using h1
  · exact ho.elim

theorem outW_sound {ρ : RHO} {I : Nat → Prop} {w : World} {a : Act} {fn : Func} {K : AV → Prop} (hr : RS P ρ I w σ) (hf : VF ρ σ I w fr a) (ho : outW P fr σ fn.results.toList K) :
    ∃ v u, (results fn a.tmps).run P w = .ok u w ∧ V ρ σ I w v u ∧ K v := by
  have hres : ∀ l : List ResultVar, fn.results.toList = l → fn.results = l.toArray := fun l hl => by rw [← hl]
  unfold outW at ho
  split at ho
  · rename_i t he
    exact ⟨_, a.tmps.getD t undef, results_tmp (by rw [hres _ he]) a.tmps P w, hf t, ho⟩
  · rename_i he
    exact ⟨_, .tuple #[], results_none (by rw [hres _ he]) a.tmps P w, .tuple rfl (by simp), ho⟩
  · rename_i t u he
    refine ⟨_, _, results_tmp2 (by rw [hres _ he]) a.tmps P w, .tuple rfl (fun j c hj => ?_), ho⟩
    match j, hj with
    | 0, hj => simp at hj; subst hj; exact hf t
    | 1, hj => simp at hj; subst hj; exact hf u
  · rename_i t u x he
    refine ⟨_, .tuple #[a.tmps.getD t undef, a.tmps.getD u undef, a.tmps.getD x undef], ?_, .tuple rfl (fun j c hj => ?_), ho⟩
    · simp [results, hres _ he]
    match j, hj with
    | 0, hj => simp at hj; subst hj; exact hf t
    | 1, hj => simp at hj; subst hj; exact hf u
    | 2, hj => simp at hj; subst hj; exact hf x
  · rename_i t ty he
    obtain ⟨ad, y, u, h1, h2, h3, h4⟩ := cellW_sound (P := P) hr (hf t) ho
    refine ⟨y, u, ?_, h3, h4⟩
    rw [Array.getD_eq_getD_getElem?] at h1
    simp [results, hres _ he, h1, asAddr, h2, Sem.run_bind, Result.andThen]
  · rename_i t ty x he
    obtain ⟨ad, y, u, h1, h2, h3, h4⟩ := cellW_sound (P := P) hr (hf t) ho
    refine ⟨_, .tuple #[u, a.tmps.getD x undef], ?_, .tuple rfl (fun j c hj => ?_), h4⟩
    · rw [results_cell_tmp (by rw [hres _ he]) a.tmps P w, h1]
      simp [asAddr, h2, Result.andThen]
    match j, hj with
    | 0, hj => simp at hj; subst hj; exact h3
    | 1, hj => simp at hj; subst hj; exact hf x
  · rename_i t ty x xy he
    obtain ⟨ad, y, u, h1, h2, h3, h4⟩ := cellW_sound (P := P) hr (hf t) ho
    obtain ⟨ad', y', u', k1, k2, k3, k4⟩ := cellW_sound (P := P) hr (hf x) h4
    refine ⟨_, .tuple #[u, u'], ?_, .tuple rfl (fun j c hj => ?_), k4⟩
    · rw [Array.getD_eq_getD_getElem?] at h1 k1
      simp [results, hres _ he, h1, k1, asAddr, h2, k2, Sem.run_bind, Result.andThen]
    match j, hj with
    | 0, hj => simp at hj; subst hj; exact h3
    | 1, hj => simp at hj; subst hj; exact k3
  · exact ho.elim

/-- A function whose code comes to what is asked, in the abstract layer. -/
theorem call_of_W (hmx : P.follows .mixedOrders = true) {f : FuncId} {fn : Func} {c : Code} {args : List AV} (hint : Nat → Hint) (hf : P.funcs[f]? = some fn) (hb : fn.body = some c) (hwf : wfC fn.ntmps c = true) (hn : args.length ≤ fn.ntmps)
    (hh : W P hint (prep c) (endA P fn.results.toList K) (initFr args) σ) : ACall P f args σ K := by
  intro ρ I w vs hr hv
  refine calls_of_wp hf hb ?_
  let a0 : Act := { tmps := vs ++ Array.replicate (fn.ntmps - vs.size) undef, defers := [] }
  have hat : At P ⟨ρ, I, w, σ, []⟩ fn.ntmps (initFr args) σ ρ I a0 w := by
    refine ⟨Step.refl _ _ _ _, hr, fun i => ?_, ?_, rfl⟩
    · rcases Nat.lt_or_ge i args.length with hlt | hge
      · have := hv.2 i _ (List.getElem?_eq_getElem hlt)
        have e1 : initFr args i = args[i] := by simp [initFr, List.getD_eq_getElem?_getD, hlt]
        have e2 : a0.tmps.getD i undef = vs.getD i undef := by
          have : i < vs.size := by rw [← hv.1]; exact hlt
          simp only [a0, Array.getD_eq_getD_getElem?]
          rw [Array.getElem?_append_left this]
        rw [e1, e2]; exact this
      · have e1 : initFr args i = .any := by simp [initFr, List.getD_eq_getElem?_getD, List.getElem?_eq_none hge]
        rw [e1]; exact .any _
    · have := hv.1
      simp only [a0, Array.size_append, Array.size_replicate]; omega
  refine wp_mono (W_sound (E := ⟨ρ, I, w, σ, []⟩) (Q := endA P fn.results.toList K) hmx c _ hwf _ σ ρ I a0 w hat hh) ?_
  rintro e a' w' ⟨ρ', I', fr', σ', ae, hat', hex, hq⟩
  have fin : outW P fr' σ' fn.results.toList (fun v => K (.ret v) σ') → bodyPost P fn (fun e w' => ∃ ρ' I' σ' oc, Step ρ I w σ ρ' I' w' σ' ∧ RS P ρ' I' w' σ' ∧
      (match e, oc with
        | .returned v, .ret a => V ρ' σ' I' w' a v
        | .panicked ch, .panic a => ∃ v, ch = [{ v, recovered := false }] ∧ V ρ' σ' I' w' a v
        | _, _ => False) ∧ K oc σ') .ret a' w' := by
    intro ho
    obtain ⟨v, u, h1, h2, hk⟩ := outW_sound (P := P) hat'.rs hat'.vf ho
    exact ⟨hat'.defers, u, h1, ρ', I', σ', .ret v, hat'.step, hat'.rs, h2, hk⟩
  cases e <;> cases ae <;> simp only [exitIs] at hex
  · exact fin hq
  · exact hq.elim
  · exact fin hq
  · rename_i ch x
    obtain ⟨v, rfl, hv'⟩ := hex
    exact ⟨hat'.defers, ρ', I', σ', .panic x, hat'.step, hat'.rs, ⟨v, rfl, hv'⟩, hq⟩

/- calls whose values hold no block of the store -/
def AV.pure : AV → Bool
  | .d _ => true
  | .agg cs => pures cs
  | .tuple cs => pures cs
  | .any => true
  | _ => false
where pures : List AV → Bool
  | [] => true
  | c :: cs => c.pure && pures cs
end
end Nv
