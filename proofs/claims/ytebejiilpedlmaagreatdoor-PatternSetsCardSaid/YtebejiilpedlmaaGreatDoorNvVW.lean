/- Part of a proof about the functions of this seat. -/
import Derived.Test.YtebejiilpedlmaaGreatDoorNvPQ
import Derived.Test.YtebejiilpedlmaaGreatDoorNvU
/- A slice of the call's own, written anew in place by a function of the library. -/

set_option linter.unusedVariables false
set_option linter.unusedSimpArgs false
namespace Nv
open Go Go.RowKit

section
variable {P : Program} {ρ ρ' : RHO} {σ σ' : ST} {I I' : Nat → Prop} {w w' : World}

theorem own_anew (hr : RS P ρ I w σ) {b g B : Nat} {e : ET} {xs ys : List DV} (hsb : σ[b]? = some (.arr g e xs)) (hB : (ρ b).blk = some B) (hl : ys.length = xs.length) (hyu : ∀ y, y ∈ ys → Uni e y) {us' : Array Value}
    (hE : Ext w w') (hold : ∀ c, c < w.heap.size → c ≠ B → w'.heap[c]? = w.heap[c]?) (hB' : w'.heap[B]? = some (.cells us' e.t (0, 0))) (hsz : (ρ b).base + (ρ b).cap * e ≤ us'.size)
    (hc : ∀ j c, (flat ys)[j]? = some c → VD I w c (us'.getD ((ρ b).base + j) undef)) :
    ∃ ρ', Step ρ I w σ ρ' I w' (stSet σ b (.arr g e ys)) ∧ RS P ρ' I w' (stSet σ b (.arr g e ys)) := by
  obtain ⟨us, q1, q2, q3, q4, q5⟩ := hr.arr hsb hB
  have hcmp : Compat (.arr g e xs) (ρ b) (.arr g e ys) (ρ b) := .inl ⟨rfl, rfl, rfl, hl⟩
  have hp : ∀ B', (ρ b).blk = some B' → B' = B ∨ w.heap.size ≤ B' := fun B' h => by rw [hB] at h; cases h; exact .inl rfl
  have hstep := step_upd (w' := w') hr hsb hB trivial (ρ b) hcmp hE hold hp
  refine ⟨_, hstep, rs_upd hr hsb hB trivial (ρ b) hcmp hE hold hp ?_⟩
  exact .arr hB hB' hsz (by rw [hl]; exact q3) hyu (fun j c hj => hstep.vd hr (hc j c hj))
end
end Nv
/- A view of functions that defer a closure, for walks. -/


set_option linter.unusedVariables false
set_option linter.unusedSimpArgs false
namespace Nv
open Go

def wWD (P : Program) (h : Nat → Hint) (c : PC) (Q1 : Post) (Q2 : FuncId → List AV → Post) (t : Tk c) (q1 : Tk Q1) (q2 : Tk Q2) (fr : FR) (σ : ST) : Prop := WD P h c Q1 Q2 fr σ

section
variable {P : Program} {h : Nat → Hint} {Q1 : Post} {Q2 : FuncId → List AV → Post} {fr : FR} {σ : ST}
theorem wWD_none {a b : PC} {t : Tk (PC.seq a b)} {q1 : Tk Q1} {q2 : Tk Q2} (hd : deferAt a = none) (hh : wW P h a (thenA (fun fr σ => wWD P h b Q1 Q2 ⟨⟩ ⟨⟩ ⟨⟩ fr σ) Q1) ⟨⟩ ⟨⟩ fr σ) : wWD P h (.seq a b) Q1 Q2 t q1 q2 fr σ := by
  unfold wWD WD
  rw [hd]
  unfold wW at hh
  exact hh
theorem wWD_some {a b : PC} {d : Nat} {g : FuncId} {first cap : List Operand} {t : Tk (PC.seq a b)} {q1 : Tk Q1} {q2 : Tk Q2} (hd : deferAt a = some (d, g, first, cap))
    (hh : wW P h b (Q2 g (first.map (aeval fr) ++ cap.map (aeval fr))) ⟨⟩ ⟨⟩ (put fr (some d) (.func (.func g) (first.map (aeval fr)) (cap.map (aeval fr)))) σ) : wWD P h (.seq a b) Q1 Q2 t q1 q2 fr σ := by
  unfold wWD WD
  rw [hd]
  unfold wW at hh
  exact hh
theorem FnIs.goD {f np : Nat} {rs : List ResultVar} {pc : PC} {K : Out → ST → Prop} (hf : FnIs P f np rs pc) (hint : Nat → Hint) {args : List AV} (hn : args.length ≤ np)
    (hh : wWD P hint pc (endA P rs K) (endD P rs K) ⟨⟩ ⟨⟩ ⟨⟩ (initFr args) σ) : ACall P f args σ K := by
  obtain ⟨fn, h1, h2, h3, h4, h5⟩ := hf.is
  unfold wfF at h3
  unfold pcOf at h2
  cases hb : fn.body with
  | none => rw [hb] at h3; cases h3
  | some c =>
    rw [hb] at h3 h2
    subst h2 h4
    exact call_of_WD hf.mx hint h1 hb h3 (Nat.le_trans hn h5) hh

/-- The end of a function that has deferred a closure. -/
def DEnd (P : Program) (rs : List ResultVar) (K : Out → ST → Prop) (g : FuncId) (args : List AV) (pv : Option AV) (fr : FR) (σ : ST) : Prop :=
  plainFn P g = true ∧ DCall P g args σ pv fun b σ' => match pv with
    | none => outW P fr σ' rs fun v => K (.ret v) σ'
    | some x => bif b then outW P fr σ' rs (fun v => K (.ret v) σ') else K (.panic x) σ'
variable {K : Out → ST → Prop} {rs : List ResultVar} {g : FuncId} {args : List AV}
@[go_sem] theorem wQ_endD_ret {t : Tk (endD P rs K g args)} : wQ (endD P rs K g args) t .ret fr σ = DEnd P rs K g args none fr σ := by unfold wQ; rfl
@[go_sem] theorem wQ_endD_normal {t : Tk (endD P rs K g args)} : wQ (endD P rs K g args) t .normal fr σ = DEnd P rs K g args none fr σ := by unfold wQ; rfl
@[go_sem] theorem wQ_endD_panic (x : AV) {t : Tk (endD P rs K g args)} : wQ (endD P rs K g args) t (.panic x) fr σ = DEnd P rs K g args (some x) fr σ := by unfold wQ; rfl
variable {K1 : ST → Prop}
@[go_sem] theorem wQ_endR_ret {t : Tk (endR K1)} : wQ (endR K1) t .ret fr σ = K1 σ := by unfold wQ; rfl
@[go_sem] theorem wQ_endR_normal {t : Tk (endR K1)} : wQ (endR K1) t .normal fr σ = K1 σ := by unfold wQ; rfl

theorem prep_seq {c : Code} {a b : PC} (h : prep c = .seq a b) : ∃ x y, c = .seq x y ∧ prep x = a ∧ prep y = b := by
  cases c with
  | seq x y => simp only [prep, PC.seq.injEq] at h; exact ⟨x, y, rfl, h.1, h.2⟩
  | region id ops o => cases o <;> simp [prep] at h
  | _ => simp [prep] at h
/-- A deferred closure that begins with recover. -/
theorem FnIs.dcall {np : Nat} {a b : PC} (hf : FnIs P g np [] (.seq a b)) (hint : Nat → Hint) {pv : Option AV} {K : Bool → ST → Prop} {d1 d2 : Nat} (hn : args.length ≤ np) (hrec : recAt a = some (d1, d2))
    (hh : wW P hint b (endR (K pv.isSome)) ⟨⟩ ⟨⟩ (put (put (initFr args) (some d1) (recV pv)) (some d2) (recV pv)) σ) : DCall P g args σ pv K := by
  obtain ⟨fn, h1, h2, h3, h4, h5⟩ := hf.is
  unfold wfF at h3
  unfold pcOf at h2
  cases hb : fn.body with
  | none => rw [hb] at h3; cases h3
  | some c =>
    rw [hb] at h3 h2
    obtain ⟨x, y, rfl, rfl, rfl⟩ := prep_seq h2
    have hres : fn.results = #[] := by
      have := h4
      cases hr : fn.results with
      | mk l => rw [hr] at this; simp at this; rw [this]
    unfold wW at hh
    exact DCall_of hf.mx hint h1 hb h3 (Nat.le_trans hn h5) hres hrec hh
@[go_sem] theorem outW_cc (t ty u uy : Nat) (Ka : AV → Prop) : outW P fr σ [.cell t ty, .cell u uy] Ka = cellW P ty (fr t) σ (fun v => cellW P uy (fr u) σ fun v' => Ka (.tuple [v, v'])) := nrfl rfl
@[go_sem] theorem recV_none : recV none = .d .niliface := nrfl rfl
@[go_sem] theorem recV_some (x : AV) : recV (some x) = x := nrfl rfl
end
attribute [irreducible] wWD
end Nv
