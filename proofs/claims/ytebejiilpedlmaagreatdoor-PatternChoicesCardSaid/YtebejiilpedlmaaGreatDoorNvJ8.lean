/- Type assertions with comma-ok, at a type that is no interface. -/
import Derived.Test.YtebejiilpedlmaaGreatDoorNvJ7
set_option linter.unusedVariables false
set_option linter.unusedSimpArgs false
namespace Nv
open Go

section
variable {P : Program} {ρ ρ' : RHO} {σ σ' : ST} {I I' : Nat → Prop} {w w' : World}

def isIf : Option TypeDesc → Bool
  | none => true
  | some (.interface _) => true
  | _ => false

def rAssert (P : Program) (t : TypeId) (x : AV) (ok : Bool) (σ : ST) : Res :=
  bif ok && !isIf (P.underlying t) then match x with
    | .iface u y => bif decide (u = t) then .ok (.tuple [y, .d (.bool true)]) σ else .need (zeroA P t ≠ .any) (.ok (.tuple [zeroA P t, .d (.bool false)]) σ)
    | .d (.iface u y) => bif decide (u = t) then .ok (.tuple [.d y, .d (.bool true)]) σ else .need (zeroA P t ≠ .any) (.ok (.tuple [zeroA P t, .d (.bool false)]) σ)
    | _ => .bad
  else .bad

theorem tup2 {a : AV} {u : Value} {b : Bool} (ha : V ρ σ I w a u) : V ρ σ I w (.tuple [a, .d (.bool b)]) (.tuple #[u, .bool b]) := by
  refine .tuple rfl (fun j c hj => ?_)
  match j, hj with
  | 0, hj => simp at hj; subst hj; exact ha
  | 1, hj => simp at hj; subst hj; exact .d (.bool b)

theorem run_assert {u t xT : TypeId} {v : Value} {d : TypeDesc} (hd : P.underlying t = some d) (hi : isIf (some d) = false) :
    (Instr.typeAssert (.iface u v) xT t true).run P w = if u = t then .ok (.tuple #[v, .bool true]) w else (zeroValue t >>= fun z => pure (Value.tuple #[z, .bool false])).run P w := by
  unfold Instr.typeAssert
  rw [Sem.run_bind, run_underlying hd]
  cases d <;> first | (simp [isIf] at hi; done) | (simp only [Result.andThen_ok, if_true]; split <;> rfl)

theorem rAssert_sound (xT t : TypeId) (x : AV) (vx : Value) (ok : Bool) (hx : V ρ σ I w x vx) : Pev P ρ σ I w (Instr.typeAssert vx xT t ok) (rAssert P t x ok σ) := by
  unfold rAssert
  rw [cond_eq_ite]
  split
  · rename_i h0
    simp only [Bool.and_eq_true, Bool.not_eq_true'] at h0
    obtain ⟨rfl, hi⟩ := h0
    cases hu : P.underlying t with
    | none => rw [hu] at hi; cases hi
    | some d =>
      rw [hu] at hi
      have fin : ∀ (u : TypeId) (v : Value) (a : AV), V ρ σ I w a v → Pev P ρ σ I w (Instr.typeAssert (.iface u v) xT t true)
          (bif decide (u = t) then .ok (.tuple [a, .d (.bool true)]) σ else .need (zeroA P t ≠ .any) (.ok (.tuple [zeroA P t, .d (.bool false)]) σ)) := by
        intro u v a ha
        by_cases h : u = t
        · simp only [h, decide_true, cond_true]
          exact .ok (v := .tuple #[v, .bool true]) (by rw [run_assert hu hi, if_pos rfl]) (tup2 ha)
        · simp only [h, decide_false, cond_false]
          refine .need fun hz => ?_
          obtain ⟨z, z1, z2⟩ := zero_run (P := P) (ρ := ρ) (σ := σ) (I := I) (w := w) hz
          exact .ok (v := .tuple #[z, .bool false]) (by rw [run_assert hu hi, if_neg h]; simp [z1]) (tup2 z2)
      split
      · cases hx with
        | iface u h => exact fin _ _ _ h
      · cases hx.d_inv with
        | iface u h => exact fin _ _ _ (.d h)
      · exact .bad
  · exact .bad
end
end Nv
