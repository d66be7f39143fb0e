/- Calls of the library by its contracts. -/
import Derived.Test.YtebejiilpedlmaaGreatDoorNvP
import Derived.Below
set_option linter.unusedVariables false
set_option linter.unusedSimpArgs false
namespace Nv
open Go Go.RowKit

def sc : AV → Bool
  | .d (.int _ _) => true
  | .d (.bool _) => true
  | .d (.str _) => true
  | _ => false
def scv : AV → Value
  | .d (.int k n) => .int k n
  | .d (.bool b) => .bool b
  | .d (.str s) => .string ⟨s.toArray⟩
  | _ => undef

section
variable {P : Program} {ρ ρ' : RHO} {σ σ' : ST} {I I' : Nat → Prop} {w w' : World}

theorem sc_inv {a : AV} {v : Value} (h : sc a = true) (hv : V ρ σ I w a v) : v = scv a := by
  cases hv <;> try (simp [sc] at h; done)
  rename_i x hx
  cases x <;> simp [sc] at h
  · exact hx.int_inv
  · exact hx.bool_inv
  · exact hx.str_inv
theorem sc_V (ρ : RHO) (σ : ST) (I : Nat → Prop) (w : World) {a : AV} (h : sc a = true) : V ρ σ I w a (scv a) := by
  cases a <;> simp [sc] at h
  rename_i x
  cases x <;> simp [sc] at h
  · exact .d (.int _ _)
  · exact .d (.bool _)
  · exact .d (.str _)

theorem scs_inv {args : List AV} {vs : Array Value} (h : args.all sc = true) (hv : VL ρ σ I w args vs) : vs = (args.map scv).toArray := by
  apply Array.ext
  · simp [hv.1]
  · intro i h1 h2
    have hl : i < args.length := by rw [hv.1]; exact h1
    have := sc_inv (List.all_eq_true.1 h _ (List.getElem_mem hl)) (hv.2 i _ (List.getElem?_eq_getElem hl))
    simp only [Array.getD_eq_getD_getElem?, h1, Array.getElem?_eq_getElem, Option.getD_some] at this
    simp [this]

theorem Step.heap (h : w'.heap = w.heap) (ha : Around w w') : Step ρ I w σ ρ I w' σ :=
  ⟨fun _ _ _ => by rw [h], fun _ h => h, fun _ h => .inl h, fun _ h => .inl h, by rw [h]; exact Nat.le_refl _, fun b blk h => ⟨blk, h, Compat.refl _ _⟩, ha⟩
theorem RS.heap (hr : RS P ρ I w σ) (h : w'.heap = w.heap) (ha : Around w w') : RS P ρ I w' σ :=
  ⟨fun i blk hi => RB.heap h (hr.blk i blk hi) hr (Step.heap h ha), hr.inj, hr.sep, fun B hB => by rw [h]; exact hr.bound B hB, (Step.heap h ha).tabs hr⟩

/-- A contract over worlds, at arguments and a result that hold no address: the heap is as it was. -/
theorem PCall.of_calls {f : FuncId} {args : List AV} {r : AV} (ha : args.all sc = true) (hr : sc r = true)
    (h : ∀ w : World, Calls P f (args.map scv).toArray w fun e w' => e = .returned (scv r) ∧ w'.heap = w.heap ∧ Around w w') : PCall P f args r := by
  intro σ ρ I w vs hrs hv
  rw [scs_inv ha hv]
  refine (h w).mono ?_
  rintro e w' ⟨rfl, hh, ha⟩
  exact ⟨ρ, I, σ, .ret r, Step.heap hh ha, hrs.heap hh ha, sc_V _ _ _ _ hr, rfl, rfl⟩

/-- A contract over worlds that hold the program's tables; the heap may grow. -/
theorem PCall.of_callsT {f : FuncId} {args : List AV} {r : AV} (ha : args.all sc = true) (hr : sc r = true)
    (h : ∀ (w : World) (I : Nat → Prop), Tabs P I w → Calls P f (args.map scv).toArray w fun e w' => e = .returned (scv r) ∧ Below w.heap.size w w') : PCall P f args r := by
  intro σ ρ I w vs hrs hv
  rw [scs_inv ha hv]
  refine (h w I hrs.tabs).mono ?_
  rintro e w' ⟨rfl, hb⟩
  have hx : Ext w w' := ⟨hb.size, ⟨hb.os, hb.tape, hb.output⟩⟩
  exact ⟨ρ, I, σ, .ret r, Step.more hx hb.block, hrs.more hx hb.block, sc_V _ _ _ _ hr, rfl, rfl⟩

theorem PCall.of_calls' {f : FuncId} {args : List AV} {r : AV} (ha : args.all sc = true) (hr : sc r = true)
    (h : ∀ w : World, Calls P f (args.map scv).toArray w fun e w' => e = .returned (scv r) ∧ w' = w) : PCall P f args r :=
  .of_calls ha hr fun w => (h w).mono fun e w' ⟨h1, h2⟩ => ⟨h1, by rw [h2], h2 ▸ Around.refl w⟩
end
end Nv
