/- Part of a proof about the functions of this seat. -/
import Derived.Test.YtebejiilpedlmaaGreatDoorBase31
import Derived.Test.YtebejiilpedlmaaGreatDoorNvT
import Derived.KernelRfl
import Derived.Test.YtebejiilpedlmaaGreatDoorSh31
import Derived.Test.YtebejiilpedlmaaGreatDoorSj31
set_option linter.unusedVariables false
set_option maxRecDepth 100000
namespace Go.Proofs.YtebejiilpedlmaaGreatDoor
open Go Nv

def hF (d : Nat) : Nat → Hint := fun i => bif Nat.beq i d then .freeze else .no
def hints : Nat → Nat → Hint
  | 28 => hF 20
  | 44 => hF 32
  | 67 => hF 6
  | 76 => hF 40
  | 59 => hF 3
  | 85 => hF 39
  | _ => fun _ => .no
def gcs : Nat → Bool
  | 11 => true
  | 14 => true
  | 17 => true
  | 18 => true
  | 34 => true
  | 13 => true
  | 25 => true
  | 26 => true
  | 51 => true
  | 43 => true
  | 66 => true
  | 12 => true
  | 41 => true
  | 105 => true
  | 106 => true
  | 113 => true
  | 42 => true
  | 40 => true
  | _ => false
def strsOf : List DV → Option (List (List UInt8))
  | [] => some []
  | .str s :: l => (strsOf l).map (s :: ·)
  | _ => none
theorem strsOf_eq : ∀ {l : List DV} {xs : List (List UInt8)}, strsOf l = some xs → l = xs.map DV.str
  | [], xs, h => by simp only [strsOf, Option.some.injEq] at h; subst h; rfl
  | x :: l, xs, h => by
    cases x <;> simp only [strsOf, Option.map_eq_some_iff, reduceCtorEq] at h
    obtain ⟨ys, hy, rfl⟩ := h
    rw [strsOf_eq hy]; rfl
def spec (g : Nat) (args : List AV) : Option AV :=
  bif Nat.beq g 72 then match args with
    | [.d (.str s), .d (.str [c])] => some (.d (.bool (decide (0 ≤ Lib.indexByte s c))))
    | _ => none
  else bif Nat.beq g 41 then match args with
    | [.d (.list 1 l), .d (.str sep)] => match strsOf l with
      | some xs => bif Nat.ble xs.length 1000 && Nat.ble (Lib.join xs sep).length 100000 then some (.d (.str (Lib.join xs sep))) else none
      | none => none
    | _ => none
  else none
noncomputable def E31 : Eenv := ⟨stdTab Tryz.prog hints gcs, spec, fun g => Nat.beq g 81⟩
theorem E31_ok : EnvOK Tryz.prog E31 := by
  refine ⟨stdTab_ok foll, ?_, ?_⟩
  · intro g args r h
    simp only [E31, spec] at h
    cases hg : Nat.beq g 72
    · rw [hg] at h
      simp only [cond_false] at h
      cases hg2 : Nat.beq g 41
      · rw [hg2] at h; cases h
      · have := Nat.eq_of_beq_eq_true hg2
        subst this
        rw [hg2] at h
        simp only [cond_true] at h
        split at h
        · split at h
          · rename_i xs hx
            cases hc : (Nat.ble xs.length 1000 && Nat.ble (Lib.join xs _).length 100000)
            · rw [hc] at h; cases h
            · rw [hc] at h
              simp only [Bool.and_eq_true, Nat.ble_eq] at hc
              simp only [cond_true, Option.some.injEq] at h
              subst h
              rw [strsOf_eq hx]
              exact ⟨join_call xs _ (by omega) (by omega), by kernel_rfl⟩
          · cases h
        · cases h
    · have := Nat.eq_of_beq_eq_true hg
      subst this
      rw [hg] at h
      simp only [cond_true] at h
      split at h
      · simp only [Option.some.injEq] at h; subst h; exact ⟨contains_one _ _, by kernel_rfl⟩
      · cases h
  · intro g h
    have : g = 81 := Nat.eq_of_beq_eq_true h
    subst this
    exact ⟨⟨Tryz.f81, Tryz.func81, by kernel_rfl, by kernel_rfl, by kernel_rfl, by kernel_rfl⟩, by kernel_rfl⟩
end Go.Proofs.YtebejiilpedlmaaGreatDoor
