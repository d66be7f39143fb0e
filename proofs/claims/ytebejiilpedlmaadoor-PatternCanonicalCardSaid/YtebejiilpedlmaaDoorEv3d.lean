/- Part of a proof about the functions of this seat. -/
import Derived.Test.YtebejiilpedlmaaDoorBase3d
import Derived.Test.YtebejiilpedlmaaDoorNvT
import Derived.KernelRfl
import Derived.Test.YtebejiilpedlmaaDoorSh3d
import Derived.Test.YtebejiilpedlmaaDoorSj3d
set_option linter.unusedVariables false
set_option maxRecDepth 100000
namespace Go.Proofs.YtebejiilpedlmaaDoor
open Go Nv

def hF (d : Nat) : Nat → Hint := fun i => bif Nat.beq i d then .freeze else .no
def hints : Nat → Nat → Hint
  | 12 => hF 20
  | 21 => hF 32
  | 34 => hF 6
  | 45 => hF 40
  | 37 => hF 3
  | 53 => hF 39
  | _ => fun _ => .no
def gcs : Nat → Bool
  | 4 => true
  | 5 => true
  | 9 => true
  | 10 => true
  | 20 => true
  | 6 => true
  | 14 => true
  | 15 => true
  | 33 => true
  | 23 => true
  | 35 => true
  | 7 => true
  | 26 => true
  | 68 => true
  | 69 => true
  | 81 => true
  | 27 => true
  | 25 => true
  | _ => false
def strsOf : List DV → Option (List (List UInt8))
  | [] => some []
  | .str s :: l => (strsOf l).map (s :: ·)
  | _ => none
theorem strsOf_eq : ∀ {l : List DV} {xs : List (List UInt8)}, strsOf l = some xs → l = xs.map DV.str
  | [], xs, h => by simp only [strsOf, Option.some.injEq] at h; subst h; rfl
  | x :: l, xs, h => by
    cases x <;> simp only [strsOf, Option.map_eq_some_iff, reduceCtorEq] at h
    obtain ⟨ys, hy, rfl⟩ := h
    rw [strsOf_eq hy]; rfl
def spec (g : Nat) (args : List AV) : Option AV :=
  bif Nat.beq g 48 then match args with
    | [.d (.str s), .d (.str [c])] => some (.d (.bool (decide (0 ≤ Lib.indexByte s c))))
    | _ => none
  else bif Nat.beq g 26 then match args with
    | [.d (.list 1 l), .d (.str sep)] => match strsOf l with
      | some xs => bif Nat.ble xs.length 1000 && Nat.ble (Lib.join xs sep).length 100000 then some (.d (.str (Lib.join xs sep))) else none
      | none => none
    | _ => none
  else none
noncomputable def E31 : Eenv := ⟨stdTab Tryd.prog hints gcs, spec, fun g => Nat.beq g 55⟩
theorem E31_ok : EnvOK Tryd.prog E31 := by
  refine ⟨stdTab_ok foll, ?_, ?_⟩
  · intro g args r h
    simp only [E31, spec] at h
    cases hg : Nat.beq g 48
    · rw [hg] at h
      simp only [cond_false] at h
      cases hg2 : Nat.beq g 26
      · rw [hg2] at h; cases h
      · have := Nat.eq_of_beq_eq_true hg2
        subst this
        rw [hg2] at h
        simp only [cond_true] at h
        split at h
        · split at h
          · rename_i xs hx
            cases hc : (Nat.ble xs.length 1000 && Nat.ble (Lib.join xs _).length 100000)
            · rw [hc] at h; cases h
            · rw [hc] at h
              simp only [Bool.and_eq_true, Nat.ble_eq] at hc
              simp only [cond_true, Option.some.injEq] at h
              subst h
              rw [strsOf_eq hx]
              exact ⟨join_call xs _ (by omega) (by omega), by kernel_rfl⟩
          · cases h
        · cases h
    · have := Nat.eq_of_beq_eq_true hg
      subst this
      rw [hg] at h
      simp only [cond_true] at h
      split at h
      · simp only [Option.some.injEq] at h; subst h; exact ⟨contains_one _ _, by kernel_rfl⟩
      · cases h
  · intro g h
    have : g = 55 := Nat.eq_of_beq_eq_true h
    subst this
    exact ⟨⟨Tryd.f55, Tryd.func55, by kernel_rfl, by kernel_rfl, by kernel_rfl, by kernel_rfl⟩, by kernel_rfl⟩
end Go.Proofs.YtebejiilpedlmaaDoor
