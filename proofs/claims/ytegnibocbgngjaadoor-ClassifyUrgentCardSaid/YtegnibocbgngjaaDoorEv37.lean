/- Part of a proof about the functions of this seat. -/
import Derived.Test.YtegnibocbgngjaaDoorProg
import Derived.Test.YtegnibocbgngjaaDoorNvT
import Derived.KernelRfl
import Derived.Test.YtegnibocbgngjaaDoorSh37
import Derived.Test.YtegnibocbgngjaaDoorBase37
set_option linter.unusedVariables false
set_option maxRecDepth 100000
namespace Go.Proofs.YtegnibocbgngjaaDoor
open Go Nv


def hF (d : Nat) : Nat → Hint := fun i => bif Nat.beq i d then .freeze else .no
def hints : Nat → Nat → Hint
  | 28 => hF 20
  | 9 => hF 2
  | 37 => hF 32
  | 49 => hF 6
  | 56 => hF 40
  | 63 => hF 3
  | 64 => hF 39
  | _ => fun _ => .no
def gcs : Nat → Bool
  | 5 => true
  | 8 => true
  | 9 => true
  | 10 => true
  | 13 => true
  | 14 => true
  | 15 => true
  | 16 => true
  | 17 => true
  | 20 => true
  | 21 => true
  | 22 => true
  | 26 => true
  | 30 => true
  | 36 => true
  | 39 => true
  | 40 => true
  | 48 => true
  | 50 => true
  | 59 => true
  | _ => false
def spec (g : Nat) (args : List AV) : Option AV :=
  bif Nat.beq g 25 then match args with
    | [.d (.str s), .d (.str [c])] => some (.d (.bool (decide (0 ≤ Lib.indexByte s c))))
    | _ => none
  else none
noncomputable def E37 : Eenv := ⟨stdTab Tryd.prog hints gcs, spec, fun g => Nat.beq g 46⟩
theorem E37_ok : EnvOK Tryd.prog E37 := by
  refine ⟨stdTab_ok foll, ?_, ?_⟩
  · intro g args r h
    simp only [E37, spec] at h
    cases hg : Nat.beq g 25
    · rw [hg] at h; cases h
    · have := Nat.eq_of_beq_eq_true hg
      subst this
      rw [hg] at h
      simp only [cond_true] at h
      split at h
      · simp only [Option.some.injEq] at h; subst h; exact ⟨contains_one _ _, by kernel_rfl⟩
      · cases h
  · intro g h
    have : g = 46 := Nat.eq_of_beq_eq_true h
    subst this
    exact ⟨⟨Tryd.f46, Tryd.func46, by kernel_rfl, by kernel_rfl, by kernel_rfl, by kernel_rfl⟩, by kernel_rfl⟩
end Go.Proofs.YtegnibocbgngjaaDoor
