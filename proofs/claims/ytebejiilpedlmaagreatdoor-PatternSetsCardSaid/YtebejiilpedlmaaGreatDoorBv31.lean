/- The prepared code of further functions. Written by a program of mine (gen.py) out of what the loaded dump prints. -/
import Derived.Test.YtebejiilpedlmaaGreatDoorBase31
set_option linter.unusedVariables false
set_option maxRecDepth 100000
namespace Go.Proofs.YtebejiilpedlmaaGreatDoor
open Go Nv

/-- narrator.utf8stream.Valid -/
theorem fn18 : FnIs Tryz.prog 18 1 [Go.ResultVar.tmp 2] (.seq (.region [⟨some 2, Go.Op.assign (Go.Operand.const (Go.Value.bool false)), 4, none⟩])
    (.seq (.region [⟨some 3, Go.Op.move (Go.Operand.tmp 0), 9, none⟩,
      ⟨some 4, Go.Op.call { callee := Go.Callee.value (Go.Operand.func 34), args := #[Go.Operand.tmp 3], argTypes := #[9] }, 4, none⟩,
      ⟨some 2, Go.Op.assign (Go.Operand.tmp 4), 4, none⟩])
    .ret)) :=
  ⟨foll, Tryz.f18, Tryz.func18, by kernel_rfl, by kernel_rfl, by kernel_rfl, by rw [Tryz.ntmps18]; decide⟩

end Go.Proofs.YtebejiilpedlmaaGreatDoor
