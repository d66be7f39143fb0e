/- Part of a proof about the functions of this seat. -/
import Derived.Test.YtebejiilpedlmaaGreatDoorTab31
import Derived.Shelf.Unicode.ValidAny
set_option linter.unusedVariables false
set_option linter.unusedSimpArgs false
set_option maxRecDepth 100000
namespace Go.Proofs.YtebejiilpedlmaaGreatDoor
open Go.RowKit Go.Lib Nv
theorem valid18 (s : List UInt8) (hs : s.length ≤ 9223372036854775807) : PCall Tryz.prog 34 [.d (.str s)] (.d (.bool (Lib.validD s))) :=
  .of_callsT rfl rfl fun w I hT => Any.utf8_ValidString Tryz.lays196 ⟨s.toArray⟩ w (by simpa [ByteArray.size] using hs) (hT.utf8 (U8Types.of196 Tryz.lays196) extraU8)
end Go.Proofs.YtebejiilpedlmaaGreatDoor
