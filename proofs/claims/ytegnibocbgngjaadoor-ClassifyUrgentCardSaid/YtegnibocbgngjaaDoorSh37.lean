/- Part of a proof about the functions of this seat. -/
import Derived.Shelf.Lay
import Derived.Shelf.Strings.Search1
import Derived.Shelf.Strings.Search2
import Derived.Shelf.Strings.Search3
import Derived.Shelf.LaysM
import Derived.Shelf.Strings.Shaped
import Derived.Test.YtegnibocbgngjaaDoorProg
import Derived.Test.YtegnibocbgngjaaDoorNvQ
namespace Go.Proofs.YtegnibocbgngjaaDoor
open Go.Shelf
shelf_lay Lays.n144 Nm 144 at Tryd as Tryd.lays144
open Go.RowKit Go.Lib Nv
theorem contains_one (s : List UInt8) (c : UInt8) : PCall Tryd.prog 25 [.d (.str s), .d (.str [c])] (.d (.bool (decide (0 ≤ Lib.indexByte s c)))) :=
  .of_calls' rfl rfl fun w => Any.strings_Contains_one Tryd.lays144 ⟨s.toArray⟩ c w
end Go.Proofs.YtegnibocbgngjaaDoor
