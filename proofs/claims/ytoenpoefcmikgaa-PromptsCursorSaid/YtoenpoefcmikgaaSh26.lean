/- Part of a proof about the functions of this seat. -/
import Derived.Shelf.Strings.Search1
import Derived.Shelf.Strings.Search2
import Derived.Shelf.Strings.Search3
import Derived.Shelf.LaysM
import Derived.Shelf.Strings.Shaped
import Derived.Test.YtoenpoefcmikgaaProg
import Derived.Test.YtoenpoefcmikgaaNvQ
namespace Go.Proofs.Ytoenpoefcmikgaa
open Go.Shelf
def Try.lays144_ren : Go.Shelf.Ren := ⟨fun | 144 => 34 | 143 => 38 | 219 => 41 | 217 => 43 | 225 => 44 | 224 => 45 | 267 => 46 | 266 => 47 | 314 => 48 | n => n, fun | 9 => 9 | 4 => 4 | 3 => 3 | 5 => 5 | 46 => 65 | 146 => 67 | 51 => 66 | n => n, fun | 1 => 0 | n => n⟩
theorem Try.lays144 : Go.Proofs.Lays.n144 Try.prog Try.lays144_ren where
  mixed := by kernel_rfl
  f143 := Try.func38.trans (congrArg some (by kernel_rfl))
  f144 := Try.func34.trans (congrArg some (by kernel_rfl))
  f217 := Try.func43.trans (congrArg some (by kernel_rfl))
  f219 := Try.func41.trans (congrArg some (by kernel_rfl))
  f224 := Try.func45.trans (congrArg some (by kernel_rfl))
  f225 := Try.func44.trans (congrArg some (by kernel_rfl))
  f266 := Try.func47.trans (congrArg some (by kernel_rfl))
  f267 := Try.func46.trans (congrArg some (by kernel_rfl))
  f314 := Try.func48.trans (congrArg some (by kernel_rfl))
  t3 := Try.underlying3
  a3 := Try.isAgg3
  z3 := Try.sizeOf3
  v3 := Try.zeroValue3
  t4 := Try.underlying4
  a4 := Try.isAgg4
  z4 := Try.sizeOf4
  v4 := Try.zeroValue4
  t5 := Try.underlying5
  a5 := Try.isAgg5
  z5 := Try.sizeOf5
  v5 := Try.zeroValue5
  t9 := Try.underlying9
  a9 := Try.isAgg9
  z9 := Try.sizeOf9
  v9 := Try.zeroValue9
  t46 := Try.underlying65
  a46 := Try.isAgg65
  z46 := Try.sizeOf65
  v46 := Try.zeroValue65
  t51 := Try.underlying66
  a51 := Try.isAgg66
  z51 := Try.sizeOf66
  v51 := Try.zeroValue66
  t146 := Try.underlying67
  a146 := Try.isAgg67
  z146 := Try.sizeOf67
  v146 := Try.zeroValue67
  g1 := by kernel_rfl
open Go.RowKit Go.Lib Nv
theorem contains_one (s : List UInt8) (c : UInt8) : PCall Try.prog 34 [.d (.str s), .d (.str [c])] (.d (.bool (decide (0 ≤ Lib.indexByte s c)))) :=
  .of_calls' rfl rfl fun w => Any.strings_Contains_one Try.lays144 ⟨s.toArray⟩ c w
end Go.Proofs.Ytoenpoefcmikgaa
