/- Part of a proof about the functions of this seat. -/
import Derived.Shelf.Strings.Search3
import Derived.Shelf.LaysM
import Derived.Shelf.Vars
import Derived.KernelRfl
import Derived.Test.YtebejiilpedlmaaDoorProg
import Derived.Test.YtebejiilpedlmaaDoorNvPQ
set_option linter.unusedVariables false
set_option maxRecDepth 100000
namespace Go.Proofs.YtebejiilpedlmaaDoor
open Go.Shelf
def Tryd.laysm144_ren : Go.Shelf.Ren := ⟨fun | 144 => 48 | 143 => 54 | 219 => 62 | 217 => 70 | 225 => 71 | 224 => 72 | 267 => 73 | 266 => 82 | 314 => 83 | n => n, fun | 9 => 9 | 4 => 4 | 3 => 3 | 5 => 5 | 46 => 63 | 146 => 118 | 51 => 113 | n => n, fun | 1 => 2 | n => n⟩
theorem Tryd.laysm144 : Go.Proofs.LaysM.n144 Tryd.prog Tryd.laysm144_ren where
  mixed := by kernel_rfl
  f143 := Tryd.func54.trans (congrArg some (by kernel_rfl))
  f144 := Tryd.func48.trans (congrArg some (by kernel_rfl))
  f217 := Tryd.func70.trans (congrArg some (by kernel_rfl))
  f219 := Tryd.func62.trans (congrArg some (by kernel_rfl))
  f224 := Tryd.func72.trans (congrArg some (by kernel_rfl))
  f225 := Tryd.func71.trans (congrArg some (by kernel_rfl))
  f266 := Tryd.func82.trans (congrArg some (by kernel_rfl))
  f267 := Tryd.func73.trans (congrArg some (by kernel_rfl))
  f314 := Tryd.func83.trans (congrArg some (by kernel_rfl))
  t3 := Tryd.underlying3
  a3 := Tryd.isAgg3
  z3 := Tryd.sizeOf3
  v3 := Tryd.zeroValue3
  t4 := Tryd.underlying4
  a4 := Tryd.isAgg4
  z4 := Tryd.sizeOf4
  v4 := Tryd.zeroValue4
  t5 := Tryd.underlying5
  a5 := Tryd.isAgg5
  z5 := Tryd.sizeOf5
  v5 := Tryd.zeroValue5
  t9 := Tryd.underlying9
  a9 := Tryd.isAgg9
  z9 := Tryd.sizeOf9
  v9 := Tryd.zeroValue9
  t46 := Tryd.underlying63
  a46 := Tryd.isAgg63
  z46 := Tryd.sizeOf63
  v46 := Tryd.zeroValue63
  t51 := Tryd.underlying113
  a51 := Tryd.isAgg113
  z51 := Tryd.sizeOf113
  v51 := Tryd.zeroValue113
  t146 := Tryd.underlying118
  a146 := Tryd.isAgg118
  z146 := Tryd.sizeOf118
  v146 := Tryd.zeroValue118
  g1 := by kernel_rfl
  i3 := by kernel_rfl
  i4 := by kernel_rfl
  i5 := by kernel_rfl
  i9 := by kernel_rfl
  i46 := by kernel_rfl
  i51 := by kernel_rfl
  i146 := by kernel_rfl
  m1 := by kernel_rfl
  s1_3 := fun w h => Go.Proofs.cell_of_shapedOpen_int (zero := #[.int .i64 0]) (t := 3) h (of_decide_eq_true (by kernel_rfl)) (by kernel_rfl) rfl (by kernel_rfl) (by kernel_rfl) Tryd.underlying3
open Go.RowKit Go.Lib Nv
theorem contains_all (s t : List UInt8) (hs : s.length < 4294967281) : PCall Tryd.prog 48 [.d (.str s), .d (.str t)] (.d (.bool (Lib.contains s t))) :=
  .of_callsT rfl rfl fun w I hT => by
    have hm : ∃ m, w.cell? ⟨Tryd.laysm144_ren.g 1, 0, none⟩ = some (.int .i64 m) :=
      hT.cell (g := Tryd.laysm144_ren.g 1) (of_decide_eq_true (by kernel_rfl)) (Q := fun v => ∃ m, v = some (.int .i64 m)) fun w0 h => Tryd.laysm144.s1_3 w0 h
    obtain ⟨m, hm⟩ := hm
    exact (Any.strings_Contains { Tryd.laysm144 with } ⟨s.toArray⟩ ⟨t.toArray⟩ m w (by simpa [ByteArray.size] using hs) hm).mono fun e w' ⟨h1, h2⟩ => ⟨h1, h2 ▸ Below.refl _ _⟩
end Go.Proofs.YtebejiilpedlmaaDoor
