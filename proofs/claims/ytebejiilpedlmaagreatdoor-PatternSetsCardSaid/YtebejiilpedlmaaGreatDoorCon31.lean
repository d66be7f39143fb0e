/- Part of a proof about the functions of this seat. -/
import Derived.Shelf.Strings.Search3
import Derived.Shelf.LaysM
import Derived.Shelf.Vars
import Derived.KernelRfl
import Derived.Test.YtebejiilpedlmaaGreatDoorProg
import Derived.Test.YtebejiilpedlmaaGreatDoorNvPQ
set_option linter.unusedVariables false
set_option maxRecDepth 100000
namespace Go.Proofs.YtebejiilpedlmaaGreatDoor
open Go.Shelf
def Tryz.laysm144_ren : Go.Shelf.Ren := ⟨fun | 144 => 72 | 143 => 80 | 219 => 86 | 217 => 95 | 225 => 96 | 224 => 97 | 267 => 98 | 266 => 107 | 314 => 108 | n => n, fun | 9 => 9 | 4 => 4 | 3 => 3 | 5 => 5 | 46 => 73 | 146 => 131 | 51 => 86 | n => n, fun | 1 => 2 | n => n⟩
theorem Tryz.laysm144 : Go.Proofs.LaysM.n144 Tryz.prog Tryz.laysm144_ren where
  mixed := by kernel_rfl
  f143 := Tryz.func80.trans (congrArg some (by kernel_rfl))
  f144 := Tryz.func72.trans (congrArg some (by kernel_rfl))
  f217 := Tryz.func95.trans (congrArg some (by kernel_rfl))
  f219 := Tryz.func86.trans (congrArg some (by kernel_rfl))
  f224 := Tryz.func97.trans (congrArg some (by kernel_rfl))
  f225 := Tryz.func96.trans (congrArg some (by kernel_rfl))
  f266 := Tryz.func107.trans (congrArg some (by kernel_rfl))
  f267 := Tryz.func98.trans (congrArg some (by kernel_rfl))
  f314 := Tryz.func108.trans (congrArg some (by kernel_rfl))
  t3 := Tryz.underlying3
  a3 := Tryz.isAgg3
  z3 := Tryz.sizeOf3
  v3 := Tryz.zeroValue3
  t4 := Tryz.underlying4
  a4 := Tryz.isAgg4
  z4 := Tryz.sizeOf4
  v4 := Tryz.zeroValue4
  t5 := Tryz.underlying5
  a5 := Tryz.isAgg5
  z5 := Tryz.sizeOf5
  v5 := Tryz.zeroValue5
  t9 := Tryz.underlying9
  a9 := Tryz.isAgg9
  z9 := Tryz.sizeOf9
  v9 := Tryz.zeroValue9
  t46 := Tryz.underlying73
  a46 := Tryz.isAgg73
  z46 := Tryz.sizeOf73
  v46 := Tryz.zeroValue73
  t51 := Tryz.underlying86
  a51 := Tryz.isAgg86
  z51 := Tryz.sizeOf86
  v51 := Tryz.zeroValue86
  t146 := Tryz.underlying131
  a146 := Tryz.isAgg131
  z146 := Tryz.sizeOf131
  v146 := Tryz.zeroValue131
  g1 := by kernel_rfl
  i3 := by kernel_rfl
  i4 := by kernel_rfl
  i5 := by kernel_rfl
  i9 := by kernel_rfl
  i46 := by kernel_rfl
  i51 := by kernel_rfl
  i146 := by kernel_rfl
  m1 := by kernel_rfl
  s1_3 := fun w h => Go.Proofs.cell_of_shapedOpen_int (zero := #[.int .i64 0]) (t := 3) h (of_decide_eq_true (by kernel_rfl)) (by kernel_rfl) rfl (by kernel_rfl) (by kernel_rfl) Tryz.underlying3
open Go.RowKit Go.Lib Nv
theorem contains_all (s t : List UInt8) (hs : s.length < 4294967281) : PCall Tryz.prog 72 [.d (.str s), .d (.str t)] (.d (.bool (Lib.contains s t))) :=
  .of_callsT rfl rfl fun w I hT => by
    have hm : ∃ m, w.cell? ⟨Tryz.laysm144_ren.g 1, 0, none⟩ = some (.int .i64 m) :=
      hT.cell (g := Tryz.laysm144_ren.g 1) (of_decide_eq_true (by kernel_rfl)) (Q := fun v => ∃ m, v = some (.int .i64 m)) fun w0 h => Tryz.laysm144.s1_3 w0 h
    obtain ⟨m, hm⟩ := hm
    exact (Any.strings_Contains { Tryz.laysm144 with } ⟨s.toArray⟩ ⟨t.toArray⟩ m w (by simpa [ByteArray.size] using hs) hm).mono fun e w' ⟨h1, h2⟩ => ⟨h1, h2 ▸ Below.refl _ _⟩
end Go.Proofs.YtebejiilpedlmaaGreatDoor
