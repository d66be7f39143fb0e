/- Part of a proof about the functions of this seat. -/
import Derived.Shelf.LaysM
import Derived.Lib.LaidU8T
import Derived.MakeChecks
import Derived.KernelRfl
import Derived.Test.YtebejiilpedlmaaGreatDoorProg
import Derived.Test.YtebejiilpedlmaaGreatDoorRows
import Derived.Test.YtebejiilpedlmaaGreatDoorNvQ
set_option linter.unusedVariables false
set_option linter.unusedSimpArgs false
set_option maxRecDepth 100000
namespace Go.Proofs.YtebejiilpedlmaaGreatDoor
open Go.Shelf
def Tryz.lays196_ren : Go.Shelf.Ren := ⟨fun | 196 => 34 | 259 => 51 | n => n, fun | 9 => 9 | 4 => 4 | 3 => 3 | 5 => 5 | 12 => 12 | 119 => 80 | 0 => 0 | 46 => 73 | 139 => 83 | 138 => 82 | 53 => 101 | n => n, fun | 3 => 0 | 4 => 1 | n => n⟩
theorem Tryz.lays196 : Go.Proofs.Lays.n196 Tryz.prog Tryz.lays196_ren where
  mixed := by kernel_rfl
  f196 := Tryz.func34.trans (congrArg some (by kernel_rfl))
  f259 := Tryz.func51.trans (congrArg some (by kernel_rfl))
  t0 := Tryz.underlying0
  a0 := Tryz.isAgg0
  z0 := Tryz.sizeOf0
  v0 := Tryz.zeroValue0
  t3 := Tryz.underlying3
  a3 := Tryz.isAgg3
  z3 := Tryz.sizeOf3
  v3 := Tryz.zeroValue3
  t4 := Tryz.underlying4
  a4 := Tryz.isAgg4
  z4 := Tryz.sizeOf4
  v4 := Tryz.zeroValue4
  t5 := Tryz.underlying5
  a5 := Tryz.isAgg5
  z5 := Tryz.sizeOf5
  v5 := Tryz.zeroValue5
  t9 := Tryz.underlying9
  a9 := Tryz.isAgg9
  z9 := Tryz.sizeOf9
  v9 := Tryz.zeroValue9
  t12 := Tryz.underlying12
  a12 := Tryz.isAgg12
  z12 := Tryz.sizeOf12
  v12 := Tryz.zeroValue12
  t46 := Tryz.underlying73
  a46 := Tryz.isAgg73
  z46 := Tryz.sizeOf73
  v46 := Tryz.zeroValue73
  t53 := Tryz.underlying101
  a53 := Tryz.isAgg101
  z53 := Tryz.sizeOf101
  v53 := Tryz.zeroValue101
  t119 := Tryz.underlying80
  a119 := Tryz.isAgg80
  z119 := Tryz.sizeOf80
  t138 := Tryz.underlying82
  a138 := Tryz.isAgg82
  z138 := Tryz.sizeOf82
  v138 := Tryz.zeroValue82
  t139 := Tryz.underlying83
  a139 := Tryz.isAgg83
  z139 := Tryz.sizeOf83
  v139 := Tryz.zeroValue83
  g3 := by kernel_rfl
  g4 := by kernel_rfl
open Go.RowKit Go.Lib Nv
theorem extraU8 : U8Extra Tryz.prog Tryz.lays196_ren where
  n3 := by kernel_rfl
  n4 := by kernel_rfl
  y3 := by kernel_rfl
  y4 := by kernel_rfl
  c5 := by kernel_rfl
  c119 := by kernel_rfl
  c138 := by kernel_rfl
theorem cell_lt {w : Go.World} {a : Go.Addr} {v : Go.Value} (h : w.cell? a = some v) : a.block < w.heap.size := by
  rcases Nat.lt_or_ge a.block w.heap.size with h' | h'
  · exact h'
  · simp [Go.World.cell?, Array.getElem?_eq_none h'] at h
theorem tabs_of_laid {w : Go.World} {l : List (String × Go.DataW Unit)} (h : Go.laidMet Tryz.prog l w) (h3 : ("unicode/utf8.first", firstData) ∈ l) (h4 : ("unicode/utf8.acceptRanges", acceptData) ∈ l) :
    Tabs Tryz.prog (fun b => b < w.heap.size) w := by
  have hT := utf8Tabs_of_readsT (U8Types.of196 Tryz.lays196) extraU8 (laidMet.reads h h3) (laidMet.reads h h4)
  refine ⟨fun g3 g4 e3 e4 => ?_⟩
  obtain rfl := Option.some.inj (extraU8.n3.symm.trans e3)
  obtain rfl := Option.some.inj (extraU8.n4.symm.trans e4)
  exact ⟨cell_lt (hT.1 0 (by decide)), cell_lt (hT.2 0 (by decide)).1, hT.1, hT.2⟩
theorem first_eq : Rows.laid_unicode_utf8_first = firstData := by kernel_rfl
theorem accept_eq : (Rows.laid_unicode_utf8_acceptRanges : Go.DataW Unit) = acceptData := by kernel_rfl

end Go.Proofs.YtebejiilpedlmaaGreatDoor
