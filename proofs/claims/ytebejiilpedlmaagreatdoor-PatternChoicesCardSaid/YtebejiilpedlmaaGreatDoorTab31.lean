/- Part of a proof about the functions of this seat. -/
import Derived.Shelf.LaysM
import Derived.Lib.LaidU8T
import Derived.MakeChecks
import Derived.KernelRfl
import Derived.Test.YtebejiilpedlmaaGreatDoorProg
import Derived.Test.YtebejiilpedlmaaGreatDoorRows
import Derived.Test.YtebejiilpedlmaaGreatDoorNvR
set_option linter.unusedVariables false
set_option linter.unusedSimpArgs false
set_option maxRecDepth 100000
namespace Go.Proofs.YtebejiilpedlmaaGreatDoor
open Go.Shelf
def Tryz.lays196_ren : Go.Shelf.Ren := ⟨fun | 196 => 34 | 259 => 51 | n => n, fun | 9 => 9 | 4 => 4 | 3 => 3 | 5 => 5 | 12 => 12 | 119 => 80 | 0 => 0 | 46 => 73 | 139 => 83 | 138 => 82 | 53 => 101 | n => n, fun | 3 => 0 | 4 => 1 | n => n⟩
theorem Tryz.lays196 : Go.Proofs.Lays.n196 Tryz.prog Tryz.lays196_ren where
  mixed := by kernel_rfl
  f196 := Tryz.func34.trans (congrArg some (by kernel_rfl))
  f259 := Tryz.func51.trans (congrArg some (by kernel_rfl))
  t0 := Tryz.underlying0
  a0 := Tryz.isAgg0
  z0 := Tryz.sizeOf0
  v0 := Tryz.zeroValue0
  t3 := Tryz.underlying3
  a3 := Tryz.isAgg3
  z3 := Tryz.sizeOf3
  v3 := Tryz.zeroValue3
  t4 := Tryz.underlying4
  a4 := Tryz.isAgg4
  z4 := Tryz.sizeOf4
  v4 := Tryz.zeroValue4
  t5 := Tryz.underlying5
  a5 := Tryz.isAgg5
  z5 := Tryz.sizeOf5
  v5 := Tryz.zeroValue5
  t9 := Tryz.underlying9
  a9 := Tryz.isAgg9
  z9 := Tryz.sizeOf9
  v9 := Tryz.zeroValue9
  t12 := Tryz.underlying12
  a12 := Tryz.isAgg12
  z12 := Tryz.sizeOf12
  v12 := Tryz.zeroValue12
  t46 := Tryz.underlying73
  a46 := Tryz.isAgg73
  z46 := Tryz.sizeOf73
  v46 := Tryz.zeroValue73
  t53 := Tryz.underlying101
  a53 := Tryz.isAgg101
  z53 := Tryz.sizeOf101
  v53 := Tryz.zeroValue101
  t119 := Tryz.underlying80
  a119 := Tryz.isAgg80
  z119 := Tryz.sizeOf80
  t138 := Tryz.underlying82
  a138 := Tryz.isAgg82
  z138 := Tryz.sizeOf82
  v138 := Tryz.zeroValue82
  t139 := Tryz.underlying83
  a139 := Tryz.isAgg83
  z139 := Tryz.sizeOf83
  v139 := Tryz.zeroValue83
  g3 := by kernel_rfl
  g4 := by kernel_rfl
open Go.RowKit Go.Lib Nv
theorem extraU8 : U8Extra Tryz.prog Tryz.lays196_ren where
  n3 := by kernel_rfl
  n4 := by kernel_rfl
  y3 := by kernel_rfl
  y4 := by kernel_rfl
  c5 := by kernel_rfl
  c119 := by kernel_rfl
  c138 := by kernel_rfl
theorem globals_le {w : Go.World} (h : w.ShapedOpen Tryz.prog) : Tryz.prog.globals.size ≤ w.heap.size := by
  have hk : (((Go.begin Tryz.prog (fun _ _ => 0) default).world.heap[Tryz.prog.globals.size - 1]?).bind Go.Obj.row?).isSome = true := by kernel_rfl
  obtain ⟨⟨zero, t⟩, hz⟩ := Option.isSome_iff_exists.1 hk
  have hp : 0 < Tryz.prog.globals.size := of_decide_eq_true (by kernel_rfl)
  obtain ⟨cs, hc, _⟩ := h.1 (Tryz.prog.globals.size - 1) zero t (Nat.sub_lt hp Nat.one_pos) hz
  rcases Nat.lt_or_ge (Tryz.prog.globals.size - 1) w.heap.size with h' | h'
  · omega
  · rw [Array.getElem?_eq_none h'] at hc; cases hc
theorem tabs_of {w : Go.World} (hs : w.ShapedOpen Tryz.prog) (h : ∀ r : Go.Shelf.Ren, U8Types Tryz.prog r → U8Extra Tryz.prog r → Utf8Tabs (r.g 3) (r.g 4) w) : Tabs Tryz.prog (fun b => b < w.heap.size) w :=
  Tabs.of hs h (globals_le hs)
theorem first_eq : Rows.laid_unicode_utf8_first = firstData := by kernel_rfl
theorem accept_eq : (Rows.laid_unicode_utf8_acceptRanges : Go.DataW Unit) = acceptData := by kernel_rfl
end Go.Proofs.YtebejiilpedlmaaGreatDoor
