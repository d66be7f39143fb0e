/- Part of a proof about the functions of this seat. -/
import Derived.Shelf.LaysM
import Derived.Lib.LaidU8T
import Derived.MakeChecks
import Derived.KernelRfl
import Derived.Test.YtebejiilpedlmaaDoorProg
import Derived.Test.YtebejiilpedlmaaDoorRows
import Derived.Test.YtebejiilpedlmaaDoorNvR
set_option linter.unusedVariables false
set_option linter.unusedSimpArgs false
set_option maxRecDepth 100000
namespace Go.Proofs.YtebejiilpedlmaaDoor
open Go.Shelf
def Tryd.lays196_ren : Go.Shelf.Ren := ⟨fun | 196 => 20 | 259 => 33 | n => n, fun | 9 => 9 | 4 => 4 | 3 => 3 | 5 => 5 | 12 => 12 | 119 => 70 | 0 => 0 | 46 => 63 | 139 => 73 | 138 => 72 | 53 => 89 | n => n, fun | 3 => 0 | 4 => 1 | n => n⟩
theorem Tryd.lays196 : Go.Proofs.Lays.n196 Tryd.prog Tryd.lays196_ren where
  mixed := by kernel_rfl
  f196 := Tryd.func20.trans (congrArg some (by kernel_rfl))
  f259 := Tryd.func33.trans (congrArg some (by kernel_rfl))
  t0 := Tryd.underlying0
  a0 := Tryd.isAgg0
  z0 := Tryd.sizeOf0
  v0 := Tryd.zeroValue0
  t3 := Tryd.underlying3
  a3 := Tryd.isAgg3
  z3 := Tryd.sizeOf3
  v3 := Tryd.zeroValue3
  t4 := Tryd.underlying4
  a4 := Tryd.isAgg4
  z4 := Tryd.sizeOf4
  v4 := Tryd.zeroValue4
  t5 := Tryd.underlying5
  a5 := Tryd.isAgg5
  z5 := Tryd.sizeOf5
  v5 := Tryd.zeroValue5
  t9 := Tryd.underlying9
  a9 := Tryd.isAgg9
  z9 := Tryd.sizeOf9
  v9 := Tryd.zeroValue9
  t12 := Tryd.underlying12
  a12 := Tryd.isAgg12
  z12 := Tryd.sizeOf12
  v12 := Tryd.zeroValue12
  t46 := Tryd.underlying63
  a46 := Tryd.isAgg63
  z46 := Tryd.sizeOf63
  v46 := Tryd.zeroValue63
  t53 := Tryd.underlying89
  a53 := Tryd.isAgg89
  z53 := Tryd.sizeOf89
  v53 := Tryd.zeroValue89
  t119 := Tryd.underlying70
  a119 := Tryd.isAgg70
  z119 := Tryd.sizeOf70
  t138 := Tryd.underlying72
  a138 := Tryd.isAgg72
  z138 := Tryd.sizeOf72
  v138 := Tryd.zeroValue72
  t139 := Tryd.underlying73
  a139 := Tryd.isAgg73
  z139 := Tryd.sizeOf73
  v139 := Tryd.zeroValue73
  g3 := by kernel_rfl
  g4 := by kernel_rfl
open Go.RowKit Go.Lib Nv
theorem extraU8 : U8Extra Tryd.prog Tryd.lays196_ren where
  n3 := by kernel_rfl
  n4 := by kernel_rfl
  y3 := by kernel_rfl
  y4 := by kernel_rfl
  c5 := by kernel_rfl
  c119 := by kernel_rfl
  c138 := by kernel_rfl
theorem globals_le {w : Go.World} (h : w.ShapedOpen Tryd.prog) : Tryd.prog.globals.size ≤ w.heap.size := by
  have hk : (((Go.begin Tryd.prog (fun _ _ => 0) default).world.heap[Tryd.prog.globals.size - 1]?).bind Go.Obj.row?).isSome = true := by kernel_rfl
  obtain ⟨⟨zero, t⟩, hz⟩ := Option.isSome_iff_exists.1 hk
  have hp : 0 < Tryd.prog.globals.size := of_decide_eq_true (by kernel_rfl)
  obtain ⟨cs, hc, _⟩ := h.1 (Tryd.prog.globals.size - 1) zero t (Nat.sub_lt hp Nat.one_pos) hz
  rcases Nat.lt_or_ge (Tryd.prog.globals.size - 1) w.heap.size with h' | h'
  · omega
  · rw [Array.getElem?_eq_none h'] at hc; cases hc
theorem tabs_of {w : Go.World} (hs : w.ShapedOpen Tryd.prog) (h : ∀ r : Go.Shelf.Ren, U8Types Tryd.prog r → U8Extra Tryd.prog r → Utf8Tabs (r.g 3) (r.g 4) w) : Tabs Tryd.prog (fun b => b < w.heap.size) w :=
  Tabs.of hs h (globals_le hs)
theorem first_eq : Rows.laid_unicode_utf8_first = firstData := by kernel_rfl
theorem accept_eq : (Rows.laid_unicode_utf8_acceptRanges : Go.DataW Unit) = acceptData := by kernel_rfl
end Go.Proofs.YtebejiilpedlmaaDoor
