/- The prepared code of further functions. Written by a program of mine (gen.py) out of what the loaded dump prints. -/
import Derived.Test.YtebejiilpedlmaaGreatDoorBase31
set_option linter.unusedVariables false
set_option maxRecDepth 100000
namespace Go.Proofs.YtebejiilpedlmaaGreatDoor
open Go Nv

/-- narrator.narratorlaw31.PatternRoundTrip -/
theorem fn3 : FnIs Tryz.prog 3 1 [Go.ResultVar.tmp 2] (.seq (.region [⟨some 1, Go.Op.box 25 (Go.Operand.tmp 0), 0, none⟩,
      ⟨some 2, Go.Op.assign (Go.Operand.const (Go.Value.bool false)), 4, none⟩])
    (.seq (.seq (.region [⟨some 7, Go.Op.load 25 (Go.Operand.tmp 1), 25, none⟩,
      ⟨some 8, Go.Op.call { callee := Go.Callee.value (Go.Operand.func 10), args := #[Go.Operand.tmp 7], argTypes := #[25] }, 4, none⟩])
    (.cond (Go.Operand.tmp 8)
      (.seq (.region [⟨some 9, Go.Op.call { callee := Go.Callee.value (Go.Operand.func 11), args := #[], argTypes := #[] }, 4, none⟩,
        ⟨some 2, Go.Op.assign (Go.Operand.tmp 9), 4, none⟩])
      .ret)
      .skip))
    (.seq (.region [⟨some 11, Go.Op.load 25 (Go.Operand.tmp 1), 25, none⟩,
      ⟨some 12, Go.Op.call { callee := Go.Callee.value (Go.Operand.func 12), args := #[Go.Operand.tmp 11], argTypes := #[25] }, 29, none⟩,
      ⟨some 10, Go.Op.move (Go.Operand.tmp 12), 29, none⟩,
      ⟨some 13, Go.Op.extract (Go.Operand.tmp 10) 0, 9, none⟩,
      ⟨some 14, Go.Op.extract (Go.Operand.tmp 10) 1, 28, none⟩,
      ⟨some 3, Go.Op.assign (Go.Operand.tmp 13), 9, none⟩,
      ⟨some 4, Go.Op.assign (Go.Operand.tmp 14), 28, none⟩])
    (.seq (.seq (.region [⟨some 15, Go.Op.move (Go.Operand.tmp 4), 28, none⟩,
      ⟨some 16, Go.Op.binOp Go.BinOp.neq 28 (Go.Operand.tmp 15) (Go.Operand.const (Go.Value.int Go.IntKind.i64 0)) 28, 4, none⟩])
    (.cond (Go.Operand.tmp 16)
      (.seq (.region [⟨some 17, Go.Op.move (Go.Operand.tmp 3), 9, none⟩,
        ⟨some 18, Go.Op.binOp Go.BinOp.eql 9 (Go.Operand.tmp 17) (Go.Operand.const (Go.Value.string { data := #[] })) 9, 4, none⟩,
        ⟨some 19, Go.Op.move (Go.Operand.tmp 18), 4, none⟩,
        ⟨some 20, Go.Op.load 25 (Go.Operand.tmp 1), 25, (some (19, true))⟩,
        ⟨some 21, Go.Op.call { callee := Go.Callee.value (Go.Operand.func 13), args := #[Go.Operand.tmp 20], argTypes := #[25] }, 28, (some (19, true))⟩,
        ⟨some 22, Go.Op.move (Go.Operand.tmp 4), 28, (some (19, true))⟩,
        ⟨some 23, Go.Op.binOp Go.BinOp.eql 28 (Go.Operand.tmp 21) (Go.Operand.tmp 22) 28, 4, (some (19, true))⟩,
        ⟨some 24, Go.Op.move (Go.Operand.tmp 23), 4, (some (19, true))⟩,
        ⟨some 25, Go.Op.load 25 (Go.Operand.tmp 1), 25, (some (24, false))⟩,
        ⟨some 26, Go.Op.call { callee := Go.Callee.value (Go.Operand.func 13), args := #[Go.Operand.tmp 25], argTypes := #[25] }, 28, (some (24, false))⟩,
        ⟨some 27, Go.Op.binOp Go.BinOp.eql 28 (Go.Operand.tmp 26) (Go.Operand.const (Go.Value.int Go.IntKind.i64 0)) 28, 4, (some (24, false))⟩,
        ⟨some 28, Go.Op.move (Go.Operand.tmp 27), 4, (some (24, false))⟩,
        ⟨some 29, Go.Op.move (Go.Operand.tmp 4), 28, (some (28, true))⟩,
        ⟨some 30, Go.Op.binOp Go.BinOp.eql 28 (Go.Operand.tmp 29) (Go.Operand.const (Go.Value.int Go.IntKind.i64 5)) 28, 4, (some (28, true))⟩,
        ⟨some 31, Go.Op.pick (Go.Operand.tmp 28) (Go.Operand.tmp 30) (Go.Operand.const (Go.Value.bool false)), 4, (some (24, false))⟩,
        ⟨some 32, Go.Op.pick (Go.Operand.tmp 24) (Go.Operand.const (Go.Value.bool true)) (Go.Operand.tmp 31), 4, (some (19, true))⟩,
        ⟨some 33, Go.Op.pick (Go.Operand.tmp 19) (Go.Operand.tmp 32) (Go.Operand.const (Go.Value.bool false)), 4, none⟩,
        ⟨some 34, Go.Op.move (Go.Operand.tmp 33), 4, none⟩,
        ⟨some 35, Go.Op.call { callee := Go.Callee.value (Go.Operand.func 11), args := #[], argTypes := #[] }, 4, (some (34, true))⟩,
        ⟨some 36, Go.Op.pick (Go.Operand.tmp 34) (Go.Operand.tmp 35) (Go.Operand.const (Go.Value.bool false)), 4, none⟩,
        ⟨some 2, Go.Op.assign (Go.Operand.tmp 36), 4, none⟩])
      .ret)
      .skip))
    (.seq (.region [⟨some 38, Go.Op.move (Go.Operand.tmp 3), 9, none⟩,
      ⟨some 39, Go.Op.call { callee := Go.Callee.value (Go.Operand.func 14), args := #[Go.Operand.tmp 38], argTypes := #[9] }, 32, none⟩,
      ⟨some 37, Go.Op.move (Go.Operand.tmp 39), 32, none⟩,
      ⟨some 40, Go.Op.extract (Go.Operand.tmp 37) 0, 25, none⟩,
      ⟨some 41, Go.Op.extract (Go.Operand.tmp 37) 1, 28, none⟩,
      ⟨some 5, Go.Op.alloc 25, 0, none⟩,
      ⟨none, Go.Op.store 25 (Go.Operand.tmp 5) (Go.Operand.tmp 40), 0, none⟩,
      ⟨some 6, Go.Op.assign (Go.Operand.tmp 41), 28, none⟩])
    (.seq (.region [⟨some 42, Go.Op.move (Go.Operand.tmp 6), 28, none⟩,
      ⟨some 43, Go.Op.binOp Go.BinOp.eql 28 (Go.Operand.tmp 42) (Go.Operand.const (Go.Value.int Go.IntKind.i64 0)) 28, 4, none⟩,
      ⟨some 44, Go.Op.move (Go.Operand.tmp 43), 4, none⟩,
      ⟨some 45, Go.Op.load 25 (Go.Operand.tmp 5), 25, (some (44, true))⟩,
      ⟨some 46, Go.Op.load 25 (Go.Operand.tmp 1), 25, (some (44, true))⟩,
      ⟨some 47, Go.Op.call { callee := Go.Callee.value (Go.Operand.func 15), args := #[Go.Operand.tmp 45, Go.Operand.tmp 46], argTypes := #[25, 25] }, 4, (some (44, true))⟩,
      ⟨some 48, Go.Op.pick (Go.Operand.tmp 44) (Go.Operand.tmp 47) (Go.Operand.const (Go.Value.bool false)), 4, none⟩,
      ⟨some 49, Go.Op.move (Go.Operand.tmp 48), 4, none⟩,
      ⟨some 50, Go.Op.move (Go.Operand.tmp 3), 9, (some (49, true))⟩,
      ⟨some 51, Go.Op.call { callee := Go.Callee.builtin Go.Builtin.len, args := #[Go.Operand.tmp 50], argTypes := #[9] }, 3, (some (49, true))⟩,
      ⟨some 52, Go.Op.binOp Go.BinOp.leq 3 (Go.Operand.tmp 51) (Go.Operand.const (Go.Value.int Go.IntKind.i64 60)) 3, 4, (some (49, true))⟩,
      ⟨some 53, Go.Op.pick (Go.Operand.tmp 49) (Go.Operand.tmp 52) (Go.Operand.const (Go.Value.bool false)), 4, none⟩,
      ⟨some 54, Go.Op.move (Go.Operand.tmp 53), 4, none⟩,
      ⟨some 55, Go.Op.call { callee := Go.Callee.value (Go.Operand.func 11), args := #[], argTypes := #[] }, 4, (some (54, true))⟩,
      ⟨some 56, Go.Op.pick (Go.Operand.tmp 54) (Go.Operand.tmp 55) (Go.Operand.const (Go.Value.bool false)), 4, none⟩,
      ⟨some 2, Go.Op.assign (Go.Operand.tmp 56), 4, none⟩])
    .ret)))))) :=
  ⟨foll, Tryz.f3, Tryz.func3, by kernel_rfl, by kernel_rfl, by kernel_rfl, by rw [Tryz.ntmps3]; decide⟩

/-- narrator.narratorref31.Same -/
theorem fn15 : FnIs Tryz.prog 15 2 [Go.ResultVar.tmp 4] (.seq (.region [⟨some 2, Go.Op.box 25 (Go.Operand.tmp 0), 0, none⟩,
      ⟨some 3, Go.Op.box 25 (Go.Operand.tmp 1), 0, none⟩,
      ⟨some 4, Go.Op.assign (Go.Operand.const (Go.Value.bool false)), 4, none⟩])
    (.seq (.seq (.region [⟨some 7, Go.Op.fieldAddr 25 (Go.Operand.tmp 2) 0, 0, none⟩,
      ⟨some 8, Go.Op.load 3 (Go.Operand.tmp 7), 3, none⟩,
      ⟨some 9, Go.Op.fieldAddr 25 (Go.Operand.tmp 3) 0, 0, none⟩,
      ⟨some 10, Go.Op.load 3 (Go.Operand.tmp 9), 3, none⟩,
      ⟨some 11, Go.Op.binOp Go.BinOp.neq 3 (Go.Operand.tmp 8) (Go.Operand.tmp 10) 3, 4, none⟩,
      ⟨some 12, Go.Op.move (Go.Operand.tmp 11), 4, none⟩,
      ⟨some 13, Go.Op.fieldAddr 25 (Go.Operand.tmp 2) 3, 0, (some (12, false))⟩,
      ⟨some 14, Go.Op.load 3 (Go.Operand.tmp 13), 3, (some (12, false))⟩,
      ⟨some 15, Go.Op.fieldAddr 25 (Go.Operand.tmp 3) 3, 0, (some (12, false))⟩,
      ⟨some 16, Go.Op.load 3 (Go.Operand.tmp 15), 3, (some (12, false))⟩,
      ⟨some 17, Go.Op.binOp Go.BinOp.neq 3 (Go.Operand.tmp 14) (Go.Operand.tmp 16) 3, 4, (some (12, false))⟩,
      ⟨some 18, Go.Op.pick (Go.Operand.tmp 12) (Go.Operand.const (Go.Value.bool true)) (Go.Operand.tmp 17), 4, none⟩,
      ⟨some 19, Go.Op.move (Go.Operand.tmp 18), 4, none⟩,
      ⟨some 20, Go.Op.fieldAddr 25 (Go.Operand.tmp 2) 4, 0, (some (19, false))⟩,
      ⟨some 21, Go.Op.load 3 (Go.Operand.tmp 20), 3, (some (19, false))⟩,
      ⟨some 22, Go.Op.fieldAddr 25 (Go.Operand.tmp 3) 4, 0, (some (19, false))⟩,
      ⟨some 23, Go.Op.load 3 (Go.Operand.tmp 22), 3, (some (19, false))⟩,
      ⟨some 24, Go.Op.binOp Go.BinOp.neq 3 (Go.Operand.tmp 21) (Go.Operand.tmp 23) 3, 4, (some (19, false))⟩,
      ⟨some 25, Go.Op.pick (Go.Operand.tmp 19) (Go.Operand.const (Go.Value.bool true)) (Go.Operand.tmp 24), 4, none⟩,
      ⟨some 26, Go.Op.move (Go.Operand.tmp 25), 4, none⟩,
      ⟨some 27, Go.Op.fieldAddr 25 (Go.Operand.tmp 2) 1, 0, (some (26, false))⟩,
      ⟨some 28, Go.Op.load 22 (Go.Operand.tmp 27), 22, (some (26, false))⟩,
      ⟨some 29, Go.Op.call { callee := Go.Callee.builtin Go.Builtin.len, args := #[Go.Operand.tmp 28], argTypes := #[22] }, 3, (some (26, false))⟩,
      ⟨some 30, Go.Op.fieldAddr 25 (Go.Operand.tmp 3) 1, 0, (some (26, false))⟩,
      ⟨some 31, Go.Op.load 22 (Go.Operand.tmp 30), 22, (some (26, false))⟩,
      ⟨some 32, Go.Op.call { callee := Go.Callee.builtin Go.Builtin.len, args := #[Go.Operand.tmp 31], argTypes := #[22] }, 3, (some (26, false))⟩,
      ⟨some 33, Go.Op.binOp Go.BinOp.neq 3 (Go.Operand.tmp 29) (Go.Operand.tmp 32) 3, 4, (some (26, false))⟩,
      ⟨some 34, Go.Op.pick (Go.Operand.tmp 26) (Go.Operand.const (Go.Value.bool true)) (Go.Operand.tmp 33), 4, none⟩,
      ⟨some 35, Go.Op.move (Go.Operand.tmp 34), 4, none⟩,
      ⟨some 36, Go.Op.fieldAddr 25 (Go.Operand.tmp 2) 2, 0, (some (35, false))⟩,
      ⟨some 37, Go.Op.load 23 (Go.Operand.tmp 36), 23, (some (35, false))⟩,
      ⟨some 38, Go.Op.call { callee := Go.Callee.builtin Go.Builtin.len, args := #[Go.Operand.tmp 37], argTypes := #[23] }, 3, (some (35, false))⟩,
      ⟨some 39, Go.Op.fieldAddr 25 (Go.Operand.tmp 3) 2, 0, (some (35, false))⟩,
      ⟨some 40, Go.Op.load 23 (Go.Operand.tmp 39), 23, (some (35, false))⟩,
      ⟨some 41, Go.Op.call { callee := Go.Callee.builtin Go.Builtin.len, args := #[Go.Operand.tmp 40], argTypes := #[23] }, 3, (some (35, false))⟩,
      ⟨some 42, Go.Op.binOp Go.BinOp.neq 3 (Go.Operand.tmp 38) (Go.Operand.tmp 41) 3, 4, (some (35, false))⟩,
      ⟨some 43, Go.Op.pick (Go.Operand.tmp 35) (Go.Operand.const (Go.Value.bool true)) (Go.Operand.tmp 42), 4, none⟩])
    (.cond (Go.Operand.tmp 43)
      (.seq (.region [⟨some 4, Go.Op.assign (Go.Operand.const (Go.Value.bool false)), 4, none⟩])
      .ret)
      .skip))
    (.seq (.seq (.region [⟨some 5, Go.Op.assign (Go.Operand.const (Go.Value.int Go.IntKind.i64 0)), 3, none⟩])
    (.block 0
      (.loop
        (.seq (.seq (.region [⟨some 44, Go.Op.move (Go.Operand.tmp 5), 3, none⟩,
          ⟨some 45, Go.Op.fieldAddr 25 (Go.Operand.tmp 2) 1, 0, none⟩,
          ⟨some 46, Go.Op.load 22 (Go.Operand.tmp 45), 22, none⟩,
          ⟨some 47, Go.Op.call { callee := Go.Callee.builtin Go.Builtin.len, args := #[Go.Operand.tmp 46], argTypes := #[22] }, 3, none⟩,
          ⟨some 48, Go.Op.binOp Go.BinOp.lss 3 (Go.Operand.tmp 44) (Go.Operand.tmp 47) 3, 4, none⟩])
        (.cond (Go.Operand.tmp 48)
          .skip
          (.exit 0)))
        (.seq (.block 1
          (.seq (.draw [⟨⟨some 51, Go.Op.fieldAddr 25 (Go.Operand.tmp 2) 1, 0, none⟩, false, false, false⟩,
            ⟨⟨some 52, Go.Op.load 22 (Go.Operand.tmp 51), 22, none⟩, false, false, false⟩,
            ⟨⟨some 53, Go.Op.move (Go.Operand.tmp 5), 3, none⟩, false, false, false⟩,
            ⟨⟨some 54, Go.Op.indexAddr 22 (Go.Operand.tmp 52) (Go.Operand.tmp 53), 0, none⟩, false, false, false⟩,
            ⟨⟨some 55, Go.Op.load 44 (Go.Operand.tmp 54), 44, none⟩, false, false, false⟩,
            ⟨⟨some 56, Go.Op.fieldAddr 25 (Go.Operand.tmp 3) 1, 0, none⟩, false, false, false⟩,
            ⟨⟨some 57, Go.Op.load 22 (Go.Operand.tmp 56), 22, none⟩, false, false, false⟩,
            ⟨⟨some 58, Go.Op.move (Go.Operand.tmp 5), 3, none⟩, false, false, false⟩,
            ⟨⟨some 59, Go.Op.indexAddr 22 (Go.Operand.tmp 57) (Go.Operand.tmp 58), 0, none⟩, false, false, false⟩,
            ⟨⟨some 60, Go.Op.load 44 (Go.Operand.tmp 59), 44, none⟩, false, false, false⟩,
            ⟨⟨some 61, Go.Op.binOp Go.BinOp.neq 44 (Go.Operand.tmp 55) (Go.Operand.tmp 60) 44, 4, none⟩, false, false, false⟩])
          (.cond (Go.Operand.tmp 61)
            (.seq (.region [⟨some 4, Go.Op.assign (Go.Operand.const (Go.Value.bool false)), 4, none⟩])
            .ret)
            .skip)))
        (.region [⟨some 49, Go.Op.move (Go.Operand.tmp 5), 3, none⟩,
          ⟨some 50, Go.Op.binOp Go.BinOp.add 3 (Go.Operand.tmp 49) (Go.Operand.const (Go.Value.int Go.IntKind.i64 1)) 3, 3, none⟩,
          ⟨some 5, Go.Op.assign (Go.Operand.tmp 50), 3, none⟩]))))))
    (.seq (.seq (.region [⟨some 6, Go.Op.assign (Go.Operand.const (Go.Value.int Go.IntKind.i64 0)), 3, none⟩])
    (.block 2
      (.loop
        (.seq (.seq (.region [⟨some 62, Go.Op.move (Go.Operand.tmp 6), 3, none⟩,
          ⟨some 63, Go.Op.fieldAddr 25 (Go.Operand.tmp 2) 2, 0, none⟩,
          ⟨some 64, Go.Op.load 23 (Go.Operand.tmp 63), 23, none⟩,
          ⟨some 65, Go.Op.call { callee := Go.Callee.builtin Go.Builtin.len, args := #[Go.Operand.tmp 64], argTypes := #[23] }, 3, none⟩,
          ⟨some 66, Go.Op.binOp Go.BinOp.lss 3 (Go.Operand.tmp 62) (Go.Operand.tmp 65) 3, 4, none⟩])
        (.cond (Go.Operand.tmp 66)
          .skip
          (.exit 2)))
        (.seq (.block 3
          (.seq (.draw [⟨⟨some 69, Go.Op.fieldAddr 25 (Go.Operand.tmp 2) 2, 0, none⟩, false, false, false⟩,
            ⟨⟨some 70, Go.Op.load 23 (Go.Operand.tmp 69), 23, none⟩, false, false, false⟩,
            ⟨⟨some 71, Go.Op.move (Go.Operand.tmp 6), 3, none⟩, false, false, false⟩,
            ⟨⟨some 72, Go.Op.indexAddr 23 (Go.Operand.tmp 70) (Go.Operand.tmp 71), 0, none⟩, false, false, false⟩,
            ⟨⟨some 73, Go.Op.load 25 (Go.Operand.tmp 72), 25, none⟩, false, false, false⟩,
            ⟨⟨some 74, Go.Op.fieldAddr 25 (Go.Operand.tmp 3) 2, 0, none⟩, false, false, false⟩,
            ⟨⟨some 75, Go.Op.load 23 (Go.Operand.tmp 74), 23, none⟩, false, false, false⟩,
            ⟨⟨some 76, Go.Op.move (Go.Operand.tmp 6), 3, none⟩, false, false, false⟩,
            ⟨⟨some 77, Go.Op.indexAddr 23 (Go.Operand.tmp 75) (Go.Operand.tmp 76), 0, none⟩, false, false, false⟩,
            ⟨⟨some 78, Go.Op.load 25 (Go.Operand.tmp 77), 25, none⟩, false, false, false⟩,
            ⟨⟨some 79, Go.Op.call { callee := Go.Callee.value (Go.Operand.func 15), args := #[Go.Operand.tmp 73, Go.Operand.tmp 78], argTypes := #[25, 25] }, 4, none⟩, false, false, false⟩,
            ⟨⟨some 80, Go.Op.unOp Go.UnOp.not 4 (Go.Operand.tmp 79), 4, none⟩, false, false, false⟩])
          (.cond (Go.Operand.tmp 80)
            (.seq (.region [⟨some 4, Go.Op.assign (Go.Operand.const (Go.Value.bool false)), 4, none⟩])
            .ret)
            .skip)))
        (.region [⟨some 67, Go.Op.move (Go.Operand.tmp 6), 3, none⟩,
          ⟨some 68, Go.Op.binOp Go.BinOp.add 3 (Go.Operand.tmp 67) (Go.Operand.const (Go.Value.int Go.IntKind.i64 1)) 3, 3, none⟩,
          ⟨some 6, Go.Op.assign (Go.Operand.tmp 68), 3, none⟩]))))))
    (.seq (.region [⟨some 4, Go.Op.assign (Go.Operand.const (Go.Value.bool true)), 4, none⟩])
    .ret))))) :=
  ⟨foll, Tryz.f15, Tryz.func15, by kernel_rfl, by kernel_rfl, by kernel_rfl, by rw [Tryz.ntmps15]; decide⟩

/-- narrator.utf8stream.Valid -/
theorem fn18 : FnIs Tryz.prog 18 1 [Go.ResultVar.tmp 2] (.seq (.region [⟨some 2, Go.Op.assign (Go.Operand.const (Go.Value.bool false)), 4, none⟩])
    (.seq (.region [⟨some 3, Go.Op.move (Go.Operand.tmp 0), 9, none⟩,
      ⟨some 4, Go.Op.call { callee := Go.Callee.value (Go.Operand.func 34), args := #[Go.Operand.tmp 3], argTypes := #[9] }, 4, none⟩,
      ⟨some 2, Go.Op.assign (Go.Operand.tmp 4), 4, none⟩])
    .ret)) :=
  ⟨foll, Tryz.f18, Tryz.func18, by kernel_rfl, by kernel_rfl, by kernel_rfl, by rw [Tryz.ntmps18]; decide⟩

end Go.Proofs.YtebejiilpedlmaaGreatDoor
