/- The prepared code of further functions. Written by a program of mine (gen.py) out of what the loaded dump prints. -/
import Derived.Test.YtebejiilpedlmaaDoorBase3d
set_option linter.unusedVariables false
set_option maxRecDepth 100000
namespace Go.Proofs.YtebejiilpedlmaaDoor
open Go Nv

/-- narrator.narratorlaw31.PatternCanonical -/
theorem fn3 : FnIs Tryd.prog 3 1 [Go.ResultVar.tmp 2] (.seq (.region [⟨some 2, Go.Op.assign (Go.Operand.const (Go.Value.bool false)), 4, none⟩])
    (.seq (.seq (.region [⟨some 11, Go.Op.move (Go.Operand.tmp 0), 9, none⟩,
      ⟨some 12, Go.Op.call { callee := Go.Callee.builtin Go.Builtin.len, args := #[Go.Operand.tmp 11], argTypes := #[9] }, 3, none⟩,
      ⟨some 13, Go.Op.binOp Go.BinOp.gtr 3 (Go.Operand.tmp 12) (Go.Operand.const (Go.Value.int Go.IntKind.i64 100)) 3, 4, none⟩])
    (.cond (Go.Operand.tmp 13)
      (.seq (.region [⟨some 14, Go.Op.call { callee := Go.Callee.value (Go.Operand.func 4), args := #[], argTypes := #[] }, 4, none⟩,
        ⟨some 2, Go.Op.assign (Go.Operand.tmp 14), 4, none⟩])
      .ret)
      .skip))
    (.seq (.region [⟨some 16, Go.Op.move (Go.Operand.tmp 0), 9, none⟩,
      ⟨some 17, Go.Op.call { callee := Go.Callee.value (Go.Operand.func 5), args := #[Go.Operand.tmp 16], argTypes := #[9] }, 28, none⟩,
      ⟨some 15, Go.Op.move (Go.Operand.tmp 17), 28, none⟩,
      ⟨some 18, Go.Op.extract (Go.Operand.tmp 15) 0, 26, none⟩,
      ⟨some 19, Go.Op.extract (Go.Operand.tmp 15) 1, 27, none⟩,
      ⟨some 3, Go.Op.alloc 26, 0, none⟩,
      ⟨none, Go.Op.store 26 (Go.Operand.tmp 3) (Go.Operand.tmp 18), 0, none⟩,
      ⟨some 4, Go.Op.assign (Go.Operand.tmp 19), 27, none⟩])
    (.seq (.seq (.region [⟨some 20, Go.Op.move (Go.Operand.tmp 4), 27, none⟩,
      ⟨some 21, Go.Op.binOp Go.BinOp.neq 27 (Go.Operand.tmp 20) (Go.Operand.const (Go.Value.int Go.IntKind.i64 0)) 27, 4, none⟩])
    (.cond (Go.Operand.tmp 21)
      (.seq (.region [⟨some 22, Go.Op.call { callee := Go.Callee.value (Go.Operand.func 4), args := #[], argTypes := #[] }, 4, none⟩,
        ⟨some 2, Go.Op.assign (Go.Operand.tmp 22), 4, none⟩])
      .ret)
      .skip))
    (.seq (.seq (.region [⟨some 23, Go.Op.load 26 (Go.Operand.tmp 3), 26, none⟩,
      ⟨some 24, Go.Op.call { callee := Go.Callee.value (Go.Operand.func 6), args := #[Go.Operand.tmp 23], argTypes := #[26] }, 27, none⟩,
      ⟨some 25, Go.Op.binOp Go.BinOp.neq 27 (Go.Operand.tmp 24) (Go.Operand.const (Go.Value.int Go.IntKind.i64 0)) 27, 4, none⟩])
    (.cond (Go.Operand.tmp 25)
      (.seq (.region [⟨some 2, Go.Op.assign (Go.Operand.const (Go.Value.bool false)), 4, none⟩])
      .ret)
      .skip))
    (.seq (.region [⟨some 27, Go.Op.load 26 (Go.Operand.tmp 3), 26, none⟩,
      ⟨some 28, Go.Op.call { callee := Go.Callee.value (Go.Operand.func 7), args := #[Go.Operand.tmp 27], argTypes := #[26] }, 31, none⟩,
      ⟨some 26, Go.Op.move (Go.Operand.tmp 28), 31, none⟩,
      ⟨some 29, Go.Op.extract (Go.Operand.tmp 26) 0, 9, none⟩,
      ⟨some 30, Go.Op.extract (Go.Operand.tmp 26) 1, 27, none⟩,
      ⟨some 5, Go.Op.assign (Go.Operand.tmp 29), 9, none⟩,
      ⟨some 6, Go.Op.assign (Go.Operand.tmp 30), 27, none⟩])
    (.seq (.seq (.region [⟨some 31, Go.Op.move (Go.Operand.tmp 6), 27, none⟩,
      ⟨some 32, Go.Op.binOp Go.BinOp.neq 27 (Go.Operand.tmp 31) (Go.Operand.const (Go.Value.int Go.IntKind.i64 0)) 27, 4, none⟩])
    (.cond (Go.Operand.tmp 32)
      (.seq (.region [⟨some 33, Go.Op.move (Go.Operand.tmp 6), 27, none⟩,
        ⟨some 34, Go.Op.binOp Go.BinOp.eql 27 (Go.Operand.tmp 33) (Go.Operand.const (Go.Value.int Go.IntKind.i64 5)) 27, 4, none⟩,
        ⟨some 35, Go.Op.move (Go.Operand.tmp 34), 4, none⟩,
        ⟨some 36, Go.Op.call { callee := Go.Callee.value (Go.Operand.func 4), args := #[], argTypes := #[] }, 4, (some (35, true))⟩,
        ⟨some 37, Go.Op.pick (Go.Operand.tmp 35) (Go.Operand.tmp 36) (Go.Operand.const (Go.Value.bool false)), 4, none⟩,
        ⟨some 2, Go.Op.assign (Go.Operand.tmp 37), 4, none⟩])
      .ret)
      .skip))
    (.seq (.region [⟨some 39, Go.Op.move (Go.Operand.tmp 5), 9, none⟩,
      ⟨some 40, Go.Op.call { callee := Go.Callee.value (Go.Operand.func 5), args := #[Go.Operand.tmp 39], argTypes := #[9] }, 28, none⟩,
      ⟨some 38, Go.Op.move (Go.Operand.tmp 40), 28, none⟩,
      ⟨some 41, Go.Op.extract (Go.Operand.tmp 38) 0, 26, none⟩,
      ⟨some 42, Go.Op.extract (Go.Operand.tmp 38) 1, 27, none⟩,
      ⟨some 7, Go.Op.alloc 26, 0, none⟩,
      ⟨none, Go.Op.store 26 (Go.Operand.tmp 7) (Go.Operand.tmp 41), 0, none⟩,
      ⟨some 8, Go.Op.assign (Go.Operand.tmp 42), 27, none⟩])
    (.seq (.region [⟨some 44, Go.Op.load 26 (Go.Operand.tmp 7), 26, none⟩,
      ⟨some 45, Go.Op.call { callee := Go.Callee.value (Go.Operand.func 7), args := #[Go.Operand.tmp 44], argTypes := #[26] }, 31, none⟩,
      ⟨some 43, Go.Op.move (Go.Operand.tmp 45), 31, none⟩,
      ⟨some 46, Go.Op.extract (Go.Operand.tmp 43) 0, 9, none⟩,
      ⟨some 47, Go.Op.extract (Go.Operand.tmp 43) 1, 27, none⟩,
      ⟨some 9, Go.Op.assign (Go.Operand.tmp 46), 9, none⟩,
      ⟨some 10, Go.Op.assign (Go.Operand.tmp 47), 27, none⟩])
    (.seq (.region [⟨some 48, Go.Op.move (Go.Operand.tmp 8), 27, none⟩,
      ⟨some 49, Go.Op.binOp Go.BinOp.eql 27 (Go.Operand.tmp 48) (Go.Operand.const (Go.Value.int Go.IntKind.i64 0)) 27, 4, none⟩,
      ⟨some 50, Go.Op.move (Go.Operand.tmp 49), 4, none⟩,
      ⟨some 51, Go.Op.move (Go.Operand.tmp 10), 27, (some (50, true))⟩,
      ⟨some 52, Go.Op.binOp Go.BinOp.eql 27 (Go.Operand.tmp 51) (Go.Operand.const (Go.Value.int Go.IntKind.i64 0)) 27, 4, (some (50, true))⟩,
      ⟨some 53, Go.Op.pick (Go.Operand.tmp 50) (Go.Operand.tmp 52) (Go.Operand.const (Go.Value.bool false)), 4, none⟩,
      ⟨some 54, Go.Op.move (Go.Operand.tmp 53), 4, none⟩,
      ⟨some 55, Go.Op.load 26 (Go.Operand.tmp 7), 26, (some (54, true))⟩,
      ⟨some 56, Go.Op.load 26 (Go.Operand.tmp 3), 26, (some (54, true))⟩,
      ⟨some 57, Go.Op.call { callee := Go.Callee.value (Go.Operand.func 8), args := #[Go.Operand.tmp 55, Go.Operand.tmp 56], argTypes := #[26, 26] }, 4, (some (54, true))⟩,
      ⟨some 58, Go.Op.pick (Go.Operand.tmp 54) (Go.Operand.tmp 57) (Go.Operand.const (Go.Value.bool false)), 4, none⟩,
      ⟨some 59, Go.Op.move (Go.Operand.tmp 58), 4, none⟩,
      ⟨some 60, Go.Op.move (Go.Operand.tmp 9), 9, (some (59, true))⟩,
      ⟨some 61, Go.Op.move (Go.Operand.tmp 5), 9, (some (59, true))⟩,
      ⟨some 62, Go.Op.binOp Go.BinOp.eql 9 (Go.Operand.tmp 60) (Go.Operand.tmp 61) 9, 4, (some (59, true))⟩,
      ⟨some 63, Go.Op.pick (Go.Operand.tmp 59) (Go.Operand.tmp 62) (Go.Operand.const (Go.Value.bool false)), 4, none⟩,
      ⟨some 64, Go.Op.move (Go.Operand.tmp 63), 4, none⟩,
      ⟨some 65, Go.Op.call { callee := Go.Callee.value (Go.Operand.func 4), args := #[], argTypes := #[] }, 4, (some (64, true))⟩,
      ⟨some 66, Go.Op.pick (Go.Operand.tmp 64) (Go.Operand.tmp 65) (Go.Operand.const (Go.Value.bool false)), 4, none⟩,
      ⟨some 2, Go.Op.assign (Go.Operand.tmp 66), 4, none⟩])
    .ret)))))))))) :=
  ⟨foll, Tryd.f3, Tryd.func3, by kernel_rfl, by kernel_rfl, by kernel_rfl, by rw [Tryd.ntmps3]; decide⟩

/-- narrator.narratorref31.Same -/
theorem fn8 : FnIs Tryd.prog 8 2 [Go.ResultVar.tmp 4] (.seq (.region [⟨some 2, Go.Op.box 26 (Go.Operand.tmp 0), 0, none⟩,
      ⟨some 3, Go.Op.box 26 (Go.Operand.tmp 1), 0, none⟩,
      ⟨some 4, Go.Op.assign (Go.Operand.const (Go.Value.bool false)), 4, none⟩])
    (.seq (.seq (.region [⟨some 7, Go.Op.fieldAddr 26 (Go.Operand.tmp 2) 0, 0, none⟩,
      ⟨some 8, Go.Op.load 3 (Go.Operand.tmp 7), 3, none⟩,
      ⟨some 9, Go.Op.fieldAddr 26 (Go.Operand.tmp 3) 0, 0, none⟩,
      ⟨some 10, Go.Op.load 3 (Go.Operand.tmp 9), 3, none⟩,
      ⟨some 11, Go.Op.binOp Go.BinOp.neq 3 (Go.Operand.tmp 8) (Go.Operand.tmp 10) 3, 4, none⟩,
      ⟨some 12, Go.Op.move (Go.Operand.tmp 11), 4, none⟩,
      ⟨some 13, Go.Op.fieldAddr 26 (Go.Operand.tmp 2) 3, 0, (some (12, false))⟩,
      ⟨some 14, Go.Op.load 3 (Go.Operand.tmp 13), 3, (some (12, false))⟩,
      ⟨some 15, Go.Op.fieldAddr 26 (Go.Operand.tmp 3) 3, 0, (some (12, false))⟩,
      ⟨some 16, Go.Op.load 3 (Go.Operand.tmp 15), 3, (some (12, false))⟩,
      ⟨some 17, Go.Op.binOp Go.BinOp.neq 3 (Go.Operand.tmp 14) (Go.Operand.tmp 16) 3, 4, (some (12, false))⟩,
      ⟨some 18, Go.Op.pick (Go.Operand.tmp 12) (Go.Operand.const (Go.Value.bool true)) (Go.Operand.tmp 17), 4, none⟩,
      ⟨some 19, Go.Op.move (Go.Operand.tmp 18), 4, none⟩,
      ⟨some 20, Go.Op.fieldAddr 26 (Go.Operand.tmp 2) 4, 0, (some (19, false))⟩,
      ⟨some 21, Go.Op.load 3 (Go.Operand.tmp 20), 3, (some (19, false))⟩,
      ⟨some 22, Go.Op.fieldAddr 26 (Go.Operand.tmp 3) 4, 0, (some (19, false))⟩,
      ⟨some 23, Go.Op.load 3 (Go.Operand.tmp 22), 3, (some (19, false))⟩,
      ⟨some 24, Go.Op.binOp Go.BinOp.neq 3 (Go.Operand.tmp 21) (Go.Operand.tmp 23) 3, 4, (some (19, false))⟩,
      ⟨some 25, Go.Op.pick (Go.Operand.tmp 19) (Go.Operand.const (Go.Value.bool true)) (Go.Operand.tmp 24), 4, none⟩,
      ⟨some 26, Go.Op.move (Go.Operand.tmp 25), 4, none⟩,
      ⟨some 27, Go.Op.fieldAddr 26 (Go.Operand.tmp 2) 1, 0, (some (26, false))⟩,
      ⟨some 28, Go.Op.load 23 (Go.Operand.tmp 27), 23, (some (26, false))⟩,
      ⟨some 29, Go.Op.call { callee := Go.Callee.builtin Go.Builtin.len, args := #[Go.Operand.tmp 28], argTypes := #[23] }, 3, (some (26, false))⟩,
      ⟨some 30, Go.Op.fieldAddr 26 (Go.Operand.tmp 3) 1, 0, (some (26, false))⟩,
      ⟨some 31, Go.Op.load 23 (Go.Operand.tmp 30), 23, (some (26, false))⟩,
      ⟨some 32, Go.Op.call { callee := Go.Callee.builtin Go.Builtin.len, args := #[Go.Operand.tmp 31], argTypes := #[23] }, 3, (some (26, false))⟩,
      ⟨some 33, Go.Op.binOp Go.BinOp.neq 3 (Go.Operand.tmp 29) (Go.Operand.tmp 32) 3, 4, (some (26, false))⟩,
      ⟨some 34, Go.Op.pick (Go.Operand.tmp 26) (Go.Operand.const (Go.Value.bool true)) (Go.Operand.tmp 33), 4, none⟩,
      ⟨some 35, Go.Op.move (Go.Operand.tmp 34), 4, none⟩,
      ⟨some 36, Go.Op.fieldAddr 26 (Go.Operand.tmp 2) 2, 0, (some (35, false))⟩,
      ⟨some 37, Go.Op.load 24 (Go.Operand.tmp 36), 24, (some (35, false))⟩,
      ⟨some 38, Go.Op.call { callee := Go.Callee.builtin Go.Builtin.len, args := #[Go.Operand.tmp 37], argTypes := #[24] }, 3, (some (35, false))⟩,
      ⟨some 39, Go.Op.fieldAddr 26 (Go.Operand.tmp 3) 2, 0, (some (35, false))⟩,
      ⟨some 40, Go.Op.load 24 (Go.Operand.tmp 39), 24, (some (35, false))⟩,
      ⟨some 41, Go.Op.call { callee := Go.Callee.builtin Go.Builtin.len, args := #[Go.Operand.tmp 40], argTypes := #[24] }, 3, (some (35, false))⟩,
      ⟨some 42, Go.Op.binOp Go.BinOp.neq 3 (Go.Operand.tmp 38) (Go.Operand.tmp 41) 3, 4, (some (35, false))⟩,
      ⟨some 43, Go.Op.pick (Go.Operand.tmp 35) (Go.Operand.const (Go.Value.bool true)) (Go.Operand.tmp 42), 4, none⟩])
    (.cond (Go.Operand.tmp 43)
      (.seq (.region [⟨some 4, Go.Op.assign (Go.Operand.const (Go.Value.bool false)), 4, none⟩])
      .ret)
      .skip))
    (.seq (.seq (.region [⟨some 5, Go.Op.assign (Go.Operand.const (Go.Value.int Go.IntKind.i64 0)), 3, none⟩])
    (.block 0
      (.loop
        (.seq (.seq (.region [⟨some 44, Go.Op.move (Go.Operand.tmp 5), 3, none⟩,
          ⟨some 45, Go.Op.fieldAddr 26 (Go.Operand.tmp 2) 1, 0, none⟩,
          ⟨some 46, Go.Op.load 23 (Go.Operand.tmp 45), 23, none⟩,
          ⟨some 47, Go.Op.call { callee := Go.Callee.builtin Go.Builtin.len, args := #[Go.Operand.tmp 46], argTypes := #[23] }, 3, none⟩,
          ⟨some 48, Go.Op.binOp Go.BinOp.lss 3 (Go.Operand.tmp 44) (Go.Operand.tmp 47) 3, 4, none⟩])
        (.cond (Go.Operand.tmp 48)
          .skip
          (.exit 0)))
        (.seq (.block 1
          (.seq (.draw [⟨⟨some 51, Go.Op.fieldAddr 26 (Go.Operand.tmp 2) 1, 0, none⟩, false, false, false⟩,
            ⟨⟨some 52, Go.Op.load 23 (Go.Operand.tmp 51), 23, none⟩, false, false, false⟩,
            ⟨⟨some 53, Go.Op.move (Go.Operand.tmp 5), 3, none⟩, false, false, false⟩,
            ⟨⟨some 54, Go.Op.indexAddr 23 (Go.Operand.tmp 52) (Go.Operand.tmp 53), 0, none⟩, false, false, false⟩,
            ⟨⟨some 55, Go.Op.load 48 (Go.Operand.tmp 54), 48, none⟩, false, false, false⟩,
            ⟨⟨some 56, Go.Op.fieldAddr 26 (Go.Operand.tmp 3) 1, 0, none⟩, false, false, false⟩,
            ⟨⟨some 57, Go.Op.load 23 (Go.Operand.tmp 56), 23, none⟩, false, false, false⟩,
            ⟨⟨some 58, Go.Op.move (Go.Operand.tmp 5), 3, none⟩, false, false, false⟩,
            ⟨⟨some 59, Go.Op.indexAddr 23 (Go.Operand.tmp 57) (Go.Operand.tmp 58), 0, none⟩, false, false, false⟩,
            ⟨⟨some 60, Go.Op.load 48 (Go.Operand.tmp 59), 48, none⟩, false, false, false⟩,
            ⟨⟨some 61, Go.Op.binOp Go.BinOp.neq 48 (Go.Operand.tmp 55) (Go.Operand.tmp 60) 48, 4, none⟩, false, false, false⟩])
          (.cond (Go.Operand.tmp 61)
            (.seq (.region [⟨some 4, Go.Op.assign (Go.Operand.const (Go.Value.bool false)), 4, none⟩])
            .ret)
            .skip)))
        (.region [⟨some 49, Go.Op.move (Go.Operand.tmp 5), 3, none⟩,
          ⟨some 50, Go.Op.binOp Go.BinOp.add 3 (Go.Operand.tmp 49) (Go.Operand.const (Go.Value.int Go.IntKind.i64 1)) 3, 3, none⟩,
          ⟨some 5, Go.Op.assign (Go.Operand.tmp 50), 3, none⟩]))))))
    (.seq (.seq (.region [⟨some 6, Go.Op.assign (Go.Operand.const (Go.Value.int Go.IntKind.i64 0)), 3, none⟩])
    (.block 2
      (.loop
        (.seq (.seq (.region [⟨some 62, Go.Op.move (Go.Operand.tmp 6), 3, none⟩,
          ⟨some 63, Go.Op.fieldAddr 26 (Go.Operand.tmp 2) 2, 0, none⟩,
          ⟨some 64, Go.Op.load 24 (Go.Operand.tmp 63), 24, none⟩,
          ⟨some 65, Go.Op.call { callee := Go.Callee.builtin Go.Builtin.len, args := #[Go.Operand.tmp 64], argTypes := #[24] }, 3, none⟩,
          ⟨some 66, Go.Op.binOp Go.BinOp.lss 3 (Go.Operand.tmp 62) (Go.Operand.tmp 65) 3, 4, none⟩])
        (.cond (Go.Operand.tmp 66)
          .skip
          (.exit 2)))
        (.seq (.block 3
          (.seq (.draw [⟨⟨some 69, Go.Op.fieldAddr 26 (Go.Operand.tmp 2) 2, 0, none⟩, false, false, false⟩,
            ⟨⟨some 70, Go.Op.load 24 (Go.Operand.tmp 69), 24, none⟩, false, false, false⟩,
            ⟨⟨some 71, Go.Op.move (Go.Operand.tmp 6), 3, none⟩, false, false, false⟩,
            ⟨⟨some 72, Go.Op.indexAddr 24 (Go.Operand.tmp 70) (Go.Operand.tmp 71), 0, none⟩, false, false, false⟩,
            ⟨⟨some 73, Go.Op.load 26 (Go.Operand.tmp 72), 26, none⟩, false, false, false⟩,
            ⟨⟨some 74, Go.Op.fieldAddr 26 (Go.Operand.tmp 3) 2, 0, none⟩, false, false, false⟩,
            ⟨⟨some 75, Go.Op.load 24 (Go.Operand.tmp 74), 24, none⟩, false, false, false⟩,
            ⟨⟨some 76, Go.Op.move (Go.Operand.tmp 6), 3, none⟩, false, false, false⟩,
            ⟨⟨some 77, Go.Op.indexAddr 24 (Go.Operand.tmp 75) (Go.Operand.tmp 76), 0, none⟩, false, false, false⟩,
            ⟨⟨some 78, Go.Op.load 26 (Go.Operand.tmp 77), 26, none⟩, false, false, false⟩,
            ⟨⟨some 79, Go.Op.call { callee := Go.Callee.value (Go.Operand.func 8), args := #[Go.Operand.tmp 73, Go.Operand.tmp 78], argTypes := #[26, 26] }, 4, none⟩, false, false, false⟩,
            ⟨⟨some 80, Go.Op.unOp Go.UnOp.not 4 (Go.Operand.tmp 79), 4, none⟩, false, false, false⟩])
          (.cond (Go.Operand.tmp 80)
            (.seq (.region [⟨some 4, Go.Op.assign (Go.Operand.const (Go.Value.bool false)), 4, none⟩])
            .ret)
            .skip)))
        (.region [⟨some 67, Go.Op.move (Go.Operand.tmp 6), 3, none⟩,
          ⟨some 68, Go.Op.binOp Go.BinOp.add 3 (Go.Operand.tmp 67) (Go.Operand.const (Go.Value.int Go.IntKind.i64 1)) 3, 3, none⟩,
          ⟨some 6, Go.Op.assign (Go.Operand.tmp 68), 3, none⟩]))))))
    (.seq (.region [⟨some 4, Go.Op.assign (Go.Operand.const (Go.Value.bool true)), 4, none⟩])
    .ret))))) :=
  ⟨foll, Tryd.f8, Tryd.func8, by kernel_rfl, by kernel_rfl, by kernel_rfl, by rw [Tryd.ntmps8]; decide⟩

/-- narrator.utf8stream.Valid -/
theorem fn10 : FnIs Tryd.prog 10 1 [Go.ResultVar.tmp 2] (.seq (.region [⟨some 2, Go.Op.assign (Go.Operand.const (Go.Value.bool false)), 4, none⟩])
    (.seq (.region [⟨some 3, Go.Op.move (Go.Operand.tmp 0), 9, none⟩,
      ⟨some 4, Go.Op.call { callee := Go.Callee.value (Go.Operand.func 20), args := #[Go.Operand.tmp 3], argTypes := #[9] }, 4, none⟩,
      ⟨some 2, Go.Op.assign (Go.Operand.tmp 4), 4, none⟩])
    .ret)) :=
  ⟨foll, Tryd.f10, Tryd.func10, by kernel_rfl, by kernel_rfl, by kernel_rfl, by rw [Tryd.ntmps10]; decide⟩

end Go.Proofs.YtebejiilpedlmaaDoor
