/- The prepared code of further functions. Written by a program of mine (gen.py) out of what the loaded dump prints. -/
import Derived.Test.YtebejiilpedlmaaGreatDoorG09Base31
set_option linter.unusedVariables false
set_option maxRecDepth 100000
namespace Go.Proofs.YtebejiilpedlmaaGreatDoor
open Go Nv

/-- narrator.narratorlaw31.PatternChoices -/
theorem fn4 : FnIs Tryz.prog 4 2 [Go.ResultVar.tmp 4] (.seq (.region [⟨some 4, Go.Op.assign (Go.Operand.const (Go.Value.bool false)), 4, none⟩])
    (.seq (.seq (.region [⟨some 10, Go.Op.move (Go.Operand.tmp 0), 23, none⟩,
      ⟨some 11, Go.Op.call { callee := Go.Callee.builtin Go.Builtin.len, args := #[Go.Operand.tmp 10], argTypes := #[23] }, 3, none⟩,
      ⟨some 12, Go.Op.binOp Go.BinOp.lss 3 (Go.Operand.tmp 11) (Go.Operand.const (Go.Value.int Go.IntKind.i64 2)) 3, 4, none⟩,
      ⟨some 13, Go.Op.move (Go.Operand.tmp 12), 4, none⟩,
      ⟨some 14, Go.Op.move (Go.Operand.tmp 0), 23, (some (13, false))⟩,
      ⟨some 15, Go.Op.call { callee := Go.Callee.builtin Go.Builtin.len, args := #[Go.Operand.tmp 14], argTypes := #[23] }, 3, (some (13, false))⟩,
      ⟨some 16, Go.Op.binOp Go.BinOp.gtr 3 (Go.Operand.tmp 15) (Go.Operand.const (Go.Value.int Go.IntKind.i64 8)) 3, 4, (some (13, false))⟩,
      ⟨some 17, Go.Op.pick (Go.Operand.tmp 13) (Go.Operand.const (Go.Value.bool true)) (Go.Operand.tmp 16), 4, none⟩])
    (.cond (Go.Operand.tmp 17)
      (.seq (.region [⟨some 18, Go.Op.call { callee := Go.Callee.value (Go.Operand.func 11), args := #[], argTypes := #[] }, 4, none⟩,
        ⟨some 4, Go.Op.assign (Go.Operand.tmp 18), 4, none⟩])
      .ret)
      .skip))
    (.seq (.region [⟨some 5, Go.Op.assign (Go.Operand.const (Go.Value.slice none 0 0)), 23, none⟩])
    (.seq (.region [⟨some 6, Go.Op.assign (Go.Operand.const (Go.Value.bool false)), 4, none⟩])
    (.seq (.seq (.region [⟨some 19, Go.Op.move (Go.Operand.tmp 0), 23, none⟩,
      ⟨some 20, Go.Op.call { callee := Go.Callee.builtin Go.Builtin.len, args := #[Go.Operand.tmp 19], argTypes := #[23] }, 3, none⟩,
      ⟨some 21, Go.Op.binOp Go.BinOp.sub 3 (Go.Operand.tmp 20) (Go.Operand.const (Go.Value.int Go.IntKind.i64 1)) 3, 3, none⟩,
      ⟨some 7, Go.Op.assign (Go.Operand.tmp 21), 3, none⟩])
    (.block 0
      (.loop
        (.seq (.seq (.region [⟨some 22, Go.Op.move (Go.Operand.tmp 7), 3, none⟩,
          ⟨some 23, Go.Op.binOp Go.BinOp.geq 3 (Go.Operand.tmp 22) (Go.Operand.const (Go.Value.int Go.IntKind.i64 0)) 3, 4, none⟩])
        (.cond (Go.Operand.tmp 23)
          .skip
          (.exit 0)))
        (.seq (.block 1
          (.seq (.seq (.region [⟨some 26, Go.Op.move (Go.Operand.tmp 0), 23, none⟩,
            ⟨some 27, Go.Op.move (Go.Operand.tmp 7), 3, none⟩,
            ⟨some 28, Go.Op.indexAddr 23 (Go.Operand.tmp 26) (Go.Operand.tmp 27), 0, none⟩,
            ⟨some 29, Go.Op.load 25 (Go.Operand.tmp 28), 25, none⟩,
            ⟨some 30, Go.Op.move (Go.Operand.tmp 1), 9, none⟩,
            ⟨some 31, Go.Op.call { callee := Go.Callee.value (Go.Operand.func 16), args := #[Go.Operand.tmp 29, Go.Operand.tmp 30], argTypes := #[25, 9] }, 4, none⟩,
            ⟨some 32, Go.Op.move (Go.Operand.tmp 31), 4, none⟩,
            ⟨some 33, Go.Op.move (Go.Operand.tmp 0), 23, (some (32, false))⟩,
            ⟨some 34, Go.Op.move (Go.Operand.tmp 7), 3, (some (32, false))⟩,
            ⟨some 35, Go.Op.indexAddr 23 (Go.Operand.tmp 33) (Go.Operand.tmp 34), 0, (some (32, false))⟩,
            ⟨some 36, Go.Op.load 25 (Go.Operand.tmp 35), 25, (some (32, false))⟩,
            ⟨some 37, Go.Op.call { callee := Go.Callee.value (Go.Operand.func 13), args := #[Go.Operand.tmp 36], argTypes := #[25] }, 28, (some (32, false))⟩,
            ⟨some 38, Go.Op.binOp Go.BinOp.neq 28 (Go.Operand.tmp 37) (Go.Operand.const (Go.Value.int Go.IntKind.i64 0)) 28, 4, (some (32, false))⟩,
            ⟨some 39, Go.Op.pick (Go.Operand.tmp 32) (Go.Operand.const (Go.Value.bool true)) (Go.Operand.tmp 38), 4, none⟩])
          (.cond (Go.Operand.tmp 39)
            (.seq (.region [⟨some 40, Go.Op.call { callee := Go.Callee.value (Go.Operand.func 11), args := #[], argTypes := #[] }, 4, none⟩,
              ⟨some 4, Go.Op.assign (Go.Operand.tmp 40), 4, none⟩])
            .ret)
            .skip))
          (.seq (.region [⟨some 41, Go.Op.move (Go.Operand.tmp 5), 23, none⟩,
            ⟨some 42, Go.Op.move (Go.Operand.tmp 0), 23, none⟩,
            ⟨some 43, Go.Op.move (Go.Operand.tmp 7), 3, none⟩,
            ⟨some 44, Go.Op.indexAddr 23 (Go.Operand.tmp 42) (Go.Operand.tmp 43), 0, none⟩,
            ⟨some 45, Go.Op.load 25 (Go.Operand.tmp 44), 25, none⟩,
            ⟨some 46, Go.Op.buildSlice 23 1 #[(0, Go.Operand.tmp 45)], 23, none⟩,
            ⟨some 47, Go.Op.call { callee := Go.Callee.builtin Go.Builtin.append, args := #[Go.Operand.tmp 41, Go.Operand.tmp 46], argTypes := #[23, 23] }, 23, none⟩,
            ⟨some 5, Go.Op.assign (Go.Operand.tmp 47), 23, none⟩])
          (.region [⟨some 48, Go.Op.move (Go.Operand.tmp 6), 4, none⟩,
            ⟨some 49, Go.Op.move (Go.Operand.tmp 48), 4, none⟩,
            ⟨some 50, Go.Op.move (Go.Operand.tmp 0), 23, (some (49, false))⟩,
            ⟨some 51, Go.Op.move (Go.Operand.tmp 7), 3, (some (49, false))⟩,
            ⟨some 52, Go.Op.indexAddr 23 (Go.Operand.tmp 50) (Go.Operand.tmp 51), 0, (some (49, false))⟩,
            ⟨some 53, Go.Op.load 25 (Go.Operand.tmp 52), 25, (some (49, false))⟩,
            ⟨some 54, Go.Op.move (Go.Operand.tmp 1), 9, (some (49, false))⟩,
            ⟨some 55, Go.Op.call { callee := Go.Callee.value (Go.Operand.func 17), args := #[Go.Operand.tmp 53, Go.Operand.tmp 54], argTypes := #[25, 9] }, 4, (some (49, false))⟩,
            ⟨some 56, Go.Op.pick (Go.Operand.tmp 49) (Go.Operand.const (Go.Value.bool true)) (Go.Operand.tmp 55), 4, none⟩,
            ⟨some 6, Go.Op.assign (Go.Operand.tmp 56), 4, none⟩]))))
        (.region [⟨some 24, Go.Op.move (Go.Operand.tmp 7), 3, none⟩,
          ⟨some 25, Go.Op.binOp Go.BinOp.sub 3 (Go.Operand.tmp 24) (Go.Operand.const (Go.Value.int Go.IntKind.i64 1)) 3, 3, none⟩,
          ⟨some 7, Go.Op.assign (Go.Operand.tmp 25), 3, none⟩]))))))
    (.seq (.region [⟨some 57, Go.Op.move (Go.Operand.tmp 0), 23, none⟩,
      ⟨some 58, Go.Op.build 25 #[(0, Go.Operand.const (Go.Value.int Go.IntKind.i64 4)), (2, Go.Operand.tmp 57)], 25, none⟩,
      ⟨some 59, Go.Op.move (Go.Operand.tmp 5), 23, none⟩,
      ⟨some 60, Go.Op.build 25 #[(0, Go.Operand.const (Go.Value.int Go.IntKind.i64 4)), (2, Go.Operand.tmp 59)], 25, none⟩,
      ⟨some 8, Go.Op.alloc 25, 0, none⟩,
      ⟨some 9, Go.Op.alloc 25, 0, none⟩,
      ⟨none, Go.Op.store 25 (Go.Operand.tmp 8) (Go.Operand.tmp 58), 0, none⟩,
      ⟨none, Go.Op.store 25 (Go.Operand.tmp 9) (Go.Operand.tmp 60), 0, none⟩])
    (.seq (.seq (.region [⟨some 61, Go.Op.load 25 (Go.Operand.tmp 8), 25, none⟩,
      ⟨some 62, Go.Op.call { callee := Go.Callee.value (Go.Operand.func 13), args := #[Go.Operand.tmp 61], argTypes := #[25] }, 28, none⟩,
      ⟨some 63, Go.Op.binOp Go.BinOp.neq 28 (Go.Operand.tmp 62) (Go.Operand.const (Go.Value.int Go.IntKind.i64 0)) 28, 4, none⟩])
    (.cond (Go.Operand.tmp 63)
      (.seq (.region [⟨some 64, Go.Op.call { callee := Go.Callee.value (Go.Operand.func 11), args := #[], argTypes := #[] }, 4, none⟩,
        ⟨some 4, Go.Op.assign (Go.Operand.tmp 64), 4, none⟩])
      .ret)
      .skip))
    (.seq (.region [⟨some 65, Go.Op.load 25 (Go.Operand.tmp 8), 25, none⟩,
      ⟨some 66, Go.Op.move (Go.Operand.tmp 1), 9, none⟩,
      ⟨some 67, Go.Op.call { callee := Go.Callee.value (Go.Operand.func 17), args := #[Go.Operand.tmp 65, Go.Operand.tmp 66], argTypes := #[25, 9] }, 4, none⟩,
      ⟨some 68, Go.Op.move (Go.Operand.tmp 6), 4, none⟩,
      ⟨some 69, Go.Op.binOp Go.BinOp.eql 4 (Go.Operand.tmp 67) (Go.Operand.tmp 68) 4, 4, none⟩,
      ⟨some 70, Go.Op.move (Go.Operand.tmp 69), 4, none⟩,
      ⟨some 71, Go.Op.load 25 (Go.Operand.tmp 9), 25, (some (70, true))⟩,
      ⟨some 72, Go.Op.move (Go.Operand.tmp 1), 9, (some (70, true))⟩,
      ⟨some 73, Go.Op.call { callee := Go.Callee.value (Go.Operand.func 17), args := #[Go.Operand.tmp 71, Go.Operand.tmp 72], argTypes := #[25, 9] }, 4, (some (70, true))⟩,
      ⟨some 74, Go.Op.move (Go.Operand.tmp 6), 4, (some (70, true))⟩,
      ⟨some 75, Go.Op.binOp Go.BinOp.eql 4 (Go.Operand.tmp 73) (Go.Operand.tmp 74) 4, 4, (some (70, true))⟩,
      ⟨some 76, Go.Op.pick (Go.Operand.tmp 70) (Go.Operand.tmp 75) (Go.Operand.const (Go.Value.bool false)), 4, none⟩,
      ⟨some 77, Go.Op.move (Go.Operand.tmp 76), 4, none⟩,
      ⟨some 78, Go.Op.call { callee := Go.Callee.value (Go.Operand.func 11), args := #[], argTypes := #[] }, 4, (some (77, true))⟩,
      ⟨some 79, Go.Op.pick (Go.Operand.tmp 77) (Go.Operand.tmp 78) (Go.Operand.const (Go.Value.bool false)), 4, none⟩,
      ⟨some 4, Go.Op.assign (Go.Operand.tmp 79), 4, none⟩])
    .ret)))))))) :=
  ⟨foll, Tryz.f4, Tryz.func4, by kernel_rfl, by kernel_rfl, by kernel_rfl, by rw [Tryz.ntmps4]; decide⟩

/-- narrator.narratorlaw31.PatternRepeats -/
theorem fn6 : FnIs Tryz.prog 6 4 [Go.ResultVar.tmp 8] (.seq (.region [⟨some 4, Go.Op.box 25 (Go.Operand.tmp 0), 0, none⟩,
      ⟨some 8, Go.Op.assign (Go.Operand.const (Go.Value.bool false)), 4, none⟩])
    (.seq (.region [⟨some 16, Go.Op.move (Go.Operand.tmp 1), 5, none⟩,
      ⟨some 17, Go.Op.convert 5 3 (Go.Operand.tmp 16), 3, none⟩,
      ⟨some 18, Go.Op.binOp Go.BinOp.rem 3 (Go.Operand.tmp 17) (Go.Operand.const (Go.Value.int Go.IntKind.i64 3)) 3, 3, none⟩,
      ⟨some 9, Go.Op.assign (Go.Operand.tmp 18), 3, none⟩])
    (.seq (.region [⟨some 19, Go.Op.move (Go.Operand.tmp 9), 3, none⟩,
      ⟨some 20, Go.Op.move (Go.Operand.tmp 2), 5, none⟩,
      ⟨some 21, Go.Op.convert 5 3 (Go.Operand.tmp 20), 3, none⟩,
      ⟨some 22, Go.Op.binOp Go.BinOp.rem 3 (Go.Operand.tmp 21) (Go.Operand.const (Go.Value.int Go.IntKind.i64 3)) 3, 3, none⟩,
      ⟨some 23, Go.Op.binOp Go.BinOp.add 3 (Go.Operand.tmp 19) (Go.Operand.tmp 22) 3, 3, none⟩,
      ⟨some 10, Go.Op.assign (Go.Operand.tmp 23), 3, none⟩])
    (.seq (.region [⟨some 24, Go.Op.load 25 (Go.Operand.tmp 4), 25, none⟩,
      ⟨some 25, Go.Op.buildSlice 23 1 #[(0, Go.Operand.tmp 24)], 23, none⟩,
      ⟨some 26, Go.Op.move (Go.Operand.tmp 9), 3, none⟩,
      ⟨some 27, Go.Op.move (Go.Operand.tmp 10), 3, none⟩,
      ⟨some 28, Go.Op.build 25 #[(0, Go.Operand.const (Go.Value.int Go.IntKind.i64 5)), (2, Go.Operand.tmp 25), (3, Go.Operand.tmp 26), (4, Go.Operand.tmp 27)], 25, none⟩,
      ⟨some 11, Go.Op.alloc 25, 0, none⟩,
      ⟨none, Go.Op.store 25 (Go.Operand.tmp 11) (Go.Operand.tmp 28), 0, none⟩])
    (.seq (.seq (.region [⟨some 29, Go.Op.load 25 (Go.Operand.tmp 11), 25, none⟩,
      ⟨some 30, Go.Op.move (Go.Operand.tmp 3), 9, none⟩,
      ⟨some 31, Go.Op.call { callee := Go.Callee.value (Go.Operand.func 16), args := #[Go.Operand.tmp 29, Go.Operand.tmp 30], argTypes := #[25, 9] }, 4, none⟩,
      ⟨some 32, Go.Op.move (Go.Operand.tmp 31), 4, none⟩,
      ⟨some 33, Go.Op.load 25 (Go.Operand.tmp 11), 25, (some (32, false))⟩,
      ⟨some 34, Go.Op.call { callee := Go.Callee.value (Go.Operand.func 13), args := #[Go.Operand.tmp 33], argTypes := #[25] }, 28, (some (32, false))⟩,
      ⟨some 35, Go.Op.binOp Go.BinOp.neq 28 (Go.Operand.tmp 34) (Go.Operand.const (Go.Value.int Go.IntKind.i64 0)) 28, 4, (some (32, false))⟩,
      ⟨some 36, Go.Op.pick (Go.Operand.tmp 32) (Go.Operand.const (Go.Value.bool true)) (Go.Operand.tmp 35), 4, none⟩])
    (.cond (Go.Operand.tmp 36)
      (.seq (.region [⟨some 37, Go.Op.call { callee := Go.Callee.value (Go.Operand.func 11), args := #[], argTypes := #[] }, 4, none⟩,
        ⟨some 8, Go.Op.assign (Go.Operand.tmp 37), 4, none⟩])
      .ret)
      .skip))
    (.seq (.region [⟨some 38, Go.Op.load 25 (Go.Operand.tmp 4), 25, none⟩,
      ⟨some 39, Go.Op.build 25 #[(0, Go.Operand.const (Go.Value.int Go.IntKind.i64 1))], 25, none⟩,
      ⟨some 40, Go.Op.buildSlice 23 2 #[(0, Go.Operand.tmp 38), (1, Go.Operand.tmp 39)], 23, none⟩,
      ⟨some 41, Go.Op.build 25 #[(0, Go.Operand.const (Go.Value.int Go.IntKind.i64 4)), (2, Go.Operand.tmp 40)], 25, none⟩,
      ⟨some 12, Go.Op.alloc 25, 0, none⟩,
      ⟨none, Go.Op.store 25 (Go.Operand.tmp 12) (Go.Operand.tmp 41), 0, none⟩])
    (.seq (.region [⟨some 42, Go.Op.build 25 #[(0, Go.Operand.const (Go.Value.int Go.IntKind.i64 1))], 25, none⟩,
      ⟨some 43, Go.Op.build 25 #[(0, Go.Operand.const (Go.Value.int Go.IntKind.i64 1))], 25, none⟩,
      ⟨some 44, Go.Op.buildSlice 23 2 #[(0, Go.Operand.tmp 42), (1, Go.Operand.tmp 43)], 23, none⟩,
      ⟨some 13, Go.Op.assign (Go.Operand.tmp 44), 23, none⟩])
    (.seq (.seq (.region [⟨some 14, Go.Op.assign (Go.Operand.const (Go.Value.int Go.IntKind.i64 0)), 3, none⟩])
    (.block 0
      (.loop
        (.seq (.seq (.region [⟨some 45, Go.Op.move (Go.Operand.tmp 14), 3, none⟩,
          ⟨some 46, Go.Op.move (Go.Operand.tmp 10), 3, none⟩,
          ⟨some 47, Go.Op.binOp Go.BinOp.lss 3 (Go.Operand.tmp 45) (Go.Operand.tmp 46) 3, 4, none⟩])
        (.cond (Go.Operand.tmp 47)
          .skip
          (.exit 0)))
        (.seq (.block 1
          (.seq (.region [⟨some 50, Go.Op.move (Go.Operand.tmp 14), 3, none⟩,
            ⟨some 51, Go.Op.move (Go.Operand.tmp 9), 3, none⟩,
            ⟨some 52, Go.Op.binOp Go.BinOp.lss 3 (Go.Operand.tmp 50) (Go.Operand.tmp 51) 3, 4, none⟩])
          (.cond (Go.Operand.tmp 52)
            (.region [⟨some 53, Go.Op.move (Go.Operand.tmp 13), 23, none⟩,
              ⟨some 54, Go.Op.load 25 (Go.Operand.tmp 4), 25, none⟩,
              ⟨some 55, Go.Op.buildSlice 23 1 #[(0, Go.Operand.tmp 54)], 23, none⟩,
              ⟨some 56, Go.Op.call { callee := Go.Callee.builtin Go.Builtin.append, args := #[Go.Operand.tmp 53, Go.Operand.tmp 55], argTypes := #[23, 23] }, 23, none⟩,
              ⟨some 13, Go.Op.assign (Go.Operand.tmp 56), 23, none⟩])
            (.region [⟨some 57, Go.Op.move (Go.Operand.tmp 13), 23, none⟩,
              ⟨some 58, Go.Op.load 25 (Go.Operand.tmp 12), 25, none⟩,
              ⟨some 59, Go.Op.buildSlice 23 1 #[(0, Go.Operand.tmp 58)], 23, none⟩,
              ⟨some 60, Go.Op.call { callee := Go.Callee.builtin Go.Builtin.append, args := #[Go.Operand.tmp 57, Go.Operand.tmp 59], argTypes := #[23, 23] }, 23, none⟩,
              ⟨some 13, Go.Op.assign (Go.Operand.tmp 60), 23, none⟩]))))
        (.region [⟨some 48, Go.Op.move (Go.Operand.tmp 14), 3, none⟩,
          ⟨some 49, Go.Op.binOp Go.BinOp.add 3 (Go.Operand.tmp 48) (Go.Operand.const (Go.Value.int Go.IntKind.i64 1)) 3, 3, none⟩,
          ⟨some 14, Go.Op.assign (Go.Operand.tmp 49), 3, none⟩]))))))
    (.seq (.region [⟨some 61, Go.Op.move (Go.Operand.tmp 13), 23, none⟩,
      ⟨some 62, Go.Op.build 25 #[(0, Go.Operand.const (Go.Value.int Go.IntKind.i64 3)), (2, Go.Operand.tmp 61)], 25, none⟩,
      ⟨some 15, Go.Op.alloc 25, 0, none⟩,
      ⟨none, Go.Op.store 25 (Go.Operand.tmp 15) (Go.Operand.tmp 62), 0, none⟩])
    (.seq (.seq (.region [⟨some 63, Go.Op.load 25 (Go.Operand.tmp 15), 25, none⟩,
      ⟨some 64, Go.Op.call { callee := Go.Callee.value (Go.Operand.func 13), args := #[Go.Operand.tmp 63], argTypes := #[25] }, 28, none⟩,
      ⟨some 65, Go.Op.binOp Go.BinOp.neq 28 (Go.Operand.tmp 64) (Go.Operand.const (Go.Value.int Go.IntKind.i64 0)) 28, 4, none⟩])
    (.cond (Go.Operand.tmp 65)
      (.seq (.region [⟨some 66, Go.Op.call { callee := Go.Callee.value (Go.Operand.func 11), args := #[], argTypes := #[] }, 4, none⟩,
        ⟨some 8, Go.Op.assign (Go.Operand.tmp 66), 4, none⟩])
      .ret)
      .skip))
    (.seq (.draw [⟨⟨some 67, Go.Op.load 25 (Go.Operand.tmp 11), 25, none⟩, false, false, false⟩,
      ⟨⟨some 68, Go.Op.move (Go.Operand.tmp 3), 9, none⟩, false, false, false⟩,
      ⟨⟨some 69, Go.Op.call { callee := Go.Callee.value (Go.Operand.func 17), args := #[Go.Operand.tmp 67, Go.Operand.tmp 68], argTypes := #[25, 9] }, 4, none⟩, false, false, false⟩,
      ⟨⟨some 70, Go.Op.load 25 (Go.Operand.tmp 15), 25, none⟩, false, false, false⟩,
      ⟨⟨some 71, Go.Op.move (Go.Operand.tmp 3), 9, none⟩, false, false, false⟩,
      ⟨⟨some 72, Go.Op.call { callee := Go.Callee.value (Go.Operand.func 17), args := #[Go.Operand.tmp 70, Go.Operand.tmp 71], argTypes := #[25, 9] }, 4, none⟩, false, false, false⟩,
      ⟨⟨some 73, Go.Op.binOp Go.BinOp.eql 4 (Go.Operand.tmp 69) (Go.Operand.tmp 72) 4, 4, none⟩, false, false, false⟩,
      ⟨⟨some 74, Go.Op.move (Go.Operand.tmp 73), 4, none⟩, false, false, false⟩,
      ⟨⟨some 75, Go.Op.call { callee := Go.Callee.value (Go.Operand.func 11), args := #[], argTypes := #[] }, 4, (some (74, true))⟩, false, false, false⟩,
      ⟨⟨some 76, Go.Op.pick (Go.Operand.tmp 74) (Go.Operand.tmp 75) (Go.Operand.const (Go.Value.bool false)), 4, none⟩, false, false, false⟩,
      ⟨⟨some 8, Go.Op.assign (Go.Operand.tmp 76), 4, none⟩, false, false, false⟩])
    .ret))))))))))) :=
  ⟨foll, Tryz.f6, Tryz.func6, by kernel_rfl, by kernel_rfl, by kernel_rfl, by rw [Tryz.ntmps6]; decide⟩

/-- narrator.narratorlaw31.heavy -/
theorem fn16 : FnIs Tryz.prog 16 2 [Go.ResultVar.tmp 4] (.seq (.region [⟨some 2, Go.Op.box 25 (Go.Operand.tmp 0), 0, none⟩,
      ⟨some 4, Go.Op.assign (Go.Operand.const (Go.Value.bool false)), 4, none⟩])
    (.seq (.region [⟨some 5, Go.Op.load 25 (Go.Operand.tmp 2), 25, none⟩,
      ⟨some 6, Go.Op.call { callee := Go.Callee.value (Go.Operand.func 10), args := #[Go.Operand.tmp 5], argTypes := #[25] }, 4, none⟩,
      ⟨some 7, Go.Op.move (Go.Operand.tmp 6), 4, none⟩,
      ⟨some 8, Go.Op.load 25 (Go.Operand.tmp 2), 25, (some (7, false))⟩,
      ⟨some 9, Go.Op.call { callee := Go.Callee.value (Go.Operand.func 30), args := #[Go.Operand.tmp 8], argTypes := #[25] }, 3, (some (7, false))⟩,
      ⟨some 10, Go.Op.binOp Go.BinOp.gtr 3 (Go.Operand.tmp 9) (Go.Operand.const (Go.Value.int Go.IntKind.i64 3000)) 3, 4, (some (7, false))⟩,
      ⟨some 11, Go.Op.pick (Go.Operand.tmp 7) (Go.Operand.const (Go.Value.bool true)) (Go.Operand.tmp 10), 4, none⟩,
      ⟨some 12, Go.Op.move (Go.Operand.tmp 11), 4, none⟩,
      ⟨some 13, Go.Op.move (Go.Operand.tmp 1), 9, (some (12, false))⟩,
      ⟨some 14, Go.Op.call { callee := Go.Callee.builtin Go.Builtin.len, args := #[Go.Operand.tmp 13], argTypes := #[9] }, 3, (some (12, false))⟩,
      ⟨some 15, Go.Op.binOp Go.BinOp.gtr 3 (Go.Operand.tmp 14) (Go.Operand.const (Go.Value.int Go.IntKind.i64 40)) 3, 4, (some (12, false))⟩,
      ⟨some 16, Go.Op.pick (Go.Operand.tmp 12) (Go.Operand.const (Go.Value.bool true)) (Go.Operand.tmp 15), 4, none⟩,
      ⟨some 4, Go.Op.assign (Go.Operand.tmp 16), 4, none⟩])
    .ret)) :=
  ⟨foll, Tryz.f16, Tryz.func16, by kernel_rfl, by kernel_rfl, by kernel_rfl, by rw [Tryz.ntmps16]; decide⟩

/-- narrator.pattern.Match -/
theorem fn17 : FnIs Tryz.prog 17 2 [Go.ResultVar.tmp 4] (.seq (.region [⟨some 2, Go.Op.box 25 (Go.Operand.tmp 0), 0, none⟩,
      ⟨some 4, Go.Op.assign (Go.Operand.const (Go.Value.bool false)), 4, none⟩])
    (.seq (.seq (.region [⟨some 8, Go.Op.load 25 (Go.Operand.tmp 2), 25, none⟩,
      ⟨some 9, Go.Op.call { callee := Go.Callee.value (Go.Operand.func 13), args := #[Go.Operand.tmp 8], argTypes := #[25] }, 28, none⟩,
      ⟨some 10, Go.Op.binOp Go.BinOp.neq 28 (Go.Operand.tmp 9) (Go.Operand.const (Go.Value.int Go.IntKind.i64 0)) 28, 4, none⟩])
    (.cond (Go.Operand.tmp 10)
      (.seq (.region [⟨some 4, Go.Op.assign (Go.Operand.const (Go.Value.bool false)), 4, none⟩])
      .ret)
      .skip))
    (.seq (.region [⟨some 12, Go.Op.move (Go.Operand.tmp 1), 9, none⟩,
      ⟨some 13, Go.Op.call { callee := Go.Callee.value (Go.Operand.func 31), args := #[Go.Operand.const (Go.Value.string { data := #[] }), Go.Operand.tmp 12], argTypes := #[9, 9] }, 57, none⟩,
      ⟨some 11, Go.Op.move (Go.Operand.tmp 13), 57, none⟩,
      ⟨some 14, Go.Op.extract (Go.Operand.tmp 11) 0, 42, none⟩,
      ⟨some 15, Go.Op.extract (Go.Operand.tmp 11) 1, 9, none⟩,
      ⟨some 5, Go.Op.assign (Go.Operand.tmp 14), 42, none⟩,
      ⟨some 6, Go.Op.assign (Go.Operand.tmp 15), 9, none⟩])
    (.seq (.region [⟨some 16, Go.Op.move (Go.Operand.tmp 5), 42, none⟩,
      ⟨some 17, Go.Op.move (Go.Operand.tmp 6), 9, none⟩,
      ⟨some 18, Go.Op.call { callee := Go.Callee.value (Go.Operand.func 32), args := #[Go.Operand.tmp 17], argTypes := #[9] }, 42, none⟩,
      ⟨some 19, Go.Op.call { callee := Go.Callee.builtin Go.Builtin.append, args := #[Go.Operand.tmp 16, Go.Operand.tmp 18], argTypes := #[42, 42] }, 42, none⟩,
      ⟨some 5, Go.Op.assign (Go.Operand.tmp 19), 42, none⟩])
    (.seq (.region [⟨some 20, Go.Op.move (Go.Operand.tmp 5), 42, none⟩,
      ⟨some 21, Go.Op.call { callee := Go.Callee.builtin Go.Builtin.len, args := #[Go.Operand.tmp 20], argTypes := #[42] }, 3, none⟩,
      ⟨some 22, Go.Op.binOp Go.BinOp.add 3 (Go.Operand.tmp 21) (Go.Operand.const (Go.Value.int Go.IntKind.i64 1)) 3, 3, none⟩,
      ⟨some 23, Go.Op.makeSlice 60 (Go.Operand.tmp 22) (Go.Operand.tmp 22), 60, none⟩,
      ⟨some 7, Go.Op.assign (Go.Operand.tmp 23), 60, none⟩])
    (.seq (.region [⟨some 24, Go.Op.move (Go.Operand.tmp 7), 60, none⟩,
      ⟨some 25, Go.Op.indexAddr 60 (Go.Operand.tmp 24) (Go.Operand.const (Go.Value.int Go.IntKind.i64 0)), 0, none⟩,
      ⟨none, Go.Op.store 4 (Go.Operand.tmp 25) (Go.Operand.const (Go.Value.bool true)), 0, none⟩])
    (.seq (.region [⟨some 26, Go.Op.load 25 (Go.Operand.tmp 2), 25, none⟩,
      ⟨some 27, Go.Op.move (Go.Operand.tmp 5), 42, none⟩,
      ⟨some 28, Go.Op.move (Go.Operand.tmp 7), 60, none⟩,
      ⟨some 29, Go.Op.call { callee := Go.Callee.value (Go.Operand.func 33), args := #[Go.Operand.tmp 26, Go.Operand.tmp 27, Go.Operand.tmp 28], argTypes := #[25, 42, 60] }, 60, none⟩,
      ⟨some 30, Go.Op.move (Go.Operand.tmp 5), 42, none⟩,
      ⟨some 31, Go.Op.call { callee := Go.Callee.builtin Go.Builtin.len, args := #[Go.Operand.tmp 30], argTypes := #[42] }, 3, none⟩,
      ⟨some 32, Go.Op.indexAddr 60 (Go.Operand.tmp 29) (Go.Operand.tmp 31), 0, none⟩,
      ⟨some 33, Go.Op.load 4 (Go.Operand.tmp 32), 4, none⟩,
      ⟨some 4, Go.Op.assign (Go.Operand.tmp 33), 4, none⟩])
    .ret))))))) :=
  ⟨foll, Tryz.f17, Tryz.func17, by kernel_rfl, by kernel_rfl, by kernel_rfl, by rw [Tryz.ntmps17]; decide⟩

/-- narrator.pattern.Nullable -/
theorem fn20 : FnIs Tryz.prog 20 1 [Go.ResultVar.tmp 2] (.seq (.region [⟨some 1, Go.Op.box 25 (Go.Operand.tmp 0), 0, none⟩,
      ⟨some 2, Go.Op.assign (Go.Operand.const (Go.Value.bool false)), 4, none⟩])
    (.seq (.region [⟨some 3, Go.Op.load 25 (Go.Operand.tmp 1), 25, none⟩,
      ⟨some 4, Go.Op.call { callee := Go.Callee.value (Go.Operand.func 17), args := #[Go.Operand.tmp 3, Go.Operand.const (Go.Value.string { data := #[] })], argTypes := #[25, 9] }, 4, none⟩,
      ⟨some 2, Go.Op.assign (Go.Operand.tmp 4), 4, none⟩])
    .ret)) :=
  ⟨foll, Tryz.f20, Tryz.func20, by kernel_rfl, by kernel_rfl, by kernel_rfl, by rw [Tryz.ntmps20]; decide⟩

/-- narrator.narratorref31.Weight -/
theorem fn30 : FnIs Tryz.prog 30 1 [Go.ResultVar.tmp 2] (.seq (.region [⟨some 1, Go.Op.box 25 (Go.Operand.tmp 0), 0, none⟩,
      ⟨some 2, Go.Op.assign (Go.Operand.const (Go.Value.int Go.IntKind.i64 0)), 3, none⟩])
    (.seq (.region [⟨some 3, Go.Op.assign (Go.Operand.const (Go.Value.int Go.IntKind.i64 1)), 3, none⟩])
    (.seq (.seq (.region [⟨some 4, Go.Op.assign (Go.Operand.const (Go.Value.int Go.IntKind.i64 0)), 3, none⟩])
    (.block 0
      (.loop
        (.seq (.seq (.region [⟨some 5, Go.Op.move (Go.Operand.tmp 4), 3, none⟩,
          ⟨some 6, Go.Op.fieldAddr 25 (Go.Operand.tmp 1) 2, 0, none⟩,
          ⟨some 7, Go.Op.load 23 (Go.Operand.tmp 6), 23, none⟩,
          ⟨some 8, Go.Op.call { callee := Go.Callee.builtin Go.Builtin.len, args := #[Go.Operand.tmp 7], argTypes := #[23] }, 3, none⟩,
          ⟨some 9, Go.Op.binOp Go.BinOp.lss 3 (Go.Operand.tmp 5) (Go.Operand.tmp 8) 3, 4, none⟩])
        (.cond (Go.Operand.tmp 9)
          .skip
          (.exit 0)))
        (.seq (.block 1
          (.region [⟨some 12, Go.Op.move (Go.Operand.tmp 3), 3, none⟩,
            ⟨some 13, Go.Op.fieldAddr 25 (Go.Operand.tmp 1) 2, 0, none⟩,
            ⟨some 14, Go.Op.load 23 (Go.Operand.tmp 13), 23, none⟩,
            ⟨some 15, Go.Op.move (Go.Operand.tmp 4), 3, none⟩,
            ⟨some 16, Go.Op.indexAddr 23 (Go.Operand.tmp 14) (Go.Operand.tmp 15), 0, none⟩,
            ⟨some 17, Go.Op.load 25 (Go.Operand.tmp 16), 25, none⟩,
            ⟨some 18, Go.Op.call { callee := Go.Callee.value (Go.Operand.func 30), args := #[Go.Operand.tmp 17], argTypes := #[25] }, 3, none⟩,
            ⟨some 19, Go.Op.binOp Go.BinOp.add 3 (Go.Operand.tmp 12) (Go.Operand.tmp 18) 3, 3, none⟩,
            ⟨some 3, Go.Op.assign (Go.Operand.tmp 19), 3, none⟩]))
        (.region [⟨some 10, Go.Op.move (Go.Operand.tmp 4), 3, none⟩,
          ⟨some 11, Go.Op.binOp Go.BinOp.add 3 (Go.Operand.tmp 10) (Go.Operand.const (Go.Value.int Go.IntKind.i64 1)) 3, 3, none⟩,
          ⟨some 4, Go.Op.assign (Go.Operand.tmp 11), 3, none⟩]))))))
    (.seq (.seq (.region [⟨some 20, Go.Op.fieldAddr 25 (Go.Operand.tmp 1) 0, 0, none⟩,
      ⟨some 21, Go.Op.load 3 (Go.Operand.tmp 20), 3, none⟩,
      ⟨some 22, Go.Op.binOp Go.BinOp.eql 3 (Go.Operand.tmp 21) (Go.Operand.const (Go.Value.int Go.IntKind.i64 5)) 3, 4, none⟩])
    (.cond (Go.Operand.tmp 22)
      (.seq (.region [⟨some 23, Go.Op.fieldAddr 25 (Go.Operand.tmp 1) 4, 0, none⟩,
        ⟨some 24, Go.Op.load 3 (Go.Operand.tmp 23), 3, none⟩,
        ⟨some 25, Go.Op.binOp Go.BinOp.lss 3 (Go.Operand.tmp 24) (Go.Operand.const (Go.Value.int Go.IntKind.i64 0)) 3, 4, none⟩])
      (.cond (Go.Operand.tmp 25)
        (.region [⟨some 26, Go.Op.move (Go.Operand.tmp 3), 3, none⟩,
          ⟨some 27, Go.Op.fieldAddr 25 (Go.Operand.tmp 1) 3, 0, none⟩,
          ⟨some 28, Go.Op.load 3 (Go.Operand.tmp 27), 3, none⟩,
          ⟨some 29, Go.Op.call { callee := Go.Callee.builtin Go.Builtin.max, args := #[Go.Operand.tmp 28, Go.Operand.const (Go.Value.int Go.IntKind.i64 0)], argTypes := #[3, 3] }, 3, none⟩,
          ⟨some 30, Go.Op.call { callee := Go.Callee.builtin Go.Builtin.min, args := #[Go.Operand.tmp 29, Go.Operand.const (Go.Value.int Go.IntKind.i64 100)], argTypes := #[3, 3] }, 3, none⟩,
          ⟨some 31, Go.Op.binOp Go.BinOp.add 3 (Go.Operand.tmp 30) (Go.Operand.const (Go.Value.int Go.IntKind.i64 15)) 3, 3, none⟩,
          ⟨some 32, Go.Op.binOp Go.BinOp.mul 3 (Go.Operand.tmp 26) (Go.Operand.tmp 31) 3, 3, none⟩,
          ⟨some 3, Go.Op.assign (Go.Operand.tmp 32), 3, none⟩])
        (.region [⟨some 33, Go.Op.move (Go.Operand.tmp 3), 3, none⟩,
          ⟨some 34, Go.Op.fieldAddr 25 (Go.Operand.tmp 1) 4, 0, none⟩,
          ⟨some 35, Go.Op.load 3 (Go.Operand.tmp 34), 3, none⟩,
          ⟨some 36, Go.Op.call { callee := Go.Callee.builtin Go.Builtin.max, args := #[Go.Operand.tmp 35, Go.Operand.const (Go.Value.int Go.IntKind.i64 1)], argTypes := #[3, 3] }, 3, none⟩,
          ⟨some 37, Go.Op.call { callee := Go.Callee.builtin Go.Builtin.min, args := #[Go.Operand.tmp 36, Go.Operand.const (Go.Value.int Go.IntKind.i64 100)], argTypes := #[3, 3] }, 3, none⟩,
          ⟨some 38, Go.Op.binOp Go.BinOp.mul 3 (Go.Operand.tmp 33) (Go.Operand.tmp 37) 3, 3, none⟩,
          ⟨some 3, Go.Op.assign (Go.Operand.tmp 38), 3, none⟩])))
      .skip))
    (.seq (.region [⟨some 39, Go.Op.move (Go.Operand.tmp 3), 3, none⟩,
      ⟨some 40, Go.Op.call { callee := Go.Callee.builtin Go.Builtin.min, args := #[Go.Operand.tmp 39, Go.Operand.const (Go.Value.int Go.IntKind.i64 1000000)], argTypes := #[3, 3] }, 3, none⟩,
      ⟨some 2, Go.Op.assign (Go.Operand.tmp 40), 3, none⟩])
    .ret))))) :=
  ⟨foll, Tryz.f30, Tryz.func30, by kernel_rfl, by kernel_rfl, by kernel_rfl, by rw [Tryz.ntmps30]; decide⟩

/-- narrator.utf8stream.Decode -/
theorem fn31 : FnIs Tryz.prog 31 2 [Go.ResultVar.tmp 4, Go.ResultVar.tmp 5] (.seq (.region [⟨some 4, Go.Op.assign (Go.Operand.const (Go.Value.slice none 0 0)), 42, none⟩,
      ⟨some 5, Go.Op.assign (Go.Operand.const (Go.Value.string { data := #[] })), 9, none⟩])
    (.seq (.region [⟨some 12, Go.Op.move (Go.Operand.tmp 0), 9, none⟩,
      ⟨some 13, Go.Op.move (Go.Operand.tmp 1), 9, none⟩,
      ⟨some 14, Go.Op.binOp Go.BinOp.add 9 (Go.Operand.tmp 12) (Go.Operand.tmp 13) 9, 9, none⟩,
      ⟨some 6, Go.Op.assign (Go.Operand.tmp 14), 9, none⟩])
    (.seq (.region [⟨some 7, Go.Op.assign (Go.Operand.const (Go.Value.slice none 0 0)), 42, none⟩])
    (.seq (.region [⟨some 8, Go.Op.alloc 72, 0, none⟩])
    (.seq (.region [⟨some 9, Go.Op.assign (Go.Operand.const (Go.Value.int Go.IntKind.i64 0)), 3, none⟩])
    (.seq (.seq (.region [⟨some 15, Go.Op.move (Go.Operand.tmp 6), 9, none⟩,
      ⟨some 16, Go.Op.call { callee := Go.Callee.builtin Go.Builtin.len, args := #[Go.Operand.tmp 15], argTypes := #[9] }, 3, none⟩,
      ⟨some 17, Go.Op.move (Go.Operand.const (Go.Value.int Go.IntKind.i64 0)), 3, none⟩])
    (.block 0
      (.loop
        (.seq (.region [⟨some 18, Go.Op.binOp Go.BinOp.lss 3 (Go.Operand.tmp 17) (Go.Operand.tmp 16) 3, 4, none⟩])
        (.seq (.cond (Go.Operand.tmp 18)
          .skip
          (.exit 0))
        (.seq (.block 1
          (.seq (.region [⟨some 19, Go.Op.move (Go.Operand.tmp 17), 3, none⟩,
            ⟨some 10, Go.Op.assign (Go.Operand.tmp 19), 3, none⟩])
          (.seq (.region [⟨some 20, Go.Op.move (Go.Operand.tmp 6), 9, none⟩,
            ⟨some 21, Go.Op.move (Go.Operand.tmp 10), 3, none⟩,
            ⟨some 22, Go.Op.index 9 (Go.Operand.tmp 20) (Go.Operand.tmp 21), 5, none⟩,
            ⟨some 11, Go.Op.assign (Go.Operand.tmp 22), 5, none⟩])
          (.seq (.seq (.region [⟨some 23, Go.Op.fieldAddr 72 (Go.Operand.tmp 8) 1, 0, none⟩,
            ⟨some 24, Go.Op.load 3 (Go.Operand.tmp 23), 3, none⟩,
            ⟨some 25, Go.Op.binOp Go.BinOp.gtr 3 (Go.Operand.tmp 24) (Go.Operand.const (Go.Value.int Go.IntKind.i64 0)) 3, 4, none⟩,
            ⟨some 26, Go.Op.move (Go.Operand.tmp 25), 4, none⟩,
            ⟨some 27, Go.Op.move (Go.Operand.tmp 11), 5, (some (26, true))⟩,
            ⟨some 28, Go.Op.fieldAddr 72 (Go.Operand.tmp 8) 2, 0, (some (26, true))⟩,
            ⟨some 29, Go.Op.load 5 (Go.Operand.tmp 28), 5, (some (26, true))⟩,
            ⟨some 30, Go.Op.binOp Go.BinOp.geq 5 (Go.Operand.tmp 27) (Go.Operand.tmp 29) 5, 4, (some (26, true))⟩,
            ⟨some 31, Go.Op.pick (Go.Operand.tmp 26) (Go.Operand.tmp 30) (Go.Operand.const (Go.Value.bool false)), 4, none⟩,
            ⟨some 32, Go.Op.move (Go.Operand.tmp 31), 4, none⟩,
            ⟨some 33, Go.Op.move (Go.Operand.tmp 11), 5, (some (32, true))⟩,
            ⟨some 34, Go.Op.fieldAddr 72 (Go.Operand.tmp 8) 3, 0, (some (32, true))⟩,
            ⟨some 35, Go.Op.load 5 (Go.Operand.tmp 34), 5, (some (32, true))⟩,
            ⟨some 36, Go.Op.binOp Go.BinOp.leq 5 (Go.Operand.tmp 33) (Go.Operand.tmp 35) 5, 4, (some (32, true))⟩,
            ⟨some 37, Go.Op.pick (Go.Operand.tmp 32) (Go.Operand.tmp 36) (Go.Operand.const (Go.Value.bool false)), 4, none⟩])
          (.cond (Go.Operand.tmp 37)
            (.seq (.region [⟨some 38, Go.Op.fieldAddr 72 (Go.Operand.tmp 8) 0, 0, none⟩,
              ⟨some 39, Go.Op.load 21 (Go.Operand.tmp 38), 21, none⟩,
              ⟨some 40, Go.Op.binOp Go.BinOp.shl 21 (Go.Operand.tmp 39) (Go.Operand.const (Go.Value.int Go.IntKind.u64 6)) 73, 21, none⟩,
              ⟨some 41, Go.Op.move (Go.Operand.tmp 11), 5, none⟩,
              ⟨some 42, Go.Op.binOp Go.BinOp.and 5 (Go.Operand.tmp 41) (Go.Operand.const (Go.Value.int Go.IntKind.u8 63)) 5, 5, none⟩,
              ⟨some 43, Go.Op.convert 5 21 (Go.Operand.tmp 42), 21, none⟩,
              ⟨some 44, Go.Op.binOp Go.BinOp.or 21 (Go.Operand.tmp 40) (Go.Operand.tmp 43) 21, 21, none⟩,
              ⟨some 45, Go.Op.fieldAddr 72 (Go.Operand.tmp 8) 1, 0, none⟩,
              ⟨some 46, Go.Op.load 3 (Go.Operand.tmp 45), 3, none⟩,
              ⟨some 47, Go.Op.binOp Go.BinOp.sub 3 (Go.Operand.tmp 46) (Go.Operand.const (Go.Value.int Go.IntKind.i64 1)) 3, 3, none⟩,
              ⟨some 48, Go.Op.build 72 #[(0, Go.Operand.tmp 44), (1, Go.Operand.tmp 47), (2, Go.Operand.const (Go.Value.int Go.IntKind.u8 128)), (3, Go.Operand.const (Go.Value.int Go.IntKind.u8 191))], 72, none⟩,
              ⟨none, Go.Op.store 72 (Go.Operand.tmp 8) (Go.Operand.tmp 48), 0, none⟩])
            (.seq (.seq (.region [⟨some 49, Go.Op.fieldAddr 72 (Go.Operand.tmp 8) 1, 0, none⟩,
              ⟨some 50, Go.Op.load 3 (Go.Operand.tmp 49), 3, none⟩,
              ⟨some 51, Go.Op.binOp Go.BinOp.eql 3 (Go.Operand.tmp 50) (Go.Operand.const (Go.Value.int Go.IntKind.i64 0)) 3, 4, none⟩])
            (.cond (Go.Operand.tmp 51)
              (.region [⟨some 52, Go.Op.move (Go.Operand.tmp 7), 42, none⟩,
                ⟨some 53, Go.Op.fieldAddr 72 (Go.Operand.tmp 8) 0, 0, none⟩,
                ⟨some 54, Go.Op.load 21 (Go.Operand.tmp 53), 21, none⟩,
                ⟨some 55, Go.Op.buildSlice 42 1 #[(0, Go.Operand.tmp 54)], 42, none⟩,
                ⟨some 56, Go.Op.call { callee := Go.Callee.builtin Go.Builtin.append, args := #[Go.Operand.tmp 52, Go.Operand.tmp 55], argTypes := #[42, 42] }, 42, none⟩,
                ⟨some 7, Go.Op.assign (Go.Operand.tmp 56), 42, none⟩])
              .skip))
            (.exit 1)))
            .skip))
          (.seq (.seq (.region [⟨some 57, Go.Op.fieldAddr 72 (Go.Operand.tmp 8) 1, 0, none⟩,
            ⟨some 58, Go.Op.load 3 (Go.Operand.tmp 57), 3, none⟩,
            ⟨some 59, Go.Op.binOp Go.BinOp.gtr 3 (Go.Operand.tmp 58) (Go.Operand.const (Go.Value.int Go.IntKind.i64 0)) 3, 4, none⟩])
          (.cond (Go.Operand.tmp 59)
            (.region [⟨some 60, Go.Op.move (Go.Operand.tmp 7), 42, none⟩,
              ⟨some 61, Go.Op.buildSlice 42 1 #[(0, Go.Operand.const (Go.Value.int Go.IntKind.i32 65533))], 42, none⟩,
              ⟨some 62, Go.Op.call { callee := Go.Callee.builtin Go.Builtin.append, args := #[Go.Operand.tmp 60, Go.Operand.tmp 61], argTypes := #[42, 42] }, 42, none⟩,
              ⟨some 7, Go.Op.assign (Go.Operand.tmp 62), 42, none⟩])
            .skip))
          (.seq (.region [⟨some 63, Go.Op.move (Go.Operand.tmp 11), 5, none⟩,
            ⟨some 64, Go.Op.call { callee := Go.Callee.value (Go.Operand.func 46), args := #[Go.Operand.tmp 63], argTypes := #[5] }, 72, none⟩,
            ⟨some 65, Go.Op.move (Go.Operand.tmp 10), 3, none⟩,
            ⟨none, Go.Op.store 72 (Go.Operand.tmp 8) (Go.Operand.tmp 64), 0, none⟩,
            ⟨some 9, Go.Op.assign (Go.Operand.tmp 65), 3, none⟩])
          (.block 2
            (.seq (.region [⟨some 67, Go.Op.move (Go.Operand.tmp 11), 5, none⟩,
              ⟨some 68, Go.Op.binOp Go.BinOp.lss 5 (Go.Operand.tmp 67) (Go.Operand.const (Go.Value.int Go.IntKind.u8 128)) 5, 4, none⟩,
              ⟨some 66, Go.Op.assign (Go.Operand.tmp 68), 4, none⟩])
            (.cond (Go.Operand.tmp 66)
              (.region [⟨some 69, Go.Op.move (Go.Operand.tmp 7), 42, none⟩,
                ⟨some 70, Go.Op.move (Go.Operand.tmp 11), 5, none⟩,
                ⟨some 71, Go.Op.convert 5 21 (Go.Operand.tmp 70), 21, none⟩,
                ⟨some 72, Go.Op.buildSlice 42 1 #[(0, Go.Operand.tmp 71)], 42, none⟩,
                ⟨some 73, Go.Op.call { callee := Go.Callee.builtin Go.Builtin.append, args := #[Go.Operand.tmp 69, Go.Operand.tmp 72], argTypes := #[42, 42] }, 42, none⟩,
                ⟨some 7, Go.Op.assign (Go.Operand.tmp 73), 42, none⟩])
              (.seq (.region [⟨some 75, Go.Op.fieldAddr 72 (Go.Operand.tmp 8) 1, 0, none⟩,
                ⟨some 76, Go.Op.load 3 (Go.Operand.tmp 75), 3, none⟩,
                ⟨some 77, Go.Op.binOp Go.BinOp.eql 3 (Go.Operand.tmp 76) (Go.Operand.const (Go.Value.int Go.IntKind.i64 0)) 3, 4, none⟩,
                ⟨some 74, Go.Op.assign (Go.Operand.tmp 77), 4, none⟩])
              (.cond (Go.Operand.tmp 74)
                (.region [⟨some 78, Go.Op.move (Go.Operand.tmp 7), 42, none⟩,
                  ⟨some 79, Go.Op.buildSlice 42 1 #[(0, Go.Operand.const (Go.Value.int Go.IntKind.i32 65533))], 42, none⟩,
                  ⟨some 80, Go.Op.call { callee := Go.Callee.builtin Go.Builtin.append, args := #[Go.Operand.tmp 78, Go.Operand.tmp 79], argTypes := #[42, 42] }, 42, none⟩,
                  ⟨some 7, Go.Op.assign (Go.Operand.tmp 80), 42, none⟩])
                .skip)))))))))))
        (.region [⟨some 81, Go.Op.binOp Go.BinOp.add 3 (Go.Operand.tmp 17) (Go.Operand.const (Go.Value.int Go.IntKind.i64 1)) 3, 3, none⟩,
          ⟨some 17, Go.Op.move (Go.Operand.tmp 81), 3, none⟩])))))))
    (.seq (.seq (.region [⟨some 82, Go.Op.fieldAddr 72 (Go.Operand.tmp 8) 1, 0, none⟩,
      ⟨some 83, Go.Op.load 3 (Go.Operand.tmp 82), 3, none⟩,
      ⟨some 84, Go.Op.binOp Go.BinOp.eql 3 (Go.Operand.tmp 83) (Go.Operand.const (Go.Value.int Go.IntKind.i64 0)) 3, 4, none⟩])
    (.cond (Go.Operand.tmp 84)
      (.seq (.region [⟨some 85, Go.Op.move (Go.Operand.tmp 7), 42, none⟩,
        ⟨some 4, Go.Op.assign (Go.Operand.tmp 85), 42, none⟩,
        ⟨some 5, Go.Op.assign (Go.Operand.const (Go.Value.string { data := #[] })), 9, none⟩])
      .ret)
      .skip))
    (.seq (.draw [⟨⟨some 86, Go.Op.move (Go.Operand.tmp 7), 42, none⟩, false, false, false⟩,
      ⟨⟨some 87, Go.Op.move (Go.Operand.tmp 6), 9, none⟩, false, false, false⟩,
      ⟨⟨some 88, Go.Op.move (Go.Operand.tmp 9), 3, none⟩, false, false, false⟩,
      ⟨⟨some 89, Go.Op.slice 9 (Go.Operand.tmp 87) (some (Go.Operand.tmp 88)) none none, 9, none⟩, false, false, false⟩,
      ⟨⟨some 4, Go.Op.assign (Go.Operand.tmp 86), 42, none⟩, false, false, false⟩,
      ⟨⟨some 5, Go.Op.assign (Go.Operand.tmp 89), 9, none⟩, false, false, false⟩])
    .ret)))))))) :=
  ⟨foll, Tryz.f31, Tryz.func31, by kernel_rfl, by kernel_rfl, by kernel_rfl, by rw [Tryz.ntmps31]; decide⟩

/-- narrator.utf8stream.Finish -/
theorem fn32 : FnIs Tryz.prog 32 1 [Go.ResultVar.tmp 2] (.seq (.region [⟨some 2, Go.Op.assign (Go.Operand.const (Go.Value.slice none 0 0)), 42, none⟩])
    (.seq (.region [⟨some 6, Go.Op.move (Go.Operand.tmp 0), 9, none⟩,
      ⟨some 7, Go.Op.call { callee := Go.Callee.value (Go.Operand.func 31), args := #[Go.Operand.const (Go.Value.string { data := #[] }), Go.Operand.tmp 6], argTypes := #[9, 9] }, 57, none⟩,
      ⟨some 5, Go.Op.move (Go.Operand.tmp 7), 57, none⟩,
      ⟨some 8, Go.Op.extract (Go.Operand.tmp 5) 0, 42, none⟩,
      ⟨some 9, Go.Op.extract (Go.Operand.tmp 5) 1, 9, none⟩,
      ⟨some 3, Go.Op.assign (Go.Operand.tmp 8), 42, none⟩,
      ⟨some 4, Go.Op.assign (Go.Operand.tmp 9), 9, none⟩])
    (.seq (.seq (.region [⟨some 10, Go.Op.move (Go.Operand.tmp 4), 9, none⟩,
      ⟨some 11, Go.Op.binOp Go.BinOp.neq 9 (Go.Operand.tmp 10) (Go.Operand.const (Go.Value.string { data := #[] })) 9, 4, none⟩])
    (.cond (Go.Operand.tmp 11)
      (.region [⟨some 12, Go.Op.move (Go.Operand.tmp 3), 42, none⟩,
        ⟨some 13, Go.Op.buildSlice 42 1 #[(0, Go.Operand.const (Go.Value.int Go.IntKind.i32 65533))], 42, none⟩,
        ⟨some 14, Go.Op.call { callee := Go.Callee.builtin Go.Builtin.append, args := #[Go.Operand.tmp 12, Go.Operand.tmp 13], argTypes := #[42, 42] }, 42, none⟩,
        ⟨some 3, Go.Op.assign (Go.Operand.tmp 14), 42, none⟩])
      .skip))
    (.seq (.region [⟨some 15, Go.Op.move (Go.Operand.tmp 3), 42, none⟩,
      ⟨some 2, Go.Op.assign (Go.Operand.tmp 15), 42, none⟩])
    .ret)))) :=
  ⟨foll, Tryz.f32, Tryz.func32, by kernel_rfl, by kernel_rfl, by kernel_rfl, by rw [Tryz.ntmps32]; decide⟩

/-- narrator.pattern.reach -/
theorem fn33 : FnIs Tryz.prog 33 3 [Go.ResultVar.tmp 6] (.seq (.region [⟨some 3, Go.Op.box 25 (Go.Operand.tmp 0), 0, none⟩,
      ⟨some 6, Go.Op.assign (Go.Operand.const (Go.Value.slice none 0 0)), 60, none⟩])
    (.seq (.region [⟨some 16, Go.Op.move (Go.Operand.tmp 2), 60, none⟩,
      ⟨some 17, Go.Op.call { callee := Go.Callee.builtin Go.Builtin.len, args := #[Go.Operand.tmp 16], argTypes := #[60] }, 3, none⟩,
      ⟨some 18, Go.Op.makeSlice 60 (Go.Operand.tmp 17) (Go.Operand.tmp 17), 60, none⟩,
      ⟨some 7, Go.Op.assign (Go.Operand.tmp 18), 60, none⟩])
    (.seq (.seq (.region [⟨some 19, Go.Op.fieldAddr 25 (Go.Operand.tmp 3) 0, 0, none⟩,
      ⟨some 20, Go.Op.load 3 (Go.Operand.tmp 19), 3, none⟩])
    (.block 0
      (.seq (.region [⟨some 22, Go.Op.binOp Go.BinOp.eql 3 (Go.Operand.tmp 20) (Go.Operand.const (Go.Value.int Go.IntKind.i64 1)) 3, 4, none⟩,
        ⟨some 21, Go.Op.assign (Go.Operand.tmp 22), 4, none⟩])
      (.cond (Go.Operand.tmp 21)
        (.region [⟨some 23, Go.Op.move (Go.Operand.tmp 7), 60, none⟩,
          ⟨some 24, Go.Op.move (Go.Operand.tmp 2), 60, none⟩,
          ⟨some 25, Go.Op.call { callee := Go.Callee.builtin Go.Builtin.copy, args := #[Go.Operand.tmp 23, Go.Operand.tmp 24], argTypes := #[60, 60] }, 3, none⟩])
        (.seq (.region [⟨some 27, Go.Op.binOp Go.BinOp.eql 3 (Go.Operand.tmp 20) (Go.Operand.const (Go.Value.int Go.IntKind.i64 2)) 3, 4, none⟩,
          ⟨some 26, Go.Op.assign (Go.Operand.tmp 27), 4, none⟩])
        (.cond (Go.Operand.tmp 26)
          (.seq (.region [⟨some 28, Go.Op.move (Go.Operand.tmp 1), 42, none⟩,
            ⟨some 29, Go.Op.call { callee := Go.Callee.builtin Go.Builtin.len, args := #[Go.Operand.tmp 28], argTypes := #[42] }, 3, none⟩,
            ⟨some 30, Go.Op.move (Go.Operand.const (Go.Value.int Go.IntKind.i64 0)), 3, none⟩])
          (.block 1
            (.loop
              (.seq (.region [⟨some 31, Go.Op.binOp Go.BinOp.lss 3 (Go.Operand.tmp 30) (Go.Operand.tmp 29) 3, 0, none⟩])
              (.seq (.cond (Go.Operand.tmp 31)
                .skip
                (.exit 1))
              (.seq (.block 2
                (.seq (.region [⟨some 32, Go.Op.move (Go.Operand.tmp 30), 3, none⟩,
                  ⟨some 33, Go.Op.indexAddr 42 (Go.Operand.tmp 28) (Go.Operand.tmp 30), 0, none⟩,
                  ⟨some 34, Go.Op.load 21 (Go.Operand.tmp 33), 21, none⟩,
                  ⟨some 9, Go.Op.alloc 21, 0, none⟩,
                  ⟨some 8, Go.Op.assign (Go.Operand.tmp 32), 3, none⟩,
                  ⟨none, Go.Op.store 21 (Go.Operand.tmp 9) (Go.Operand.tmp 34), 0, none⟩])
                (.region [⟨some 35, Go.Op.move (Go.Operand.tmp 7), 60, none⟩,
                  ⟨some 36, Go.Op.move (Go.Operand.tmp 8), 3, none⟩,
                  ⟨some 37, Go.Op.binOp Go.BinOp.add 3 (Go.Operand.tmp 36) (Go.Operand.const (Go.Value.int Go.IntKind.i64 1)) 3, 3, none⟩,
                  ⟨some 38, Go.Op.move (Go.Operand.tmp 2), 60, none⟩,
                  ⟨some 39, Go.Op.move (Go.Operand.tmp 8), 3, none⟩,
                  ⟨some 40, Go.Op.indexAddr 60 (Go.Operand.tmp 38) (Go.Operand.tmp 39), 0, none⟩,
                  ⟨some 41, Go.Op.load 4 (Go.Operand.tmp 40), 4, none⟩,
                  ⟨some 42, Go.Op.move (Go.Operand.tmp 41), 4, none⟩,
                  ⟨some 43, Go.Op.fieldAddr 25 (Go.Operand.tmp 3) 1, 0, (some (42, true))⟩,
                  ⟨some 44, Go.Op.load 22 (Go.Operand.tmp 43), 22, (some (42, true))⟩,
                  ⟨some 45, Go.Op.makeFunc (Go.Fn.func 48) #[] #[Go.Operand.tmp 9], 76, (some (42, true))⟩,
                  ⟨some 46, Go.Op.call { callee := Go.Callee.value (Go.Operand.func 47), args := #[Go.Operand.tmp 44, Go.Operand.tmp 45], argTypes := #[22, 76] }, 4, (some (42, true))⟩,
                  ⟨some 47, Go.Op.pick (Go.Operand.tmp 42) (Go.Operand.tmp 46) (Go.Operand.const (Go.Value.bool false)), 4, none⟩,
                  ⟨some 48, Go.Op.indexAddr 60 (Go.Operand.tmp 35) (Go.Operand.tmp 37), 0, none⟩,
                  ⟨none, Go.Op.store 4 (Go.Operand.tmp 48) (Go.Operand.tmp 47), 0, none⟩])))
              (.region [⟨some 49, Go.Op.binOp Go.BinOp.add 3 (Go.Operand.tmp 30) (Go.Operand.const (Go.Value.int Go.IntKind.i64 1)) 3, 3, none⟩,
                ⟨some 30, Go.Op.move (Go.Operand.tmp 49), 3, none⟩])))))))
          (.seq (.region [⟨some 51, Go.Op.binOp Go.BinOp.eql 3 (Go.Operand.tmp 20) (Go.Operand.const (Go.Value.int Go.IntKind.i64 3)) 3, 4, none⟩,
            ⟨some 50, Go.Op.assign (Go.Operand.tmp 51), 4, none⟩])
          (.cond (Go.Operand.tmp 50)
            (.seq (.region [⟨some 52, Go.Op.move (Go.Operand.tmp 7), 60, none⟩,
              ⟨some 53, Go.Op.move (Go.Operand.tmp 2), 60, none⟩,
              ⟨some 54, Go.Op.call { callee := Go.Callee.builtin Go.Builtin.copy, args := #[Go.Operand.tmp 52, Go.Operand.tmp 53], argTypes := #[60, 60] }, 3, none⟩])
            (.seq (.region [⟨some 55, Go.Op.fieldAddr 25 (Go.Operand.tmp 3) 2, 0, none⟩,
              ⟨some 56, Go.Op.load 23 (Go.Operand.tmp 55), 23, none⟩,
              ⟨some 57, Go.Op.call { callee := Go.Callee.builtin Go.Builtin.len, args := #[Go.Operand.tmp 56], argTypes := #[23] }, 3, none⟩,
              ⟨some 58, Go.Op.move (Go.Operand.const (Go.Value.int Go.IntKind.i64 0)), 3, none⟩])
            (.block 3
              (.loop
                (.seq (.region [⟨some 59, Go.Op.binOp Go.BinOp.lss 3 (Go.Operand.tmp 58) (Go.Operand.tmp 57) 3, 0, none⟩])
                (.seq (.cond (Go.Operand.tmp 59)
                  .skip
                  (.exit 3))
                (.seq (.block 4
                  (.seq (.region [⟨some 60, Go.Op.indexAddr 23 (Go.Operand.tmp 56) (Go.Operand.tmp 58), 0, none⟩,
                    ⟨some 61, Go.Op.load 25 (Go.Operand.tmp 60), 25, none⟩,
                    ⟨some 11, Go.Op.alloc 25, 0, none⟩,
                    ⟨none, Go.Op.store 25 (Go.Operand.tmp 11) (Go.Operand.tmp 61), 0, none⟩])
                  (.region [⟨some 62, Go.Op.load 25 (Go.Operand.tmp 11), 25, none⟩,
                    ⟨some 63, Go.Op.move (Go.Operand.tmp 1), 42, none⟩,
                    ⟨some 64, Go.Op.move (Go.Operand.tmp 7), 60, none⟩,
                    ⟨some 65, Go.Op.call { callee := Go.Callee.value (Go.Operand.func 33), args := #[Go.Operand.tmp 62, Go.Operand.tmp 63, Go.Operand.tmp 64], argTypes := #[25, 42, 60] }, 60, none⟩,
                    ⟨some 7, Go.Op.assign (Go.Operand.tmp 65), 60, none⟩])))
                (.region [⟨some 66, Go.Op.binOp Go.BinOp.add 3 (Go.Operand.tmp 58) (Go.Operand.const (Go.Value.int Go.IntKind.i64 1)) 3, 3, none⟩,
                  ⟨some 58, Go.Op.move (Go.Operand.tmp 66), 3, none⟩]))))))))
            (.seq (.region [⟨some 68, Go.Op.binOp Go.BinOp.eql 3 (Go.Operand.tmp 20) (Go.Operand.const (Go.Value.int Go.IntKind.i64 4)) 3, 4, none⟩,
              ⟨some 67, Go.Op.assign (Go.Operand.tmp 68), 4, none⟩])
            (.cond (Go.Operand.tmp 67)
              (.seq (.region [⟨some 69, Go.Op.fieldAddr 25 (Go.Operand.tmp 3) 2, 0, none⟩,
                ⟨some 70, Go.Op.load 23 (Go.Operand.tmp 69), 23, none⟩,
                ⟨some 71, Go.Op.call { callee := Go.Callee.builtin Go.Builtin.len, args := #[Go.Operand.tmp 70], argTypes := #[23] }, 3, none⟩,
                ⟨some 72, Go.Op.move (Go.Operand.const (Go.Value.int Go.IntKind.i64 0)), 3, none⟩])
              (.block 5
                (.loop
                  (.seq (.region [⟨some 73, Go.Op.binOp Go.BinOp.lss 3 (Go.Operand.tmp 72) (Go.Operand.tmp 71) 3, 0, none⟩])
                  (.seq (.cond (Go.Operand.tmp 73)
                    .skip
                    (.exit 5))
                  (.seq (.block 6
                    (.seq (.region [⟨some 74, Go.Op.indexAddr 23 (Go.Operand.tmp 70) (Go.Operand.tmp 72), 0, none⟩,
                      ⟨some 75, Go.Op.load 25 (Go.Operand.tmp 74), 25, none⟩,
                      ⟨some 13, Go.Op.alloc 25, 0, none⟩,
                      ⟨none, Go.Op.store 25 (Go.Operand.tmp 13) (Go.Operand.tmp 75), 0, none⟩])
                    (.region [⟨some 76, Go.Op.move (Go.Operand.tmp 7), 60, none⟩,
                      ⟨some 77, Go.Op.load 25 (Go.Operand.tmp 13), 25, none⟩,
                      ⟨some 78, Go.Op.move (Go.Operand.tmp 1), 42, none⟩,
                      ⟨some 79, Go.Op.move (Go.Operand.tmp 2), 60, none⟩,
                      ⟨some 80, Go.Op.call { callee := Go.Callee.value (Go.Operand.func 33), args := #[Go.Operand.tmp 77, Go.Operand.tmp 78, Go.Operand.tmp 79], argTypes := #[25, 42, 60] }, 60, none⟩,
                      ⟨some 81, Go.Op.call { callee := Go.Callee.value (Go.Operand.func 49), args := #[Go.Operand.tmp 76, Go.Operand.tmp 80], argTypes := #[60, 60] }, 4, none⟩])))
                  (.region [⟨some 82, Go.Op.binOp Go.BinOp.add 3 (Go.Operand.tmp 72) (Go.Operand.const (Go.Value.int Go.IntKind.i64 1)) 3, 3, none⟩,
                    ⟨some 72, Go.Op.move (Go.Operand.tmp 82), 3, none⟩])))))))
              (.seq (.region [⟨some 84, Go.Op.binOp Go.BinOp.eql 3 (Go.Operand.tmp 20) (Go.Operand.const (Go.Value.int Go.IntKind.i64 5)) 3, 4, none⟩,
                ⟨some 83, Go.Op.assign (Go.Operand.tmp 84), 4, none⟩])
              (.cond (Go.Operand.tmp 83)
                (.seq (.region [⟨some 85, Go.Op.move (Go.Operand.tmp 2), 60, none⟩,
                  ⟨some 86, Go.Op.call { callee := Go.Callee.value (Go.Operand.func 50), args := #[Go.Operand.tmp 85], argTypes := #[60] }, 60, none⟩,
                  ⟨some 14, Go.Op.assign (Go.Operand.tmp 86), 60, none⟩])
                (.seq (.seq (.region [⟨some 87, Go.Op.fieldAddr 25 (Go.Operand.tmp 3) 3, 0, none⟩,
                  ⟨some 88, Go.Op.load 3 (Go.Operand.tmp 87), 3, none⟩,
                  ⟨some 89, Go.Op.move (Go.Operand.const (Go.Value.int Go.IntKind.i64 0)), 3, none⟩])
                (.block 7
                  (.loop
                    (.seq (.region [⟨some 90, Go.Op.binOp Go.BinOp.lss 3 (Go.Operand.tmp 89) (Go.Operand.tmp 88) 3, 4, none⟩])
                    (.seq (.cond (Go.Operand.tmp 90)
                      .skip
                      (.exit 7))
                    (.seq (.block 8
                      (.region [⟨some 91, Go.Op.fieldAddr 25 (Go.Operand.tmp 3) 2, 0, none⟩,
                        ⟨some 92, Go.Op.load 23 (Go.Operand.tmp 91), 23, none⟩,
                        ⟨some 93, Go.Op.indexAddr 23 (Go.Operand.tmp 92) (Go.Operand.const (Go.Value.int Go.IntKind.i64 0)), 0, none⟩,
                        ⟨some 94, Go.Op.load 25 (Go.Operand.tmp 93), 25, none⟩,
                        ⟨some 95, Go.Op.move (Go.Operand.tmp 1), 42, none⟩,
                        ⟨some 96, Go.Op.move (Go.Operand.tmp 14), 60, none⟩,
                        ⟨some 97, Go.Op.call { callee := Go.Callee.value (Go.Operand.func 33), args := #[Go.Operand.tmp 94, Go.Operand.tmp 95, Go.Operand.tmp 96], argTypes := #[25, 42, 60] }, 60, none⟩,
                        ⟨some 14, Go.Op.assign (Go.Operand.tmp 97), 60, none⟩]))
                    (.region [⟨some 98, Go.Op.binOp Go.BinOp.add 3 (Go.Operand.tmp 89) (Go.Operand.const (Go.Value.int Go.IntKind.i64 1)) 3, 3, none⟩,
                      ⟨some 89, Go.Op.move (Go.Operand.tmp 98), 3, none⟩])))))))
                (.seq (.region [⟨some 99, Go.Op.move (Go.Operand.tmp 7), 60, none⟩,
                  ⟨some 100, Go.Op.move (Go.Operand.tmp 14), 60, none⟩,
                  ⟨some 101, Go.Op.call { callee := Go.Callee.value (Go.Operand.func 49), args := #[Go.Operand.tmp 99, Go.Operand.tmp 100], argTypes := #[60, 60] }, 4, none⟩])
                (.seq (.region [⟨some 102, Go.Op.fieldAddr 25 (Go.Operand.tmp 3) 3, 0, none⟩,
                  ⟨some 103, Go.Op.load 3 (Go.Operand.tmp 102), 3, none⟩,
                  ⟨some 15, Go.Op.assign (Go.Operand.tmp 103), 3, none⟩])
                (.block 9
                  (.loop
                    (.seq (.seq (.region [⟨some 104, Go.Op.fieldAddr 25 (Go.Operand.tmp 3) 4, 0, none⟩,
                      ⟨some 105, Go.Op.load 3 (Go.Operand.tmp 104), 3, none⟩,
                      ⟨some 106, Go.Op.binOp Go.BinOp.lss 3 (Go.Operand.tmp 105) (Go.Operand.const (Go.Value.int Go.IntKind.i64 0)) 3, 4, none⟩,
                      ⟨some 107, Go.Op.move (Go.Operand.tmp 106), 4, none⟩,
                      ⟨some 108, Go.Op.move (Go.Operand.tmp 15), 3, (some (107, false))⟩,
                      ⟨some 109, Go.Op.fieldAddr 25 (Go.Operand.tmp 3) 4, 0, (some (107, false))⟩,
                      ⟨some 110, Go.Op.load 3 (Go.Operand.tmp 109), 3, (some (107, false))⟩,
                      ⟨some 111, Go.Op.binOp Go.BinOp.lss 3 (Go.Operand.tmp 108) (Go.Operand.tmp 110) 3, 4, (some (107, false))⟩,
                      ⟨some 112, Go.Op.pick (Go.Operand.tmp 107) (Go.Operand.const (Go.Value.bool true)) (Go.Operand.tmp 111), 4, none⟩])
                    (.cond (Go.Operand.tmp 112)
                      .skip
                      (.exit 9)))
                    (.seq (.block 10
                      (.seq (.region [⟨some 115, Go.Op.fieldAddr 25 (Go.Operand.tmp 3) 2, 0, none⟩,
                        ⟨some 116, Go.Op.load 23 (Go.Operand.tmp 115), 23, none⟩,
                        ⟨some 117, Go.Op.indexAddr 23 (Go.Operand.tmp 116) (Go.Operand.const (Go.Value.int Go.IntKind.i64 0)), 0, none⟩,
                        ⟨some 118, Go.Op.load 25 (Go.Operand.tmp 117), 25, none⟩,
                        ⟨some 119, Go.Op.move (Go.Operand.tmp 1), 42, none⟩,
                        ⟨some 120, Go.Op.move (Go.Operand.tmp 14), 60, none⟩,
                        ⟨some 121, Go.Op.call { callee := Go.Callee.value (Go.Operand.func 33), args := #[Go.Operand.tmp 118, Go.Operand.tmp 119, Go.Operand.tmp 120], argTypes := #[25, 42, 60] }, 60, none⟩,
                        ⟨some 14, Go.Op.assign (Go.Operand.tmp 121), 60, none⟩])
                      (.seq (.region [⟨some 122, Go.Op.move (Go.Operand.tmp 7), 60, none⟩,
                        ⟨some 123, Go.Op.move (Go.Operand.tmp 14), 60, none⟩,
                        ⟨some 124, Go.Op.call { callee := Go.Callee.value (Go.Operand.func 49), args := #[Go.Operand.tmp 122, Go.Operand.tmp 123], argTypes := #[60, 60] }, 4, none⟩,
                        ⟨some 125, Go.Op.unOp Go.UnOp.not 4 (Go.Operand.tmp 124), 4, none⟩])
                      (.cond (Go.Operand.tmp 125)
                        (.exit 9)
                        .skip))))
                    (.region [⟨some 113, Go.Op.move (Go.Operand.tmp 15), 3, none⟩,
                      ⟨some 114, Go.Op.binOp Go.BinOp.add 3 (Go.Operand.tmp 113) (Go.Operand.const (Go.Value.int Go.IntKind.i64 1)) 3, 3, none⟩,
                      ⟨some 15, Go.Op.assign (Go.Operand.tmp 114), 3, none⟩])))))))))
                .skip))))))))))))
    (.seq (.region [⟨some 126, Go.Op.move (Go.Operand.tmp 7), 60, none⟩,
      ⟨some 6, Go.Op.assign (Go.Operand.tmp 126), 60, none⟩])
    .ret)))) :=
  ⟨foll, Tryz.f33, Tryz.func33, by kernel_rfl, by kernel_rfl, by kernel_rfl, by rw [Tryz.ntmps33]; decide⟩

/-- narrator.utf8stream.begin -/
theorem fn46 : FnIs Tryz.prog 46 1 [Go.ResultVar.cell 2 72] (.seq (.region [⟨some 2, Go.Op.alloc 72, 0, none⟩])
    (.seq (.region [⟨some 4, Go.Op.build 72 #[(2, Go.Operand.const (Go.Value.int Go.IntKind.u8 128)), (3, Go.Operand.const (Go.Value.int Go.IntKind.u8 191))], 72, none⟩,
      ⟨some 3, Go.Op.alloc 72, 0, none⟩,
      ⟨none, Go.Op.store 72 (Go.Operand.tmp 3) (Go.Operand.tmp 4), 0, none⟩])
    (.seq (.block 0
      (.seq (.region [⟨some 6, Go.Op.move (Go.Operand.tmp 0), 5, none⟩,
        ⟨some 7, Go.Op.binOp Go.BinOp.geq 5 (Go.Operand.tmp 6) (Go.Operand.const (Go.Value.int Go.IntKind.u8 194)) 5, 4, none⟩,
        ⟨some 8, Go.Op.move (Go.Operand.tmp 7), 4, none⟩,
        ⟨some 9, Go.Op.move (Go.Operand.tmp 0), 5, (some (8, true))⟩,
        ⟨some 10, Go.Op.binOp Go.BinOp.leq 5 (Go.Operand.tmp 9) (Go.Operand.const (Go.Value.int Go.IntKind.u8 223)) 5, 4, (some (8, true))⟩,
        ⟨some 11, Go.Op.pick (Go.Operand.tmp 8) (Go.Operand.tmp 10) (Go.Operand.const (Go.Value.bool false)), 4, none⟩,
        ⟨some 5, Go.Op.assign (Go.Operand.tmp 11), 4, none⟩])
      (.cond (Go.Operand.tmp 5)
        (.region [⟨some 12, Go.Op.move (Go.Operand.tmp 0), 5, none⟩,
          ⟨some 13, Go.Op.binOp Go.BinOp.and 5 (Go.Operand.tmp 12) (Go.Operand.const (Go.Value.int Go.IntKind.u8 31)) 5, 5, none⟩,
          ⟨some 14, Go.Op.convert 5 21 (Go.Operand.tmp 13), 21, none⟩,
          ⟨some 15, Go.Op.fieldAddr 72 (Go.Operand.tmp 3) 0, 0, none⟩,
          ⟨none, Go.Op.store 21 (Go.Operand.tmp 15) (Go.Operand.tmp 14), 0, none⟩,
          ⟨some 16, Go.Op.fieldAddr 72 (Go.Operand.tmp 3) 1, 0, none⟩,
          ⟨none, Go.Op.store 3 (Go.Operand.tmp 16) (Go.Operand.const (Go.Value.int Go.IntKind.i64 1)), 0, none⟩])
        (.seq (.region [⟨some 18, Go.Op.move (Go.Operand.tmp 0), 5, none⟩,
          ⟨some 19, Go.Op.binOp Go.BinOp.geq 5 (Go.Operand.tmp 18) (Go.Operand.const (Go.Value.int Go.IntKind.u8 224)) 5, 4, none⟩,
          ⟨some 20, Go.Op.move (Go.Operand.tmp 19), 4, none⟩,
          ⟨some 21, Go.Op.move (Go.Operand.tmp 0), 5, (some (20, true))⟩,
          ⟨some 22, Go.Op.binOp Go.BinOp.leq 5 (Go.Operand.tmp 21) (Go.Operand.const (Go.Value.int Go.IntKind.u8 239)) 5, 4, (some (20, true))⟩,
          ⟨some 23, Go.Op.pick (Go.Operand.tmp 20) (Go.Operand.tmp 22) (Go.Operand.const (Go.Value.bool false)), 4, none⟩,
          ⟨some 17, Go.Op.assign (Go.Operand.tmp 23), 4, none⟩])
        (.cond (Go.Operand.tmp 17)
          (.region [⟨some 24, Go.Op.move (Go.Operand.tmp 0), 5, none⟩,
            ⟨some 25, Go.Op.binOp Go.BinOp.and 5 (Go.Operand.tmp 24) (Go.Operand.const (Go.Value.int Go.IntKind.u8 15)) 5, 5, none⟩,
            ⟨some 26, Go.Op.convert 5 21 (Go.Operand.tmp 25), 21, none⟩,
            ⟨some 27, Go.Op.fieldAddr 72 (Go.Operand.tmp 3) 0, 0, none⟩,
            ⟨none, Go.Op.store 21 (Go.Operand.tmp 27) (Go.Operand.tmp 26), 0, none⟩,
            ⟨some 28, Go.Op.fieldAddr 72 (Go.Operand.tmp 3) 1, 0, none⟩,
            ⟨none, Go.Op.store 3 (Go.Operand.tmp 28) (Go.Operand.const (Go.Value.int Go.IntKind.i64 2)), 0, none⟩])
          (.seq (.region [⟨some 30, Go.Op.move (Go.Operand.tmp 0), 5, none⟩,
            ⟨some 31, Go.Op.binOp Go.BinOp.geq 5 (Go.Operand.tmp 30) (Go.Operand.const (Go.Value.int Go.IntKind.u8 240)) 5, 4, none⟩,
            ⟨some 32, Go.Op.move (Go.Operand.tmp 31), 4, none⟩,
            ⟨some 33, Go.Op.move (Go.Operand.tmp 0), 5, (some (32, true))⟩,
            ⟨some 34, Go.Op.binOp Go.BinOp.leq 5 (Go.Operand.tmp 33) (Go.Operand.const (Go.Value.int Go.IntKind.u8 244)) 5, 4, (some (32, true))⟩,
            ⟨some 35, Go.Op.pick (Go.Operand.tmp 32) (Go.Operand.tmp 34) (Go.Operand.const (Go.Value.bool false)), 4, none⟩,
            ⟨some 29, Go.Op.assign (Go.Operand.tmp 35), 4, none⟩])
          (.cond (Go.Operand.tmp 29)
            (.region [⟨some 36, Go.Op.move (Go.Operand.tmp 0), 5, none⟩,
              ⟨some 37, Go.Op.binOp Go.BinOp.and 5 (Go.Operand.tmp 36) (Go.Operand.const (Go.Value.int Go.IntKind.u8 7)) 5, 5, none⟩,
              ⟨some 38, Go.Op.convert 5 21 (Go.Operand.tmp 37), 21, none⟩,
              ⟨some 39, Go.Op.fieldAddr 72 (Go.Operand.tmp 3) 0, 0, none⟩,
              ⟨none, Go.Op.store 21 (Go.Operand.tmp 39) (Go.Operand.tmp 38), 0, none⟩,
              ⟨some 40, Go.Op.fieldAddr 72 (Go.Operand.tmp 3) 1, 0, none⟩,
              ⟨none, Go.Op.store 3 (Go.Operand.tmp 40) (Go.Operand.const (Go.Value.int Go.IntKind.i64 3)), 0, none⟩])
            .skip)))))))
    (.seq (.seq (.region [⟨some 41, Go.Op.move (Go.Operand.tmp 0), 5, none⟩])
    (.block 1
      (.seq (.region [⟨some 43, Go.Op.binOp Go.BinOp.eql 5 (Go.Operand.tmp 41) (Go.Operand.const (Go.Value.int Go.IntKind.u8 224)) 5, 4, none⟩,
        ⟨some 42, Go.Op.assign (Go.Operand.tmp 43), 4, none⟩])
      (.cond (Go.Operand.tmp 42)
        (.region [⟨some 44, Go.Op.fieldAddr 72 (Go.Operand.tmp 3) 2, 0, none⟩,
          ⟨none, Go.Op.store 5 (Go.Operand.tmp 44) (Go.Operand.const (Go.Value.int Go.IntKind.u8 160)), 0, none⟩])
        (.seq (.region [⟨some 46, Go.Op.binOp Go.BinOp.eql 5 (Go.Operand.tmp 41) (Go.Operand.const (Go.Value.int Go.IntKind.u8 237)) 5, 4, none⟩,
          ⟨some 45, Go.Op.assign (Go.Operand.tmp 46), 4, none⟩])
        (.cond (Go.Operand.tmp 45)
          (.region [⟨some 47, Go.Op.fieldAddr 72 (Go.Operand.tmp 3) 3, 0, none⟩,
            ⟨none, Go.Op.store 5 (Go.Operand.tmp 47) (Go.Operand.const (Go.Value.int Go.IntKind.u8 159)), 0, none⟩])
          (.seq (.region [⟨some 49, Go.Op.binOp Go.BinOp.eql 5 (Go.Operand.tmp 41) (Go.Operand.const (Go.Value.int Go.IntKind.u8 240)) 5, 4, none⟩,
            ⟨some 48, Go.Op.assign (Go.Operand.tmp 49), 4, none⟩])
          (.cond (Go.Operand.tmp 48)
            (.region [⟨some 50, Go.Op.fieldAddr 72 (Go.Operand.tmp 3) 2, 0, none⟩,
              ⟨none, Go.Op.store 5 (Go.Operand.tmp 50) (Go.Operand.const (Go.Value.int Go.IntKind.u8 144)), 0, none⟩])
            (.seq (.region [⟨some 52, Go.Op.binOp Go.BinOp.eql 5 (Go.Operand.tmp 41) (Go.Operand.const (Go.Value.int Go.IntKind.u8 244)) 5, 4, none⟩,
              ⟨some 51, Go.Op.assign (Go.Operand.tmp 52), 4, none⟩])
            (.cond (Go.Operand.tmp 51)
              (.region [⟨some 53, Go.Op.fieldAddr 72 (Go.Operand.tmp 3) 3, 0, none⟩,
                ⟨none, Go.Op.store 5 (Go.Operand.tmp 53) (Go.Operand.const (Go.Value.int Go.IntKind.u8 143)), 0, none⟩])
              .skip))))))))))
    (.seq (.region [⟨some 54, Go.Op.load 72 (Go.Operand.tmp 3), 72, none⟩,
      ⟨none, Go.Op.store 72 (Go.Operand.tmp 2) (Go.Operand.tmp 54), 0, none⟩])
    .ret))))) :=
  ⟨foll, Tryz.f46, Tryz.func46, by kernel_rfl, by kernel_rfl, by kernel_rfl, by rw [Tryz.ntmps46]; decide⟩

/-- slices.ContainsFunc[[]narrator.api.Range,narrator.api.Range] -/
theorem fn47 : FnIs Tryz.prog 47 2 [Go.ResultVar.tmp 4] (.seq (.region [⟨some 4, Go.Op.assign (Go.Operand.const (Go.Value.bool false)), 4, none⟩])
    (.seq (.region [⟨some 5, Go.Op.move (Go.Operand.tmp 0), 22, none⟩,
      ⟨some 6, Go.Op.move (Go.Operand.tmp 1), 76, none⟩,
      ⟨some 7, Go.Op.call { callee := Go.Callee.value (Go.Operand.func 68), args := #[Go.Operand.tmp 5, Go.Operand.tmp 6], argTypes := #[22, 76] }, 3, none⟩,
      ⟨some 8, Go.Op.binOp Go.BinOp.geq 3 (Go.Operand.tmp 7) (Go.Operand.const (Go.Value.int Go.IntKind.i64 0)) 3, 4, none⟩,
      ⟨some 4, Go.Op.assign (Go.Operand.tmp 8), 4, none⟩])
    .ret)) :=
  ⟨foll, Tryz.f47, Tryz.func47, by kernel_rfl, by kernel_rfl, by kernel_rfl, by rw [Tryz.ntmps47]; decide⟩

/-- narrator.pattern.reach$1 -/
theorem fn48 : FnIs Tryz.prog 48 2 [Go.ResultVar.tmp 3] (.seq (.region [⟨some 2, Go.Op.box 44 (Go.Operand.tmp 0), 0, none⟩,
      ⟨some 3, Go.Op.assign (Go.Operand.const (Go.Value.bool false)), 4, none⟩])
    (.seq (.region [⟨some 4, Go.Op.load 21 (Go.Operand.tmp 1), 21, none⟩,
      ⟨some 5, Go.Op.fieldAddr 44 (Go.Operand.tmp 2) 0, 0, none⟩,
      ⟨some 6, Go.Op.load 21 (Go.Operand.tmp 5), 21, none⟩,
      ⟨some 7, Go.Op.binOp Go.BinOp.geq 21 (Go.Operand.tmp 4) (Go.Operand.tmp 6) 21, 4, none⟩,
      ⟨some 8, Go.Op.move (Go.Operand.tmp 7), 4, none⟩,
      ⟨some 9, Go.Op.load 21 (Go.Operand.tmp 1), 21, (some (8, true))⟩,
      ⟨some 10, Go.Op.fieldAddr 44 (Go.Operand.tmp 2) 1, 0, (some (8, true))⟩,
      ⟨some 11, Go.Op.load 21 (Go.Operand.tmp 10), 21, (some (8, true))⟩,
      ⟨some 12, Go.Op.binOp Go.BinOp.leq 21 (Go.Operand.tmp 9) (Go.Operand.tmp 11) 21, 4, (some (8, true))⟩,
      ⟨some 13, Go.Op.pick (Go.Operand.tmp 8) (Go.Operand.tmp 12) (Go.Operand.const (Go.Value.bool false)), 4, none⟩,
      ⟨some 3, Go.Op.assign (Go.Operand.tmp 13), 4, none⟩])
    .ret)) :=
  ⟨foll, Tryz.f48, Tryz.func48, by kernel_rfl, by kernel_rfl, by kernel_rfl, by rw [Tryz.ntmps48]; decide⟩

/-- narrator.pattern.union -/
theorem fn49 : FnIs Tryz.prog 49 2 [Go.ResultVar.tmp 4] (.seq (.region [⟨some 4, Go.Op.assign (Go.Operand.const (Go.Value.bool false)), 4, none⟩])
    (.seq (.region [⟨some 5, Go.Op.assign (Go.Operand.const (Go.Value.bool false)), 4, none⟩])
    (.seq (.seq (.region [⟨some 8, Go.Op.move (Go.Operand.tmp 1), 60, none⟩,
      ⟨some 9, Go.Op.call { callee := Go.Callee.builtin Go.Builtin.len, args := #[Go.Operand.tmp 8], argTypes := #[60] }, 3, none⟩,
      ⟨some 10, Go.Op.move (Go.Operand.const (Go.Value.int Go.IntKind.i64 0)), 3, none⟩])
    (.block 0
      (.loop
        (.seq (.region [⟨some 11, Go.Op.binOp Go.BinOp.lss 3 (Go.Operand.tmp 10) (Go.Operand.tmp 9) 3, 0, none⟩])
        (.seq (.cond (Go.Operand.tmp 11)
          .skip
          (.exit 0))
        (.seq (.block 1
          (.seq (.region [⟨some 12, Go.Op.move (Go.Operand.tmp 10), 3, none⟩,
            ⟨some 13, Go.Op.indexAddr 60 (Go.Operand.tmp 8) (Go.Operand.tmp 10), 0, none⟩,
            ⟨some 14, Go.Op.load 4 (Go.Operand.tmp 13), 4, none⟩,
            ⟨some 6, Go.Op.assign (Go.Operand.tmp 12), 3, none⟩,
            ⟨some 7, Go.Op.assign (Go.Operand.tmp 14), 4, none⟩])
          (.seq (.region [⟨some 15, Go.Op.move (Go.Operand.tmp 7), 4, none⟩,
            ⟨some 16, Go.Op.move (Go.Operand.tmp 15), 4, none⟩,
            ⟨some 17, Go.Op.move (Go.Operand.tmp 0), 60, (some (16, true))⟩,
            ⟨some 18, Go.Op.move (Go.Operand.tmp 6), 3, (some (16, true))⟩,
            ⟨some 19, Go.Op.indexAddr 60 (Go.Operand.tmp 17) (Go.Operand.tmp 18), 0, (some (16, true))⟩,
            ⟨some 20, Go.Op.load 4 (Go.Operand.tmp 19), 4, (some (16, true))⟩,
            ⟨some 21, Go.Op.unOp Go.UnOp.not 4 (Go.Operand.tmp 20), 4, (some (16, true))⟩,
            ⟨some 22, Go.Op.pick (Go.Operand.tmp 16) (Go.Operand.tmp 21) (Go.Operand.const (Go.Value.bool false)), 4, none⟩])
          (.cond (Go.Operand.tmp 22)
            (.region [⟨some 23, Go.Op.move (Go.Operand.tmp 0), 60, none⟩,
              ⟨some 24, Go.Op.move (Go.Operand.tmp 6), 3, none⟩,
              ⟨some 25, Go.Op.indexAddr 60 (Go.Operand.tmp 23) (Go.Operand.tmp 24), 0, none⟩,
              ⟨none, Go.Op.store 4 (Go.Operand.tmp 25) (Go.Operand.const (Go.Value.bool true)), 0, none⟩,
              ⟨some 5, Go.Op.assign (Go.Operand.const (Go.Value.bool true)), 4, none⟩])
            .skip))))
        (.region [⟨some 26, Go.Op.binOp Go.BinOp.add 3 (Go.Operand.tmp 10) (Go.Operand.const (Go.Value.int Go.IntKind.i64 1)) 3, 3, none⟩,
          ⟨some 10, Go.Op.move (Go.Operand.tmp 26), 3, none⟩])))))))
    (.seq (.region [⟨some 27, Go.Op.move (Go.Operand.tmp 5), 4, none⟩,
      ⟨some 4, Go.Op.assign (Go.Operand.tmp 27), 4, none⟩])
    .ret)))) :=
  ⟨foll, Tryz.f49, Tryz.func49, by kernel_rfl, by kernel_rfl, by kernel_rfl, by rw [Tryz.ntmps49]; decide⟩

/-- slices.Clone[[]bool,bool] -/
theorem fn50 : FnIs Tryz.prog 50 1 [Go.ResultVar.tmp 2] (.seq (.region [⟨some 2, Go.Op.assign (Go.Operand.const (Go.Value.slice none 0 0)), 60, none⟩])
    (.seq (.seq (.region [⟨some 3, Go.Op.move (Go.Operand.tmp 0), 60, none⟩,
      ⟨some 4, Go.Op.binOp Go.BinOp.eql 60 (Go.Operand.tmp 3) (Go.Operand.const (Go.Value.slice none 0 0)) 60, 4, none⟩])
    (.cond (Go.Operand.tmp 4)
      (.seq (.region [⟨some 2, Go.Op.assign (Go.Operand.const (Go.Value.slice none 0 0)), 60, none⟩])
      .ret)
      .skip))
    (.seq (.region [⟨some 5, Go.Op.buildSlice 60 0 #[], 60, none⟩,
      ⟨some 6, Go.Op.move (Go.Operand.tmp 0), 60, none⟩,
      ⟨some 7, Go.Op.call { callee := Go.Callee.builtin Go.Builtin.append, args := #[Go.Operand.tmp 5, Go.Operand.tmp 6], argTypes := #[60, 60] }, 60, none⟩,
      ⟨some 2, Go.Op.assign (Go.Operand.tmp 7), 60, none⟩])
    .ret))) :=
  ⟨foll, Tryz.f50, Tryz.func50, by kernel_rfl, by kernel_rfl, by kernel_rfl, by rw [Tryz.ntmps50]; decide⟩

/-- slices.IndexFunc[[]narrator.api.Range,narrator.api.Range] -/
theorem fn68 : FnIs Tryz.prog 68 2 [Go.ResultVar.tmp 4] (.seq (.region [⟨some 4, Go.Op.assign (Go.Operand.const (Go.Value.int Go.IntKind.i64 0)), 3, none⟩])
    (.seq (.seq (.region [⟨some 6, Go.Op.move (Go.Operand.tmp 0), 22, none⟩,
      ⟨some 7, Go.Op.call { callee := Go.Callee.builtin Go.Builtin.len, args := #[Go.Operand.tmp 6], argTypes := #[22] }, 3, none⟩,
      ⟨some 8, Go.Op.move (Go.Operand.const (Go.Value.int Go.IntKind.i64 0)), 3, none⟩])
    (.block 0
      (.loop
        (.seq (.region [⟨some 9, Go.Op.binOp Go.BinOp.lss 3 (Go.Operand.tmp 8) (Go.Operand.tmp 7) 3, 0, none⟩])
        (.seq (.cond (Go.Operand.tmp 9)
          .skip
          (.exit 0))
        (.seq (.block 1
          (.seq (.region [⟨some 10, Go.Op.move (Go.Operand.tmp 8), 3, none⟩,
            ⟨some 5, Go.Op.assign (Go.Operand.tmp 10), 3, none⟩])
          (.seq (.region [⟨some 11, Go.Op.move (Go.Operand.tmp 1), 76, none⟩,
            ⟨some 12, Go.Op.move (Go.Operand.tmp 0), 22, none⟩,
            ⟨some 13, Go.Op.move (Go.Operand.tmp 5), 3, none⟩,
            ⟨some 14, Go.Op.indexAddr 22 (Go.Operand.tmp 12) (Go.Operand.tmp 13), 0, none⟩,
            ⟨some 15, Go.Op.load 44 (Go.Operand.tmp 14), 44, none⟩,
            ⟨some 16, Go.Op.call { callee := Go.Callee.value (Go.Operand.tmp 11), args := #[Go.Operand.tmp 15], argTypes := #[44] }, 4, none⟩])
          (.cond (Go.Operand.tmp 16)
            (.seq (.region [⟨some 17, Go.Op.move (Go.Operand.tmp 5), 3, none⟩,
              ⟨some 4, Go.Op.assign (Go.Operand.tmp 17), 3, none⟩])
            .ret)
            .skip))))
        (.region [⟨some 18, Go.Op.binOp Go.BinOp.add 3 (Go.Operand.tmp 8) (Go.Operand.const (Go.Value.int Go.IntKind.i64 1)) 3, 3, none⟩,
          ⟨some 8, Go.Op.move (Go.Operand.tmp 18), 3, none⟩])))))))
    (.seq (.region [⟨some 4, Go.Op.assign (Go.Operand.const (Go.Value.int Go.IntKind.i64 (-1))), 3, none⟩])
    .ret))) :=
  ⟨foll, Tryz.f68, Tryz.func68, by kernel_rfl, by kernel_rfl, by kernel_rfl, by rw [Tryz.ntmps68]; decide⟩

end Go.Proofs.YtebejiilpedlmaaGreatDoor
