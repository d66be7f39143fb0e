/- The prepared code of further functions. Written by a program of mine (gen.py) out of what the loaded dump prints. -/
import Derived.Test.YtebejiilpedlmaaGreatDoorBase31
set_option linter.unusedVariables false
set_option maxRecDepth 100000
namespace Go.Proofs.YtebejiilpedlmaaGreatDoor
open Go Nv

/-- narrator.narratorlaw31.PatternSets -/
theorem fn9 : FnIs Tryz.prog 9 3 [Go.ResultVar.tmp 6] (.seq (.region [⟨some 6, Go.Op.assign (Go.Operand.const (Go.Value.bool false)), 4, none⟩])
    (.seq (.region [⟨some 15, Go.Op.move (Go.Operand.tmp 1), 21, none⟩,
      ⟨some 16, Go.Op.buildSlice 42 1 #[(0, Go.Operand.tmp 15)], 42, none⟩,
      ⟨some 17, Go.Op.call { callee := Go.Callee.value (Go.Operand.func 21), args := #[Go.Operand.tmp 16], argTypes := #[42] }, 9, none⟩,
      ⟨some 7, Go.Op.assign (Go.Operand.tmp 17), 9, none⟩])
    (.seq (.seq (.region [⟨some 18, Go.Op.move (Go.Operand.tmp 1), 21, none⟩,
      ⟨some 19, Go.Op.binOp Go.BinOp.lss 21 (Go.Operand.tmp 18) (Go.Operand.const (Go.Value.int Go.IntKind.i32 0)) 21, 4, none⟩,
      ⟨some 20, Go.Op.move (Go.Operand.tmp 19), 4, none⟩,
      ⟨some 21, Go.Op.move (Go.Operand.tmp 1), 21, (some (20, false))⟩,
      ⟨some 22, Go.Op.binOp Go.BinOp.gtr 21 (Go.Operand.tmp 21) (Go.Operand.const (Go.Value.int Go.IntKind.i32 1114111)) 21, 4, (some (20, false))⟩,
      ⟨some 23, Go.Op.pick (Go.Operand.tmp 20) (Go.Operand.const (Go.Value.bool true)) (Go.Operand.tmp 22), 4, none⟩,
      ⟨some 24, Go.Op.move (Go.Operand.tmp 23), 4, none⟩,
      ⟨some 25, Go.Op.move (Go.Operand.tmp 1), 21, (some (24, false))⟩,
      ⟨some 26, Go.Op.binOp Go.BinOp.geq 21 (Go.Operand.tmp 25) (Go.Operand.const (Go.Value.int Go.IntKind.i32 55296)) 21, 4, (some (24, false))⟩,
      ⟨some 27, Go.Op.move (Go.Operand.tmp 26), 4, (some (24, false))⟩,
      ⟨some 28, Go.Op.move (Go.Operand.tmp 1), 21, (some (27, true))⟩,
      ⟨some 29, Go.Op.binOp Go.BinOp.leq 21 (Go.Operand.tmp 28) (Go.Operand.const (Go.Value.int Go.IntKind.i32 57343)) 21, 4, (some (27, true))⟩,
      ⟨some 30, Go.Op.pick (Go.Operand.tmp 27) (Go.Operand.tmp 29) (Go.Operand.const (Go.Value.bool false)), 4, (some (24, false))⟩,
      ⟨some 31, Go.Op.pick (Go.Operand.tmp 24) (Go.Operand.const (Go.Value.bool true)) (Go.Operand.tmp 30), 4, none⟩,
      ⟨some 32, Go.Op.move (Go.Operand.tmp 31), 4, none⟩,
      ⟨some 33, Go.Op.move (Go.Operand.tmp 2), 9, (some (32, false))⟩,
      ⟨some 34, Go.Op.call { callee := Go.Callee.builtin Go.Builtin.len, args := #[Go.Operand.tmp 33], argTypes := #[9] }, 3, (some (32, false))⟩,
      ⟨some 35, Go.Op.binOp Go.BinOp.gtr 3 (Go.Operand.tmp 34) (Go.Operand.const (Go.Value.int Go.IntKind.i64 40)) 3, 4, (some (32, false))⟩,
      ⟨some 36, Go.Op.pick (Go.Operand.tmp 32) (Go.Operand.const (Go.Value.bool true)) (Go.Operand.tmp 35), 4, none⟩])
    (.cond (Go.Operand.tmp 36)
      (.seq (.region [⟨some 37, Go.Op.call { callee := Go.Callee.value (Go.Operand.func 11), args := #[], argTypes := #[] }, 4, none⟩,
        ⟨some 6, Go.Op.assign (Go.Operand.tmp 37), 4, none⟩])
      .ret)
      .skip))
    (.seq (.region [⟨some 38, Go.Op.move (Go.Operand.tmp 0), 22, none⟩,
      ⟨some 39, Go.Op.build 25 #[(0, Go.Operand.const (Go.Value.int Go.IntKind.i64 2)), (1, Go.Operand.tmp 38)], 25, none⟩,
      ⟨some 8, Go.Op.alloc 25, 0, none⟩,
      ⟨none, Go.Op.store 25 (Go.Operand.tmp 8) (Go.Operand.tmp 39), 0, none⟩])
    (.seq (.seq (.region [⟨some 40, Go.Op.move (Go.Operand.tmp 0), 22, none⟩,
      ⟨some 41, Go.Op.call { callee := Go.Callee.builtin Go.Builtin.len, args := #[Go.Operand.tmp 40], argTypes := #[22] }, 3, none⟩,
      ⟨some 42, Go.Op.binOp Go.BinOp.leq 3 (Go.Operand.tmp 41) (Go.Operand.const (Go.Value.int Go.IntKind.i64 60)) 3, 4, none⟩,
      ⟨some 43, Go.Op.move (Go.Operand.tmp 42), 4, none⟩,
      ⟨some 44, Go.Op.load 25 (Go.Operand.tmp 8), 25, (some (43, true))⟩,
      ⟨some 45, Go.Op.call { callee := Go.Callee.value (Go.Operand.func 13), args := #[Go.Operand.tmp 44], argTypes := #[25] }, 28, (some (43, true))⟩,
      ⟨some 46, Go.Op.binOp Go.BinOp.eql 28 (Go.Operand.tmp 45) (Go.Operand.const (Go.Value.int Go.IntKind.i64 0)) 28, 4, (some (43, true))⟩,
      ⟨some 47, Go.Op.pick (Go.Operand.tmp 43) (Go.Operand.tmp 46) (Go.Operand.const (Go.Value.bool false)), 4, none⟩])
    (.cond (Go.Operand.tmp 47)
      (.seq (.region [⟨some 9, Go.Op.assign (Go.Operand.const (Go.Value.bool false)), 4, none⟩])
      (.seq (.seq (.region [⟨some 10, Go.Op.assign (Go.Operand.const (Go.Value.int Go.IntKind.i64 0)), 3, none⟩])
      (.block 0
        (.loop
          (.seq (.seq (.region [⟨some 48, Go.Op.move (Go.Operand.tmp 10), 3, none⟩,
            ⟨some 49, Go.Op.move (Go.Operand.tmp 0), 22, none⟩,
            ⟨some 50, Go.Op.call { callee := Go.Callee.builtin Go.Builtin.len, args := #[Go.Operand.tmp 49], argTypes := #[22] }, 3, none⟩,
            ⟨some 51, Go.Op.binOp Go.BinOp.lss 3 (Go.Operand.tmp 48) (Go.Operand.tmp 50) 3, 4, none⟩])
          (.cond (Go.Operand.tmp 51)
            .skip
            (.exit 0)))
          (.seq (.block 1
            (.region [⟨some 54, Go.Op.move (Go.Operand.tmp 9), 4, none⟩,
              ⟨some 55, Go.Op.move (Go.Operand.tmp 54), 4, none⟩,
              ⟨some 56, Go.Op.move (Go.Operand.tmp 1), 21, (some (55, false))⟩,
              ⟨some 57, Go.Op.move (Go.Operand.tmp 0), 22, (some (55, false))⟩,
              ⟨some 58, Go.Op.move (Go.Operand.tmp 10), 3, (some (55, false))⟩,
              ⟨some 59, Go.Op.indexAddr 22 (Go.Operand.tmp 57) (Go.Operand.tmp 58), 0, (some (55, false))⟩,
              ⟨some 60, Go.Op.fieldAddr 44 (Go.Operand.tmp 59) 0, 0, (some (55, false))⟩,
              ⟨some 61, Go.Op.load 21 (Go.Operand.tmp 60), 21, (some (55, false))⟩,
              ⟨some 62, Go.Op.binOp Go.BinOp.geq 21 (Go.Operand.tmp 56) (Go.Operand.tmp 61) 21, 4, (some (55, false))⟩,
              ⟨some 63, Go.Op.move (Go.Operand.tmp 62), 4, (some (55, false))⟩,
              ⟨some 64, Go.Op.move (Go.Operand.tmp 1), 21, (some (63, true))⟩,
              ⟨some 65, Go.Op.move (Go.Operand.tmp 0), 22, (some (63, true))⟩,
              ⟨some 66, Go.Op.move (Go.Operand.tmp 10), 3, (some (63, true))⟩,
              ⟨some 67, Go.Op.indexAddr 22 (Go.Operand.tmp 65) (Go.Operand.tmp 66), 0, (some (63, true))⟩,
              ⟨some 68, Go.Op.fieldAddr 44 (Go.Operand.tmp 67) 1, 0, (some (63, true))⟩,
              ⟨some 69, Go.Op.load 21 (Go.Operand.tmp 68), 21, (some (63, true))⟩,
              ⟨some 70, Go.Op.binOp Go.BinOp.leq 21 (Go.Operand.tmp 64) (Go.Operand.tmp 69) 21, 4, (some (63, true))⟩,
              ⟨some 71, Go.Op.pick (Go.Operand.tmp 63) (Go.Operand.tmp 70) (Go.Operand.const (Go.Value.bool false)), 4, (some (55, false))⟩,
              ⟨some 72, Go.Op.pick (Go.Operand.tmp 55) (Go.Operand.const (Go.Value.bool true)) (Go.Operand.tmp 71), 4, none⟩,
              ⟨some 9, Go.Op.assign (Go.Operand.tmp 72), 4, none⟩]))
          (.region [⟨some 52, Go.Op.move (Go.Operand.tmp 10), 3, none⟩,
            ⟨some 53, Go.Op.binOp Go.BinOp.add 3 (Go.Operand.tmp 52) (Go.Operand.const (Go.Value.int Go.IntKind.i64 1)) 3, 3, none⟩,
            ⟨some 10, Go.Op.assign (Go.Operand.tmp 53), 3, none⟩]))))))
      (.seq (.region [⟨some 73, Go.Op.load 25 (Go.Operand.tmp 8), 25, none⟩,
        ⟨some 74, Go.Op.move (Go.Operand.tmp 7), 9, none⟩,
        ⟨some 75, Go.Op.call { callee := Go.Callee.value (Go.Operand.func 17), args := #[Go.Operand.tmp 73, Go.Operand.tmp 74], argTypes := #[25, 9] }, 4, none⟩,
        ⟨some 76, Go.Op.move (Go.Operand.tmp 9), 4, none⟩,
        ⟨some 77, Go.Op.binOp Go.BinOp.neq 4 (Go.Operand.tmp 75) (Go.Operand.tmp 76) 4, 4, none⟩,
        ⟨some 78, Go.Op.move (Go.Operand.tmp 77), 4, none⟩,
        ⟨some 79, Go.Op.load 25 (Go.Operand.tmp 8), 25, (some (78, false))⟩,
        ⟨some 80, Go.Op.call { callee := Go.Callee.value (Go.Operand.func 17), args := #[Go.Operand.tmp 79, Go.Operand.const (Go.Value.string { data := #[] })], argTypes := #[25, 9] }, 4, (some (78, false))⟩,
        ⟨some 81, Go.Op.pick (Go.Operand.tmp 78) (Go.Operand.const (Go.Value.bool true)) (Go.Operand.tmp 80), 4, none⟩,
        ⟨some 82, Go.Op.move (Go.Operand.tmp 81), 4, none⟩,
        ⟨some 83, Go.Op.load 25 (Go.Operand.tmp 8), 25, (some (82, false))⟩,
        ⟨some 84, Go.Op.move (Go.Operand.tmp 7), 9, (some (82, false))⟩,
        ⟨some 85, Go.Op.move (Go.Operand.tmp 7), 9, (some (82, false))⟩,
        ⟨some 86, Go.Op.binOp Go.BinOp.add 9 (Go.Operand.tmp 84) (Go.Operand.tmp 85) 9, 9, (some (82, false))⟩,
        ⟨some 87, Go.Op.call { callee := Go.Callee.value (Go.Operand.func 17), args := #[Go.Operand.tmp 83, Go.Operand.tmp 86], argTypes := #[25, 9] }, 4, (some (82, false))⟩,
        ⟨some 88, Go.Op.pick (Go.Operand.tmp 82) (Go.Operand.const (Go.Value.bool true)) (Go.Operand.tmp 87), 4, none⟩])
      (.cond (Go.Operand.tmp 88)
        (.seq (.region [⟨some 6, Go.Op.assign (Go.Operand.const (Go.Value.bool false)), 4, none⟩])
        .ret)
        .skip))))
      .skip))
    (.seq (.region [⟨some 90, Go.Op.move (Go.Operand.tmp 2), 9, none⟩,
      ⟨some 91, Go.Op.binOp Go.BinOp.add 9 (Go.Operand.const (Go.Value.string { data := #[91] })) (Go.Operand.tmp 90) 9, 9, none⟩,
      ⟨some 92, Go.Op.binOp Go.BinOp.add 9 (Go.Operand.tmp 91) (Go.Operand.const (Go.Value.string { data := #[93] })) 9, 9, none⟩,
      ⟨some 93, Go.Op.call { callee := Go.Callee.value (Go.Operand.func 14), args := #[Go.Operand.tmp 92], argTypes := #[9] }, 32, none⟩,
      ⟨some 89, Go.Op.move (Go.Operand.tmp 93), 32, none⟩,
      ⟨some 94, Go.Op.extract (Go.Operand.tmp 89) 0, 25, none⟩,
      ⟨some 95, Go.Op.extract (Go.Operand.tmp 89) 1, 28, none⟩,
      ⟨some 11, Go.Op.alloc 25, 0, none⟩,
      ⟨none, Go.Op.store 25 (Go.Operand.tmp 11) (Go.Operand.tmp 94), 0, none⟩,
      ⟨some 12, Go.Op.assign (Go.Operand.tmp 95), 28, none⟩])
    (.seq (.region [⟨some 97, Go.Op.move (Go.Operand.tmp 2), 9, none⟩,
      ⟨some 98, Go.Op.binOp Go.BinOp.add 9 (Go.Operand.const (Go.Value.string { data := #[91, 94] })) (Go.Operand.tmp 97) 9, 9, none⟩,
      ⟨some 99, Go.Op.binOp Go.BinOp.add 9 (Go.Operand.tmp 98) (Go.Operand.const (Go.Value.string { data := #[93] })) 9, 9, none⟩,
      ⟨some 100, Go.Op.call { callee := Go.Callee.value (Go.Operand.func 14), args := #[Go.Operand.tmp 99], argTypes := #[9] }, 32, none⟩,
      ⟨some 96, Go.Op.move (Go.Operand.tmp 100), 32, none⟩,
      ⟨some 101, Go.Op.extract (Go.Operand.tmp 96) 0, 25, none⟩,
      ⟨some 102, Go.Op.extract (Go.Operand.tmp 96) 1, 28, none⟩,
      ⟨some 13, Go.Op.alloc 25, 0, none⟩,
      ⟨none, Go.Op.store 25 (Go.Operand.tmp 13) (Go.Operand.tmp 101), 0, none⟩,
      ⟨some 14, Go.Op.assign (Go.Operand.tmp 102), 28, none⟩])
    (.seq (.seq (.region [⟨some 103, Go.Op.move (Go.Operand.tmp 12), 28, none⟩,
      ⟨some 104, Go.Op.binOp Go.BinOp.neq 28 (Go.Operand.tmp 103) (Go.Operand.const (Go.Value.int Go.IntKind.i64 0)) 28, 4, none⟩,
      ⟨some 105, Go.Op.move (Go.Operand.tmp 104), 4, none⟩,
      ⟨some 106, Go.Op.move (Go.Operand.tmp 14), 28, (some (105, false))⟩,
      ⟨some 107, Go.Op.binOp Go.BinOp.neq 28 (Go.Operand.tmp 106) (Go.Operand.const (Go.Value.int Go.IntKind.i64 0)) 28, 4, (some (105, false))⟩,
      ⟨some 108, Go.Op.pick (Go.Operand.tmp 105) (Go.Operand.const (Go.Value.bool true)) (Go.Operand.tmp 107), 4, none⟩,
      ⟨some 109, Go.Op.move (Go.Operand.tmp 108), 4, none⟩,
      ⟨some 110, Go.Op.fieldAddr 25 (Go.Operand.tmp 11) 0, 0, (some (109, false))⟩,
      ⟨some 111, Go.Op.load 3 (Go.Operand.tmp 110), 3, (some (109, false))⟩,
      ⟨some 112, Go.Op.binOp Go.BinOp.neq 3 (Go.Operand.tmp 111) (Go.Operand.const (Go.Value.int Go.IntKind.i64 2)) 3, 4, (some (109, false))⟩,
      ⟨some 113, Go.Op.pick (Go.Operand.tmp 109) (Go.Operand.const (Go.Value.bool true)) (Go.Operand.tmp 112), 4, none⟩,
      ⟨some 114, Go.Op.move (Go.Operand.tmp 113), 4, none⟩,
      ⟨some 115, Go.Op.fieldAddr 25 (Go.Operand.tmp 13) 0, 0, (some (114, false))⟩,
      ⟨some 116, Go.Op.load 3 (Go.Operand.tmp 115), 3, (some (114, false))⟩,
      ⟨some 117, Go.Op.binOp Go.BinOp.neq 3 (Go.Operand.tmp 116) (Go.Operand.const (Go.Value.int Go.IntKind.i64 2)) 3, 4, (some (114, false))⟩,
      ⟨some 118, Go.Op.pick (Go.Operand.tmp 114) (Go.Operand.const (Go.Value.bool true)) (Go.Operand.tmp 117), 4, none⟩,
      ⟨some 119, Go.Op.move (Go.Operand.tmp 118), 4, none⟩,
      ⟨some 120, Go.Op.move (Go.Operand.tmp 2), 9, (some (119, false))⟩,
      ⟨some 121, Go.Op.call { callee := Go.Callee.builtin Go.Builtin.len, args := #[Go.Operand.tmp 120], argTypes := #[9] }, 3, (some (119, false))⟩,
      ⟨some 122, Go.Op.binOp Go.BinOp.gtr 3 (Go.Operand.tmp 121) (Go.Operand.const (Go.Value.int Go.IntKind.i64 0)) 3, 4, (some (119, false))⟩,
      ⟨some 123, Go.Op.move (Go.Operand.tmp 122), 4, (some (119, false))⟩,
      ⟨some 124, Go.Op.move (Go.Operand.tmp 2), 9, (some (123, true))⟩,
      ⟨some 125, Go.Op.index 9 (Go.Operand.tmp 124) (Go.Operand.const (Go.Value.int Go.IntKind.i64 0)), 5, (some (123, true))⟩,
      ⟨some 126, Go.Op.binOp Go.BinOp.eql 5 (Go.Operand.tmp 125) (Go.Operand.const (Go.Value.int Go.IntKind.u8 94)) 5, 4, (some (123, true))⟩,
      ⟨some 127, Go.Op.pick (Go.Operand.tmp 123) (Go.Operand.tmp 126) (Go.Operand.const (Go.Value.bool false)), 4, (some (119, false))⟩,
      ⟨some 128, Go.Op.pick (Go.Operand.tmp 119) (Go.Operand.const (Go.Value.bool true)) (Go.Operand.tmp 127), 4, none⟩])
    (.cond (Go.Operand.tmp 128)
      (.seq (.region [⟨some 129, Go.Op.call { callee := Go.Callee.value (Go.Operand.func 11), args := #[], argTypes := #[] }, 4, none⟩,
        ⟨some 6, Go.Op.assign (Go.Operand.tmp 129), 4, none⟩])
      .ret)
      .skip))
    (.seq (.draw [⟨⟨some 130, Go.Op.load 25 (Go.Operand.tmp 11), 25, none⟩, false, false, false⟩,
      ⟨⟨some 131, Go.Op.move (Go.Operand.tmp 7), 9, none⟩, false, false, false⟩,
      ⟨⟨some 132, Go.Op.call { callee := Go.Callee.value (Go.Operand.func 17), args := #[Go.Operand.tmp 130, Go.Operand.tmp 131], argTypes := #[25, 9] }, 4, none⟩, false, false, false⟩,
      ⟨⟨some 133, Go.Op.load 25 (Go.Operand.tmp 13), 25, none⟩, false, false, false⟩,
      ⟨⟨some 134, Go.Op.move (Go.Operand.tmp 7), 9, none⟩, false, false, false⟩,
      ⟨⟨some 135, Go.Op.call { callee := Go.Callee.value (Go.Operand.func 17), args := #[Go.Operand.tmp 133, Go.Operand.tmp 134], argTypes := #[25, 9] }, 4, none⟩, false, false, false⟩,
      ⟨⟨some 136, Go.Op.binOp Go.BinOp.neq 4 (Go.Operand.tmp 132) (Go.Operand.tmp 135) 4, 4, none⟩, false, false, false⟩,
      ⟨⟨some 137, Go.Op.move (Go.Operand.tmp 136), 4, none⟩, false, false, false⟩,
      ⟨⟨some 138, Go.Op.call { callee := Go.Callee.value (Go.Operand.func 11), args := #[], argTypes := #[] }, 4, (some (137, true))⟩, false, false, false⟩,
      ⟨⟨some 139, Go.Op.pick (Go.Operand.tmp 137) (Go.Operand.tmp 138) (Go.Operand.const (Go.Value.bool false)), 4, none⟩, false, false, false⟩,
      ⟨⟨some 6, Go.Op.assign (Go.Operand.tmp 139), 4, none⟩, false, false, false⟩])
    .ret))))))))) :=
  ⟨foll, Tryz.f9, Tryz.func9, by kernel_rfl, by kernel_rfl, by kernel_rfl, by rw [Tryz.ntmps9]; decide⟩

/-- narrator.utf8stream.Encode -/
theorem fn21 : FnIs Tryz.prog 21 1 [Go.ResultVar.tmp 2] (.seq (.region [⟨some 2, Go.Op.assign (Go.Operand.const (Go.Value.string { data := #[] })), 9, none⟩])
    (.seq (.region [⟨some 3, Go.Op.assign (Go.Operand.const (Go.Value.slice none 0 0)), 62, none⟩])
    (.seq (.seq (.region [⟨some 6, Go.Op.move (Go.Operand.tmp 0), 42, none⟩,
      ⟨some 7, Go.Op.call { callee := Go.Callee.builtin Go.Builtin.len, args := #[Go.Operand.tmp 6], argTypes := #[42] }, 3, none⟩,
      ⟨some 8, Go.Op.move (Go.Operand.const (Go.Value.int Go.IntKind.i64 0)), 3, none⟩])
    (.block 0
      (.loop
        (.seq (.region [⟨some 9, Go.Op.binOp Go.BinOp.lss 3 (Go.Operand.tmp 8) (Go.Operand.tmp 7) 3, 0, none⟩])
        (.seq (.cond (Go.Operand.tmp 9)
          .skip
          (.exit 0))
        (.seq (.block 1
          (.seq (.region [⟨some 10, Go.Op.indexAddr 42 (Go.Operand.tmp 6) (Go.Operand.tmp 8), 0, none⟩,
            ⟨some 11, Go.Op.load 21 (Go.Operand.tmp 10), 21, none⟩,
            ⟨some 5, Go.Op.assign (Go.Operand.tmp 11), 21, none⟩])
          (.region [⟨some 12, Go.Op.move (Go.Operand.tmp 3), 62, none⟩,
            ⟨some 13, Go.Op.move (Go.Operand.tmp 5), 21, none⟩,
            ⟨some 14, Go.Op.call { callee := Go.Callee.value (Go.Operand.func 38), args := #[Go.Operand.tmp 12, Go.Operand.tmp 13], argTypes := #[62, 21] }, 62, none⟩,
            ⟨some 3, Go.Op.assign (Go.Operand.tmp 14), 62, none⟩])))
        (.region [⟨some 15, Go.Op.binOp Go.BinOp.add 3 (Go.Operand.tmp 8) (Go.Operand.const (Go.Value.int Go.IntKind.i64 1)) 3, 3, none⟩,
          ⟨some 8, Go.Op.move (Go.Operand.tmp 15), 3, none⟩])))))))
    (.seq (.region [⟨some 16, Go.Op.move (Go.Operand.tmp 3), 62, none⟩,
      ⟨some 17, Go.Op.convert 62 9 (Go.Operand.tmp 16), 9, none⟩,
      ⟨some 2, Go.Op.assign (Go.Operand.tmp 17), 9, none⟩])
    .ret)))) :=
  ⟨foll, Tryz.f21, Tryz.func21, by kernel_rfl, by kernel_rfl, by kernel_rfl, by rw [Tryz.ntmps21]; decide⟩

end Go.Proofs.YtebejiilpedlmaaGreatDoor
