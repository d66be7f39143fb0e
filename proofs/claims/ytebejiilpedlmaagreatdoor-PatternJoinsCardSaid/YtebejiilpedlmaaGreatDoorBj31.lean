/- The prepared code of further functions. Written by a program of mine (gen.py) out of what the loaded dump prints. -/
import Derived.Test.YtebejiilpedlmaaGreatDoorBase31
set_option linter.unusedVariables false
set_option maxRecDepth 100000
namespace Go.Proofs.YtebejiilpedlmaaGreatDoor
open Go Nv

/-- narrator.narratorlaw31.PatternRoundTrip -/
theorem fn3 : FnIs Tryz.prog 3 1 [Go.ResultVar.tmp 2] (.seq (.region [⟨some 1, Go.Op.box 25 (Go.Operand.tmp 0), 0, none⟩,
      ⟨some 2, Go.Op.assign (Go.Operand.const (Go.Value.bool false)), 4, none⟩])
    (.seq (.seq (.region [⟨some 7, Go.Op.load 25 (Go.Operand.tmp 1), 25, none⟩,
      ⟨some 8, Go.Op.call { callee := Go.Callee.value (Go.Operand.func 10), args := #[Go.Operand.tmp 7], argTypes := #[25] }, 4, none⟩])
    (.cond (Go.Operand.tmp 8)
      (.seq (.region [⟨some 9, Go.Op.call { callee := Go.Callee.value (Go.Operand.func 11), args := #[], argTypes := #[] }, 4, none⟩,
        ⟨some 2, Go.Op.assign (Go.Operand.tmp 9), 4, none⟩])
      .ret)
      .skip))
    (.seq (.region [⟨some 11, Go.Op.load 25 (Go.Operand.tmp 1), 25, none⟩,
      ⟨some 12, Go.Op.call { callee := Go.Callee.value (Go.Operand.func 12), args := #[Go.Operand.tmp 11], argTypes := #[25] }, 29, none⟩,
      ⟨some 10, Go.Op.move (Go.Operand.tmp 12), 29, none⟩,
      ⟨some 13, Go.Op.extract (Go.Operand.tmp 10) 0, 9, none⟩,
      ⟨some 14, Go.Op.extract (Go.Operand.tmp 10) 1, 28, none⟩,
      ⟨some 3, Go.Op.assign (Go.Operand.tmp 13), 9, none⟩,
      ⟨some 4, Go.Op.assign (Go.Operand.tmp 14), 28, none⟩])
    (.seq (.seq (.region [⟨some 15, Go.Op.move (Go.Operand.tmp 4), 28, none⟩,
      ⟨some 16, Go.Op.binOp Go.BinOp.neq 28 (Go.Operand.tmp 15) (Go.Operand.const (Go.Value.int Go.IntKind.i64 0)) 28, 4, none⟩])
    (.cond (Go.Operand.tmp 16)
      (.seq (.region [⟨some 17, Go.Op.move (Go.Operand.tmp 3), 9, none⟩,
        ⟨some 18, Go.Op.binOp Go.BinOp.eql 9 (Go.Operand.tmp 17) (Go.Operand.const (Go.Value.string { data := #[] })) 9, 4, none⟩,
        ⟨some 19, Go.Op.move (Go.Operand.tmp 18), 4, none⟩,
        ⟨some 20, Go.Op.load 25 (Go.Operand.tmp 1), 25, (some (19, true))⟩,
        ⟨some 21, Go.Op.call { callee := Go.Callee.value (Go.Operand.func 13), args := #[Go.Operand.tmp 20], argTypes := #[25] }, 28, (some (19, true))⟩,
        ⟨some 22, Go.Op.move (Go.Operand.tmp 4), 28, (some (19, true))⟩,
        ⟨some 23, Go.Op.binOp Go.BinOp.eql 28 (Go.Operand.tmp 21) (Go.Operand.tmp 22) 28, 4, (some (19, true))⟩,
        ⟨some 24, Go.Op.move (Go.Operand.tmp 23), 4, (some (19, true))⟩,
        ⟨some 25, Go.Op.load 25 (Go.Operand.tmp 1), 25, (some (24, false))⟩,
        ⟨some 26, Go.Op.call { callee := Go.Callee.value (Go.Operand.func 13), args := #[Go.Operand.tmp 25], argTypes := #[25] }, 28, (some (24, false))⟩,
        ⟨some 27, Go.Op.binOp Go.BinOp.eql 28 (Go.Operand.tmp 26) (Go.Operand.const (Go.Value.int Go.IntKind.i64 0)) 28, 4, (some (24, false))⟩,
        ⟨some 28, Go.Op.move (Go.Operand.tmp 27), 4, (some (24, false))⟩,
        ⟨some 29, Go.Op.move (Go.Operand.tmp 4), 28, (some (28, true))⟩,
        ⟨some 30, Go.Op.binOp Go.BinOp.eql 28 (Go.Operand.tmp 29) (Go.Operand.const (Go.Value.int Go.IntKind.i64 5)) 28, 4, (some (28, true))⟩,
        ⟨some 31, Go.Op.pick (Go.Operand.tmp 28) (Go.Operand.tmp 30) (Go.Operand.const (Go.Value.bool false)), 4, (some (24, false))⟩,
        ⟨some 32, Go.Op.pick (Go.Operand.tmp 24) (Go.Operand.const (Go.Value.bool true)) (Go.Operand.tmp 31), 4, (some (19, true))⟩,
        ⟨some 33, Go.Op.pick (Go.Operand.tmp 19) (Go.Operand.tmp 32) (Go.Operand.const (Go.Value.bool false)), 4, none⟩,
        ⟨some 34, Go.Op.move (Go.Operand.tmp 33), 4, none⟩,
        ⟨some 35, Go.Op.call { callee := Go.Callee.value (Go.Operand.func 11), args := #[], argTypes := #[] }, 4, (some (34, true))⟩,
        ⟨some 36, Go.Op.pick (Go.Operand.tmp 34) (Go.Operand.tmp 35) (Go.Operand.const (Go.Value.bool false)), 4, none⟩,
        ⟨some 2, Go.Op.assign (Go.Operand.tmp 36), 4, none⟩])
      .ret)
      .skip))
    (.seq (.region [⟨some 38, Go.Op.move (Go.Operand.tmp 3), 9, none⟩,
      ⟨some 39, Go.Op.call { callee := Go.Callee.value (Go.Operand.func 14), args := #[Go.Operand.tmp 38], argTypes := #[9] }, 32, none⟩,
      ⟨some 37, Go.Op.move (Go.Operand.tmp 39), 32, none⟩,
      ⟨some 40, Go.Op.extract (Go.Operand.tmp 37) 0, 25, none⟩,
      ⟨some 41, Go.Op.extract (Go.Operand.tmp 37) 1, 28, none⟩,
      ⟨some 5, Go.Op.alloc 25, 0, none⟩,
      ⟨none, Go.Op.store 25 (Go.Operand.tmp 5) (Go.Operand.tmp 40), 0, none⟩,
      ⟨some 6, Go.Op.assign (Go.Operand.tmp 41), 28, none⟩])
    (.seq (.region [⟨some 42, Go.Op.move (Go.Operand.tmp 6), 28, none⟩,
      ⟨some 43, Go.Op.binOp Go.BinOp.eql 28 (Go.Operand.tmp 42) (Go.Operand.const (Go.Value.int Go.IntKind.i64 0)) 28, 4, none⟩,
      ⟨some 44, Go.Op.move (Go.Operand.tmp 43), 4, none⟩,
      ⟨some 45, Go.Op.load 25 (Go.Operand.tmp 5), 25, (some (44, true))⟩,
      ⟨some 46, Go.Op.load 25 (Go.Operand.tmp 1), 25, (some (44, true))⟩,
      ⟨some 47, Go.Op.call { callee := Go.Callee.value (Go.Operand.func 15), args := #[Go.Operand.tmp 45, Go.Operand.tmp 46], argTypes := #[25, 25] }, 4, (some (44, true))⟩,
      ⟨some 48, Go.Op.pick (Go.Operand.tmp 44) (Go.Operand.tmp 47) (Go.Operand.const (Go.Value.bool false)), 4, none⟩,
      ⟨some 49, Go.Op.move (Go.Operand.tmp 48), 4, none⟩,
      ⟨some 50, Go.Op.move (Go.Operand.tmp 3), 9, (some (49, true))⟩,
      ⟨some 51, Go.Op.call { callee := Go.Callee.builtin Go.Builtin.len, args := #[Go.Operand.tmp 50], argTypes := #[9] }, 3, (some (49, true))⟩,
      ⟨some 52, Go.Op.binOp Go.BinOp.leq 3 (Go.Operand.tmp 51) (Go.Operand.const (Go.Value.int Go.IntKind.i64 60)) 3, 4, (some (49, true))⟩,
      ⟨some 53, Go.Op.pick (Go.Operand.tmp 49) (Go.Operand.tmp 52) (Go.Operand.const (Go.Value.bool false)), 4, none⟩,
      ⟨some 54, Go.Op.move (Go.Operand.tmp 53), 4, none⟩,
      ⟨some 55, Go.Op.call { callee := Go.Callee.value (Go.Operand.func 11), args := #[], argTypes := #[] }, 4, (some (54, true))⟩,
      ⟨some 56, Go.Op.pick (Go.Operand.tmp 54) (Go.Operand.tmp 55) (Go.Operand.const (Go.Value.bool false)), 4, none⟩,
      ⟨some 2, Go.Op.assign (Go.Operand.tmp 56), 4, none⟩])
    .ret)))))) :=
  ⟨foll, Tryz.f3, Tryz.func3, by kernel_rfl, by kernel_rfl, by kernel_rfl, by rw [Tryz.ntmps3]; decide⟩

/-- narrator.narratorlaw31.PatternJoins -/
theorem fn5 : FnIs Tryz.prog 5 3 [Go.ResultVar.tmp 6] (.seq (.region [⟨some 3, Go.Op.box 25 (Go.Operand.tmp 0), 0, none⟩,
      ⟨some 4, Go.Op.box 25 (Go.Operand.tmp 1), 0, none⟩,
      ⟨some 6, Go.Op.assign (Go.Operand.const (Go.Value.bool false)), 4, none⟩])
    (.seq (.seq (.region [⟨some 10, Go.Op.load 25 (Go.Operand.tmp 3), 25, none⟩,
      ⟨some 11, Go.Op.move (Go.Operand.tmp 2), 9, none⟩,
      ⟨some 12, Go.Op.call { callee := Go.Callee.value (Go.Operand.func 16), args := #[Go.Operand.tmp 10, Go.Operand.tmp 11], argTypes := #[25, 9] }, 4, none⟩,
      ⟨some 13, Go.Op.move (Go.Operand.tmp 12), 4, none⟩,
      ⟨some 14, Go.Op.load 25 (Go.Operand.tmp 4), 25, (some (13, false))⟩,
      ⟨some 15, Go.Op.move (Go.Operand.tmp 2), 9, (some (13, false))⟩,
      ⟨some 16, Go.Op.call { callee := Go.Callee.value (Go.Operand.func 16), args := #[Go.Operand.tmp 14, Go.Operand.tmp 15], argTypes := #[25, 9] }, 4, (some (13, false))⟩,
      ⟨some 17, Go.Op.pick (Go.Operand.tmp 13) (Go.Operand.const (Go.Value.bool true)) (Go.Operand.tmp 16), 4, none⟩,
      ⟨some 18, Go.Op.move (Go.Operand.tmp 17), 4, none⟩,
      ⟨some 19, Go.Op.move (Go.Operand.tmp 2), 9, (some (18, false))⟩,
      ⟨some 20, Go.Op.call { callee := Go.Callee.builtin Go.Builtin.len, args := #[Go.Operand.tmp 19], argTypes := #[9] }, 3, (some (18, false))⟩,
      ⟨some 21, Go.Op.binOp Go.BinOp.gtr 3 (Go.Operand.tmp 20) (Go.Operand.const (Go.Value.int Go.IntKind.i64 12)) 3, 4, (some (18, false))⟩,
      ⟨some 22, Go.Op.pick (Go.Operand.tmp 18) (Go.Operand.const (Go.Value.bool true)) (Go.Operand.tmp 21), 4, none⟩,
      ⟨some 23, Go.Op.move (Go.Operand.tmp 22), 4, none⟩,
      ⟨some 24, Go.Op.move (Go.Operand.tmp 2), 9, (some (23, false))⟩,
      ⟨some 25, Go.Op.call { callee := Go.Callee.value (Go.Operand.func 18), args := #[Go.Operand.tmp 24], argTypes := #[9] }, 4, (some (23, false))⟩,
      ⟨some 26, Go.Op.unOp Go.UnOp.not 4 (Go.Operand.tmp 25), 4, (some (23, false))⟩,
      ⟨some 27, Go.Op.pick (Go.Operand.tmp 23) (Go.Operand.const (Go.Value.bool true)) (Go.Operand.tmp 26), 4, none⟩,
      ⟨some 28, Go.Op.move (Go.Operand.tmp 27), 4, none⟩,
      ⟨some 29, Go.Op.load 25 (Go.Operand.tmp 3), 25, (some (28, false))⟩,
      ⟨some 30, Go.Op.call { callee := Go.Callee.value (Go.Operand.func 13), args := #[Go.Operand.tmp 29], argTypes := #[25] }, 28, (some (28, false))⟩,
      ⟨some 31, Go.Op.binOp Go.BinOp.neq 28 (Go.Operand.tmp 30) (Go.Operand.const (Go.Value.int Go.IntKind.i64 0)) 28, 4, (some (28, false))⟩,
      ⟨some 32, Go.Op.pick (Go.Operand.tmp 28) (Go.Operand.const (Go.Value.bool true)) (Go.Operand.tmp 31), 4, none⟩,
      ⟨some 33, Go.Op.move (Go.Operand.tmp 32), 4, none⟩,
      ⟨some 34, Go.Op.load 25 (Go.Operand.tmp 4), 25, (some (33, false))⟩,
      ⟨some 35, Go.Op.call { callee := Go.Callee.value (Go.Operand.func 13), args := #[Go.Operand.tmp 34], argTypes := #[25] }, 28, (some (33, false))⟩,
      ⟨some 36, Go.Op.binOp Go.BinOp.neq 28 (Go.Operand.tmp 35) (Go.Operand.const (Go.Value.int Go.IntKind.i64 0)) 28, 4, (some (33, false))⟩,
      ⟨some 37, Go.Op.pick (Go.Operand.tmp 33) (Go.Operand.const (Go.Value.bool true)) (Go.Operand.tmp 36), 4, none⟩])
    (.cond (Go.Operand.tmp 37)
      (.seq (.region [⟨some 38, Go.Op.call { callee := Go.Callee.value (Go.Operand.func 11), args := #[], argTypes := #[] }, 4, none⟩,
        ⟨some 6, Go.Op.assign (Go.Operand.tmp 38), 4, none⟩])
      .ret)
      .skip))
    (.seq (.region [⟨some 39, Go.Op.load 25 (Go.Operand.tmp 3), 25, none⟩,
      ⟨some 40, Go.Op.load 25 (Go.Operand.tmp 4), 25, none⟩,
      ⟨some 41, Go.Op.buildSlice 23 2 #[(0, Go.Operand.tmp 39), (1, Go.Operand.tmp 40)], 23, none⟩,
      ⟨some 42, Go.Op.build 25 #[(0, Go.Operand.const (Go.Value.int Go.IntKind.i64 3)), (2, Go.Operand.tmp 41)], 25, none⟩,
      ⟨some 7, Go.Op.alloc 25, 0, none⟩,
      ⟨none, Go.Op.store 25 (Go.Operand.tmp 7) (Go.Operand.tmp 42), 0, none⟩])
    (.seq (.seq (.region [⟨some 43, Go.Op.load 25 (Go.Operand.tmp 7), 25, none⟩,
      ⟨some 44, Go.Op.call { callee := Go.Callee.value (Go.Operand.func 13), args := #[Go.Operand.tmp 43], argTypes := #[25] }, 28, none⟩,
      ⟨some 45, Go.Op.binOp Go.BinOp.neq 28 (Go.Operand.tmp 44) (Go.Operand.const (Go.Value.int Go.IntKind.i64 0)) 28, 4, none⟩])
    (.cond (Go.Operand.tmp 45)
      (.seq (.region [⟨some 46, Go.Op.call { callee := Go.Callee.value (Go.Operand.func 11), args := #[], argTypes := #[] }, 4, none⟩,
        ⟨some 6, Go.Op.assign (Go.Operand.tmp 46), 4, none⟩])
      .ret)
      .skip))
    (.seq (.region [⟨some 8, Go.Op.assign (Go.Operand.const (Go.Value.bool false)), 4, none⟩])
    (.seq (.seq (.region [⟨some 9, Go.Op.assign (Go.Operand.const (Go.Value.int Go.IntKind.i64 0)), 3, none⟩])
    (.block 0
      (.loop
        (.seq (.seq (.region [⟨some 47, Go.Op.move (Go.Operand.tmp 9), 3, none⟩,
          ⟨some 48, Go.Op.move (Go.Operand.tmp 2), 9, none⟩,
          ⟨some 49, Go.Op.call { callee := Go.Callee.builtin Go.Builtin.len, args := #[Go.Operand.tmp 48], argTypes := #[9] }, 3, none⟩,
          ⟨some 50, Go.Op.binOp Go.BinOp.leq 3 (Go.Operand.tmp 47) (Go.Operand.tmp 49) 3, 4, none⟩])
        (.cond (Go.Operand.tmp 50)
          .skip
          (.exit 0)))
        (.seq (.block 1
          (.seq (.region [⟨some 53, Go.Op.move (Go.Operand.tmp 2), 9, none⟩,
            ⟨some 54, Go.Op.move (Go.Operand.tmp 9), 3, none⟩,
            ⟨some 55, Go.Op.slice 9 (Go.Operand.tmp 53) none (some (Go.Operand.tmp 54)) none, 9, none⟩,
            ⟨some 56, Go.Op.call { callee := Go.Callee.value (Go.Operand.func 18), args := #[Go.Operand.tmp 55], argTypes := #[9] }, 4, none⟩])
          (.cond (Go.Operand.tmp 56)
            (.draw [⟨⟨some 57, Go.Op.move (Go.Operand.tmp 8), 4, none⟩, false, false, false⟩,
              ⟨⟨some 58, Go.Op.move (Go.Operand.tmp 57), 4, none⟩, false, false, false⟩,
              ⟨⟨some 59, Go.Op.load 25 (Go.Operand.tmp 3), 25, (some (58, false))⟩, false, false, false⟩,
              ⟨⟨some 60, Go.Op.move (Go.Operand.tmp 2), 9, (some (58, false))⟩, false, false, false⟩,
              ⟨⟨some 61, Go.Op.move (Go.Operand.tmp 9), 3, (some (58, false))⟩, false, false, false⟩,
              ⟨⟨some 62, Go.Op.slice 9 (Go.Operand.tmp 60) none (some (Go.Operand.tmp 61)) none, 9, (some (58, false))⟩, false, false, false⟩,
              ⟨⟨some 63, Go.Op.call { callee := Go.Callee.value (Go.Operand.func 17), args := #[Go.Operand.tmp 59, Go.Operand.tmp 62], argTypes := #[25, 9] }, 4, (some (58, false))⟩, false, false, false⟩,
              ⟨⟨some 64, Go.Op.move (Go.Operand.tmp 63), 4, (some (58, false))⟩, false, false, false⟩,
              ⟨⟨some 65, Go.Op.load 25 (Go.Operand.tmp 4), 25, (some (64, true))⟩, false, false, false⟩,
              ⟨⟨some 66, Go.Op.move (Go.Operand.tmp 2), 9, (some (64, true))⟩, false, false, false⟩,
              ⟨⟨some 67, Go.Op.move (Go.Operand.tmp 9), 3, (some (64, true))⟩, false, false, false⟩,
              ⟨⟨some 68, Go.Op.slice 9 (Go.Operand.tmp 66) (some (Go.Operand.tmp 67)) none none, 9, (some (64, true))⟩, false, false, false⟩,
              ⟨⟨some 69, Go.Op.call { callee := Go.Callee.value (Go.Operand.func 17), args := #[Go.Operand.tmp 65, Go.Operand.tmp 68], argTypes := #[25, 9] }, 4, (some (64, true))⟩, false, false, false⟩,
              ⟨⟨some 70, Go.Op.pick (Go.Operand.tmp 64) (Go.Operand.tmp 69) (Go.Operand.const (Go.Value.bool false)), 4, (some (58, false))⟩, false, false, false⟩,
              ⟨⟨some 71, Go.Op.pick (Go.Operand.tmp 58) (Go.Operand.const (Go.Value.bool true)) (Go.Operand.tmp 70), 4, none⟩, false, false, false⟩,
              ⟨⟨some 8, Go.Op.assign (Go.Operand.tmp 71), 4, none⟩, false, false, false⟩])
            .skip)))
        (.region [⟨some 51, Go.Op.move (Go.Operand.tmp 9), 3, none⟩,
          ⟨some 52, Go.Op.binOp Go.BinOp.add 3 (Go.Operand.tmp 51) (Go.Operand.const (Go.Value.int Go.IntKind.i64 1)) 3, 3, none⟩,
          ⟨some 9, Go.Op.assign (Go.Operand.tmp 52), 3, none⟩]))))))
    (.seq (.region [⟨some 72, Go.Op.load 25 (Go.Operand.tmp 7), 25, none⟩,
      ⟨some 73, Go.Op.move (Go.Operand.tmp 2), 9, none⟩,
      ⟨some 74, Go.Op.call { callee := Go.Callee.value (Go.Operand.func 17), args := #[Go.Operand.tmp 72, Go.Operand.tmp 73], argTypes := #[25, 9] }, 4, none⟩,
      ⟨some 75, Go.Op.move (Go.Operand.tmp 8), 4, none⟩,
      ⟨some 76, Go.Op.binOp Go.BinOp.eql 4 (Go.Operand.tmp 74) (Go.Operand.tmp 75) 4, 4, none⟩,
      ⟨some 77, Go.Op.move (Go.Operand.tmp 76), 4, none⟩,
      ⟨some 78, Go.Op.call { callee := Go.Callee.value (Go.Operand.func 11), args := #[], argTypes := #[] }, 4, (some (77, true))⟩,
      ⟨some 79, Go.Op.pick (Go.Operand.tmp 77) (Go.Operand.tmp 78) (Go.Operand.const (Go.Value.bool false)), 4, none⟩,
      ⟨some 6, Go.Op.assign (Go.Operand.tmp 79), 4, none⟩])
    .ret))))))) :=
  ⟨foll, Tryz.f5, Tryz.func5, by kernel_rfl, by kernel_rfl, by kernel_rfl, by rw [Tryz.ntmps5]; decide⟩

/-- narrator.narratorlaw31.PatternMatch -/
theorem fn7 : FnIs Tryz.prog 7 2 [Go.ResultVar.tmp 4] (.seq (.region [⟨some 2, Go.Op.box 25 (Go.Operand.tmp 0), 0, none⟩,
      ⟨some 4, Go.Op.assign (Go.Operand.const (Go.Value.bool false)), 4, none⟩])
    (.seq (.seq (.region [⟨some 5, Go.Op.load 25 (Go.Operand.tmp 2), 25, none⟩,
      ⟨some 6, Go.Op.move (Go.Operand.tmp 1), 9, none⟩,
      ⟨some 7, Go.Op.call { callee := Go.Callee.value (Go.Operand.func 16), args := #[Go.Operand.tmp 5, Go.Operand.tmp 6], argTypes := #[25, 9] }, 4, none⟩])
    (.cond (Go.Operand.tmp 7)
      (.seq (.region [⟨some 8, Go.Op.call { callee := Go.Callee.value (Go.Operand.func 11), args := #[], argTypes := #[] }, 4, none⟩,
        ⟨some 4, Go.Op.assign (Go.Operand.tmp 8), 4, none⟩])
      .ret)
      .skip))
    (.seq (.draw [⟨⟨some 9, Go.Op.load 25 (Go.Operand.tmp 2), 25, none⟩, false, false, false⟩,
      ⟨⟨some 10, Go.Op.move (Go.Operand.tmp 1), 9, none⟩, false, false, false⟩,
      ⟨⟨some 11, Go.Op.call { callee := Go.Callee.value (Go.Operand.func 17), args := #[Go.Operand.tmp 9, Go.Operand.tmp 10], argTypes := #[25, 9] }, 4, none⟩, false, false, false⟩,
      ⟨⟨some 12, Go.Op.load 25 (Go.Operand.tmp 2), 25, none⟩, false, false, false⟩,
      ⟨⟨some 13, Go.Op.move (Go.Operand.tmp 1), 9, none⟩, false, false, false⟩,
      ⟨⟨some 14, Go.Op.call { callee := Go.Callee.value (Go.Operand.func 19), args := #[Go.Operand.tmp 12, Go.Operand.tmp 13], argTypes := #[25, 9] }, 4, none⟩, false, false, false⟩,
      ⟨⟨some 15, Go.Op.binOp Go.BinOp.eql 4 (Go.Operand.tmp 11) (Go.Operand.tmp 14) 4, 4, none⟩, false, false, false⟩,
      ⟨⟨some 16, Go.Op.move (Go.Operand.tmp 15), 4, none⟩, false, false, false⟩,
      ⟨⟨some 17, Go.Op.load 25 (Go.Operand.tmp 2), 25, (some (16, true))⟩, false, false, false⟩,
      ⟨⟨some 18, Go.Op.call { callee := Go.Callee.value (Go.Operand.func 20), args := #[Go.Operand.tmp 17], argTypes := #[25] }, 4, (some (16, true))⟩, false, false, false⟩,
      ⟨⟨some 19, Go.Op.load 25 (Go.Operand.tmp 2), 25, (some (16, true))⟩, false, false, false⟩,
      ⟨⟨some 20, Go.Op.call { callee := Go.Callee.value (Go.Operand.func 19), args := #[Go.Operand.tmp 19, Go.Operand.const (Go.Value.string { data := #[] })], argTypes := #[25, 9] }, 4, (some (16, true))⟩, false, false, false⟩,
      ⟨⟨some 21, Go.Op.binOp Go.BinOp.eql 4 (Go.Operand.tmp 18) (Go.Operand.tmp 20) 4, 4, (some (16, true))⟩, false, false, false⟩,
      ⟨⟨some 22, Go.Op.pick (Go.Operand.tmp 16) (Go.Operand.tmp 21) (Go.Operand.const (Go.Value.bool false)), 4, none⟩, false, false, false⟩,
      ⟨⟨some 23, Go.Op.move (Go.Operand.tmp 22), 4, none⟩, false, false, false⟩,
      ⟨⟨some 24, Go.Op.call { callee := Go.Callee.value (Go.Operand.func 11), args := #[], argTypes := #[] }, 4, (some (23, true))⟩, false, false, false⟩,
      ⟨⟨some 25, Go.Op.pick (Go.Operand.tmp 23) (Go.Operand.tmp 24) (Go.Operand.const (Go.Value.bool false)), 4, none⟩, false, false, false⟩,
      ⟨⟨some 4, Go.Op.assign (Go.Operand.tmp 25), 4, none⟩, false, false, false⟩])
    .ret))) :=
  ⟨foll, Tryz.f7, Tryz.func7, by kernel_rfl, by kernel_rfl, by kernel_rfl, by rw [Tryz.ntmps7]; decide⟩

/-- narrator.narratorlaw31.PatternStars -/
theorem fn8 : FnIs Tryz.prog 8 3 [Go.ResultVar.tmp 6] (.seq (.region [⟨some 3, Go.Op.box 25 (Go.Operand.tmp 0), 0, none⟩,
      ⟨some 6, Go.Op.assign (Go.Operand.const (Go.Value.bool false)), 4, none⟩])
    (.seq (.region [⟨some 8, Go.Op.load 25 (Go.Operand.tmp 3), 25, none⟩,
      ⟨some 9, Go.Op.buildSlice 23 1 #[(0, Go.Operand.tmp 8)], 23, none⟩,
      ⟨some 10, Go.Op.build 25 #[(0, Go.Operand.const (Go.Value.int Go.IntKind.i64 5)), (2, Go.Operand.tmp 9), (4, Go.Operand.const (Go.Value.int Go.IntKind.i64 (-1)))], 25, none⟩,
      ⟨some 7, Go.Op.alloc 25, 0, none⟩,
      ⟨none, Go.Op.store 25 (Go.Operand.tmp 7) (Go.Operand.tmp 10), 0, none⟩])
    (.seq (.seq (.region [⟨some 11, Go.Op.load 25 (Go.Operand.tmp 7), 25, none⟩,
      ⟨some 12, Go.Op.move (Go.Operand.tmp 1), 9, none⟩,
      ⟨some 13, Go.Op.move (Go.Operand.tmp 2), 9, none⟩,
      ⟨some 14, Go.Op.binOp Go.BinOp.add 9 (Go.Operand.tmp 12) (Go.Operand.tmp 13) 9, 9, none⟩,
      ⟨some 15, Go.Op.call { callee := Go.Callee.value (Go.Operand.func 16), args := #[Go.Operand.tmp 11, Go.Operand.tmp 14], argTypes := #[25, 9] }, 4, none⟩,
      ⟨some 16, Go.Op.move (Go.Operand.tmp 15), 4, none⟩,
      ⟨some 17, Go.Op.move (Go.Operand.tmp 1), 9, (some (16, false))⟩,
      ⟨some 18, Go.Op.call { callee := Go.Callee.builtin Go.Builtin.len, args := #[Go.Operand.tmp 17], argTypes := #[9] }, 3, (some (16, false))⟩,
      ⟨some 19, Go.Op.binOp Go.BinOp.gtr 3 (Go.Operand.tmp 18) (Go.Operand.const (Go.Value.int Go.IntKind.i64 20)) 3, 4, (some (16, false))⟩,
      ⟨some 20, Go.Op.pick (Go.Operand.tmp 16) (Go.Operand.const (Go.Value.bool true)) (Go.Operand.tmp 19), 4, none⟩,
      ⟨some 21, Go.Op.move (Go.Operand.tmp 20), 4, none⟩,
      ⟨some 22, Go.Op.move (Go.Operand.tmp 2), 9, (some (21, false))⟩,
      ⟨some 23, Go.Op.call { callee := Go.Callee.builtin Go.Builtin.len, args := #[Go.Operand.tmp 22], argTypes := #[9] }, 3, (some (21, false))⟩,
      ⟨some 24, Go.Op.binOp Go.BinOp.gtr 3 (Go.Operand.tmp 23) (Go.Operand.const (Go.Value.int Go.IntKind.i64 20)) 3, 4, (some (21, false))⟩,
      ⟨some 25, Go.Op.pick (Go.Operand.tmp 21) (Go.Operand.const (Go.Value.bool true)) (Go.Operand.tmp 24), 4, none⟩,
      ⟨some 26, Go.Op.move (Go.Operand.tmp 25), 4, none⟩,
      ⟨some 27, Go.Op.move (Go.Operand.tmp 1), 9, (some (26, false))⟩,
      ⟨some 28, Go.Op.call { callee := Go.Callee.value (Go.Operand.func 18), args := #[Go.Operand.tmp 27], argTypes := #[9] }, 4, (some (26, false))⟩,
      ⟨some 29, Go.Op.unOp Go.UnOp.not 4 (Go.Operand.tmp 28), 4, (some (26, false))⟩,
      ⟨some 30, Go.Op.pick (Go.Operand.tmp 26) (Go.Operand.const (Go.Value.bool true)) (Go.Operand.tmp 29), 4, none⟩,
      ⟨some 31, Go.Op.move (Go.Operand.tmp 30), 4, none⟩,
      ⟨some 32, Go.Op.move (Go.Operand.tmp 2), 9, (some (31, false))⟩,
      ⟨some 33, Go.Op.call { callee := Go.Callee.value (Go.Operand.func 18), args := #[Go.Operand.tmp 32], argTypes := #[9] }, 4, (some (31, false))⟩,
      ⟨some 34, Go.Op.unOp Go.UnOp.not 4 (Go.Operand.tmp 33), 4, (some (31, false))⟩,
      ⟨some 35, Go.Op.pick (Go.Operand.tmp 31) (Go.Operand.const (Go.Value.bool true)) (Go.Operand.tmp 34), 4, none⟩,
      ⟨some 36, Go.Op.move (Go.Operand.tmp 35), 4, none⟩,
      ⟨some 37, Go.Op.load 25 (Go.Operand.tmp 7), 25, (some (36, false))⟩,
      ⟨some 38, Go.Op.call { callee := Go.Callee.value (Go.Operand.func 13), args := #[Go.Operand.tmp 37], argTypes := #[25] }, 28, (some (36, false))⟩,
      ⟨some 39, Go.Op.binOp Go.BinOp.neq 28 (Go.Operand.tmp 38) (Go.Operand.const (Go.Value.int Go.IntKind.i64 0)) 28, 4, (some (36, false))⟩,
      ⟨some 40, Go.Op.pick (Go.Operand.tmp 36) (Go.Operand.const (Go.Value.bool true)) (Go.Operand.tmp 39), 4, none⟩])
    (.cond (Go.Operand.tmp 40)
      (.seq (.region [⟨some 41, Go.Op.call { callee := Go.Callee.value (Go.Operand.func 11), args := #[], argTypes := #[] }, 4, none⟩,
        ⟨some 6, Go.Op.assign (Go.Operand.tmp 41), 4, none⟩])
      .ret)
      .skip))
    (.seq (.seq (.region [⟨some 42, Go.Op.load 25 (Go.Operand.tmp 7), 25, none⟩,
      ⟨some 43, Go.Op.call { callee := Go.Callee.value (Go.Operand.func 20), args := #[Go.Operand.tmp 42], argTypes := #[25] }, 4, none⟩,
      ⟨some 44, Go.Op.unOp Go.UnOp.not 4 (Go.Operand.tmp 43), 4, none⟩,
      ⟨some 45, Go.Op.move (Go.Operand.tmp 44), 4, none⟩,
      ⟨some 46, Go.Op.load 25 (Go.Operand.tmp 3), 25, (some (45, false))⟩,
      ⟨some 47, Go.Op.move (Go.Operand.tmp 1), 9, (some (45, false))⟩,
      ⟨some 48, Go.Op.call { callee := Go.Callee.value (Go.Operand.func 17), args := #[Go.Operand.tmp 46, Go.Operand.tmp 47], argTypes := #[25, 9] }, 4, (some (45, false))⟩,
      ⟨some 49, Go.Op.move (Go.Operand.tmp 48), 4, (some (45, false))⟩,
      ⟨some 50, Go.Op.load 25 (Go.Operand.tmp 7), 25, (some (49, true))⟩,
      ⟨some 51, Go.Op.move (Go.Operand.tmp 1), 9, (some (49, true))⟩,
      ⟨some 52, Go.Op.call { callee := Go.Callee.value (Go.Operand.func 17), args := #[Go.Operand.tmp 50, Go.Operand.tmp 51], argTypes := #[25, 9] }, 4, (some (49, true))⟩,
      ⟨some 53, Go.Op.unOp Go.UnOp.not 4 (Go.Operand.tmp 52), 4, (some (49, true))⟩,
      ⟨some 54, Go.Op.pick (Go.Operand.tmp 49) (Go.Operand.tmp 53) (Go.Operand.const (Go.Value.bool false)), 4, (some (45, false))⟩,
      ⟨some 55, Go.Op.pick (Go.Operand.tmp 45) (Go.Operand.const (Go.Value.bool true)) (Go.Operand.tmp 54), 4, none⟩])
    (.cond (Go.Operand.tmp 55)
      (.seq (.region [⟨some 6, Go.Op.assign (Go.Operand.const (Go.Value.bool false)), 4, none⟩])
      .ret)
      .skip))
    (.seq (.region [⟨some 56, Go.Op.load 25 (Go.Operand.tmp 7), 25, none⟩,
      ⟨some 57, Go.Op.move (Go.Operand.tmp 1), 9, none⟩,
      ⟨some 58, Go.Op.call { callee := Go.Callee.value (Go.Operand.func 17), args := #[Go.Operand.tmp 56, Go.Operand.tmp 57], argTypes := #[25, 9] }, 4, none⟩,
      ⟨some 59, Go.Op.unOp Go.UnOp.not 4 (Go.Operand.tmp 58), 4, none⟩,
      ⟨some 60, Go.Op.move (Go.Operand.tmp 59), 4, none⟩,
      ⟨some 61, Go.Op.load 25 (Go.Operand.tmp 7), 25, (some (60, false))⟩,
      ⟨some 62, Go.Op.move (Go.Operand.tmp 2), 9, (some (60, false))⟩,
      ⟨some 63, Go.Op.call { callee := Go.Callee.value (Go.Operand.func 17), args := #[Go.Operand.tmp 61, Go.Operand.tmp 62], argTypes := #[25, 9] }, 4, (some (60, false))⟩,
      ⟨some 64, Go.Op.unOp Go.UnOp.not 4 (Go.Operand.tmp 63), 4, (some (60, false))⟩,
      ⟨some 65, Go.Op.pick (Go.Operand.tmp 60) (Go.Operand.const (Go.Value.bool true)) (Go.Operand.tmp 64), 4, none⟩,
      ⟨some 66, Go.Op.move (Go.Operand.tmp 65), 4, none⟩,
      ⟨some 67, Go.Op.load 25 (Go.Operand.tmp 7), 25, (some (66, false))⟩,
      ⟨some 68, Go.Op.move (Go.Operand.tmp 1), 9, (some (66, false))⟩,
      ⟨some 69, Go.Op.move (Go.Operand.tmp 2), 9, (some (66, false))⟩,
      ⟨some 70, Go.Op.binOp Go.BinOp.add 9 (Go.Operand.tmp 68) (Go.Operand.tmp 69) 9, 9, (some (66, false))⟩,
      ⟨some 71, Go.Op.call { callee := Go.Callee.value (Go.Operand.func 17), args := #[Go.Operand.tmp 67, Go.Operand.tmp 70], argTypes := #[25, 9] }, 4, (some (66, false))⟩,
      ⟨some 72, Go.Op.pick (Go.Operand.tmp 66) (Go.Operand.const (Go.Value.bool true)) (Go.Operand.tmp 71), 4, none⟩,
      ⟨some 73, Go.Op.move (Go.Operand.tmp 72), 4, none⟩,
      ⟨some 74, Go.Op.call { callee := Go.Callee.value (Go.Operand.func 11), args := #[], argTypes := #[] }, 4, (some (73, true))⟩,
      ⟨some 75, Go.Op.pick (Go.Operand.tmp 73) (Go.Operand.tmp 74) (Go.Operand.const (Go.Value.bool false)), 4, none⟩,
      ⟨some 6, Go.Op.assign (Go.Operand.tmp 75), 4, none⟩])
    .ret))))) :=
  ⟨foll, Tryz.f8, Tryz.func8, by kernel_rfl, by kernel_rfl, by kernel_rfl, by rw [Tryz.ntmps8]; decide⟩

/-- narrator.narratorlaw31.PatternSets -/
theorem fn9 : FnIs Tryz.prog 9 3 [Go.ResultVar.tmp 6] (.seq (.region [⟨some 6, Go.Op.assign (Go.Operand.const (Go.Value.bool false)), 4, none⟩])
    (.seq (.region [⟨some 15, Go.Op.move (Go.Operand.tmp 1), 21, none⟩,
      ⟨some 16, Go.Op.buildSlice 42 1 #[(0, Go.Operand.tmp 15)], 42, none⟩,
      ⟨some 17, Go.Op.call { callee := Go.Callee.value (Go.Operand.func 21), args := #[Go.Operand.tmp 16], argTypes := #[42] }, 9, none⟩,
      ⟨some 7, Go.Op.assign (Go.Operand.tmp 17), 9, none⟩])
    (.seq (.seq (.region [⟨some 18, Go.Op.move (Go.Operand.tmp 1), 21, none⟩,
      ⟨some 19, Go.Op.binOp Go.BinOp.lss 21 (Go.Operand.tmp 18) (Go.Operand.const (Go.Value.int Go.IntKind.i32 0)) 21, 4, none⟩,
      ⟨some 20, Go.Op.move (Go.Operand.tmp 19), 4, none⟩,
      ⟨some 21, Go.Op.move (Go.Operand.tmp 1), 21, (some (20, false))⟩,
      ⟨some 22, Go.Op.binOp Go.BinOp.gtr 21 (Go.Operand.tmp 21) (Go.Operand.const (Go.Value.int Go.IntKind.i32 1114111)) 21, 4, (some (20, false))⟩,
      ⟨some 23, Go.Op.pick (Go.Operand.tmp 20) (Go.Operand.const (Go.Value.bool true)) (Go.Operand.tmp 22), 4, none⟩,
      ⟨some 24, Go.Op.move (Go.Operand.tmp 23), 4, none⟩,
      ⟨some 25, Go.Op.move (Go.Operand.tmp 1), 21, (some (24, false))⟩,
      ⟨some 26, Go.Op.binOp Go.BinOp.geq 21 (Go.Operand.tmp 25) (Go.Operand.const (Go.Value.int Go.IntKind.i32 55296)) 21, 4, (some (24, false))⟩,
      ⟨some 27, Go.Op.move (Go.Operand.tmp 26), 4, (some (24, false))⟩,
      ⟨some 28, Go.Op.move (Go.Operand.tmp 1), 21, (some (27, true))⟩,
      ⟨some 29, Go.Op.binOp Go.BinOp.leq 21 (Go.Operand.tmp 28) (Go.Operand.const (Go.Value.int Go.IntKind.i32 57343)) 21, 4, (some (27, true))⟩,
      ⟨some 30, Go.Op.pick (Go.Operand.tmp 27) (Go.Operand.tmp 29) (Go.Operand.const (Go.Value.bool false)), 4, (some (24, false))⟩,
      ⟨some 31, Go.Op.pick (Go.Operand.tmp 24) (Go.Operand.const (Go.Value.bool true)) (Go.Operand.tmp 30), 4, none⟩,
      ⟨some 32, Go.Op.move (Go.Operand.tmp 31), 4, none⟩,
      ⟨some 33, Go.Op.move (Go.Operand.tmp 2), 9, (some (32, false))⟩,
      ⟨some 34, Go.Op.call { callee := Go.Callee.builtin Go.Builtin.len, args := #[Go.Operand.tmp 33], argTypes := #[9] }, 3, (some (32, false))⟩,
      ⟨some 35, Go.Op.binOp Go.BinOp.gtr 3 (Go.Operand.tmp 34) (Go.Operand.const (Go.Value.int Go.IntKind.i64 40)) 3, 4, (some (32, false))⟩,
      ⟨some 36, Go.Op.pick (Go.Operand.tmp 32) (Go.Operand.const (Go.Value.bool true)) (Go.Operand.tmp 35), 4, none⟩])
    (.cond (Go.Operand.tmp 36)
      (.seq (.region [⟨some 37, Go.Op.call { callee := Go.Callee.value (Go.Operand.func 11), args := #[], argTypes := #[] }, 4, none⟩,
        ⟨some 6, Go.Op.assign (Go.Operand.tmp 37), 4, none⟩])
      .ret)
      .skip))
    (.seq (.region [⟨some 38, Go.Op.move (Go.Operand.tmp 0), 22, none⟩,
      ⟨some 39, Go.Op.build 25 #[(0, Go.Operand.const (Go.Value.int Go.IntKind.i64 2)), (1, Go.Operand.tmp 38)], 25, none⟩,
      ⟨some 8, Go.Op.alloc 25, 0, none⟩,
      ⟨none, Go.Op.store 25 (Go.Operand.tmp 8) (Go.Operand.tmp 39), 0, none⟩])
    (.seq (.seq (.region [⟨some 40, Go.Op.move (Go.Operand.tmp 0), 22, none⟩,
      ⟨some 41, Go.Op.call { callee := Go.Callee.builtin Go.Builtin.len, args := #[Go.Operand.tmp 40], argTypes := #[22] }, 3, none⟩,
      ⟨some 42, Go.Op.binOp Go.BinOp.leq 3 (Go.Operand.tmp 41) (Go.Operand.const (Go.Value.int Go.IntKind.i64 60)) 3, 4, none⟩,
      ⟨some 43, Go.Op.move (Go.Operand.tmp 42), 4, none⟩,
      ⟨some 44, Go.Op.load 25 (Go.Operand.tmp 8), 25, (some (43, true))⟩,
      ⟨some 45, Go.Op.call { callee := Go.Callee.value (Go.Operand.func 13), args := #[Go.Operand.tmp 44], argTypes := #[25] }, 28, (some (43, true))⟩,
      ⟨some 46, Go.Op.binOp Go.BinOp.eql 28 (Go.Operand.tmp 45) (Go.Operand.const (Go.Value.int Go.IntKind.i64 0)) 28, 4, (some (43, true))⟩,
      ⟨some 47, Go.Op.pick (Go.Operand.tmp 43) (Go.Operand.tmp 46) (Go.Operand.const (Go.Value.bool false)), 4, none⟩])
    (.cond (Go.Operand.tmp 47)
      (.seq (.region [⟨some 9, Go.Op.assign (Go.Operand.const (Go.Value.bool false)), 4, none⟩])
      (.seq (.seq (.region [⟨some 10, Go.Op.assign (Go.Operand.const (Go.Value.int Go.IntKind.i64 0)), 3, none⟩])
      (.block 0
        (.loop
          (.seq (.seq (.region [⟨some 48, Go.Op.move (Go.Operand.tmp 10), 3, none⟩,
            ⟨some 49, Go.Op.move (Go.Operand.tmp 0), 22, none⟩,
            ⟨some 50, Go.Op.call { callee := Go.Callee.builtin Go.Builtin.len, args := #[Go.Operand.tmp 49], argTypes := #[22] }, 3, none⟩,
            ⟨some 51, Go.Op.binOp Go.BinOp.lss 3 (Go.Operand.tmp 48) (Go.Operand.tmp 50) 3, 4, none⟩])
          (.cond (Go.Operand.tmp 51)
            .skip
            (.exit 0)))
          (.seq (.block 1
            (.region [⟨some 54, Go.Op.move (Go.Operand.tmp 9), 4, none⟩,
              ⟨some 55, Go.Op.move (Go.Operand.tmp 54), 4, none⟩,
              ⟨some 56, Go.Op.move (Go.Operand.tmp 1), 21, (some (55, false))⟩,
              ⟨some 57, Go.Op.move (Go.Operand.tmp 0), 22, (some (55, false))⟩,
              ⟨some 58, Go.Op.move (Go.Operand.tmp 10), 3, (some (55, false))⟩,
              ⟨some 59, Go.Op.indexAddr 22 (Go.Operand.tmp 57) (Go.Operand.tmp 58), 0, (some (55, false))⟩,
              ⟨some 60, Go.Op.fieldAddr 44 (Go.Operand.tmp 59) 0, 0, (some (55, false))⟩,
              ⟨some 61, Go.Op.load 21 (Go.Operand.tmp 60), 21, (some (55, false))⟩,
              ⟨some 62, Go.Op.binOp Go.BinOp.geq 21 (Go.Operand.tmp 56) (Go.Operand.tmp 61) 21, 4, (some (55, false))⟩,
              ⟨some 63, Go.Op.move (Go.Operand.tmp 62), 4, (some (55, false))⟩,
              ⟨some 64, Go.Op.move (Go.Operand.tmp 1), 21, (some (63, true))⟩,
              ⟨some 65, Go.Op.move (Go.Operand.tmp 0), 22, (some (63, true))⟩,
              ⟨some 66, Go.Op.move (Go.Operand.tmp 10), 3, (some (63, true))⟩,
              ⟨some 67, Go.Op.indexAddr 22 (Go.Operand.tmp 65) (Go.Operand.tmp 66), 0, (some (63, true))⟩,
              ⟨some 68, Go.Op.fieldAddr 44 (Go.Operand.tmp 67) 1, 0, (some (63, true))⟩,
              ⟨some 69, Go.Op.load 21 (Go.Operand.tmp 68), 21, (some (63, true))⟩,
              ⟨some 70, Go.Op.binOp Go.BinOp.leq 21 (Go.Operand.tmp 64) (Go.Operand.tmp 69) 21, 4, (some (63, true))⟩,
              ⟨some 71, Go.Op.pick (Go.Operand.tmp 63) (Go.Operand.tmp 70) (Go.Operand.const (Go.Value.bool false)), 4, (some (55, false))⟩,
              ⟨some 72, Go.Op.pick (Go.Operand.tmp 55) (Go.Operand.const (Go.Value.bool true)) (Go.Operand.tmp 71), 4, none⟩,
              ⟨some 9, Go.Op.assign (Go.Operand.tmp 72), 4, none⟩]))
          (.region [⟨some 52, Go.Op.move (Go.Operand.tmp 10), 3, none⟩,
            ⟨some 53, Go.Op.binOp Go.BinOp.add 3 (Go.Operand.tmp 52) (Go.Operand.const (Go.Value.int Go.IntKind.i64 1)) 3, 3, none⟩,
            ⟨some 10, Go.Op.assign (Go.Operand.tmp 53), 3, none⟩]))))))
      (.seq (.region [⟨some 73, Go.Op.load 25 (Go.Operand.tmp 8), 25, none⟩,
        ⟨some 74, Go.Op.move (Go.Operand.tmp 7), 9, none⟩,
        ⟨some 75, Go.Op.call { callee := Go.Callee.value (Go.Operand.func 17), args := #[Go.Operand.tmp 73, Go.Operand.tmp 74], argTypes := #[25, 9] }, 4, none⟩,
        ⟨some 76, Go.Op.move (Go.Operand.tmp 9), 4, none⟩,
        ⟨some 77, Go.Op.binOp Go.BinOp.neq 4 (Go.Operand.tmp 75) (Go.Operand.tmp 76) 4, 4, none⟩,
        ⟨some 78, Go.Op.move (Go.Operand.tmp 77), 4, none⟩,
        ⟨some 79, Go.Op.load 25 (Go.Operand.tmp 8), 25, (some (78, false))⟩,
        ⟨some 80, Go.Op.call { callee := Go.Callee.value (Go.Operand.func 17), args := #[Go.Operand.tmp 79, Go.Operand.const (Go.Value.string { data := #[] })], argTypes := #[25, 9] }, 4, (some (78, false))⟩,
        ⟨some 81, Go.Op.pick (Go.Operand.tmp 78) (Go.Operand.const (Go.Value.bool true)) (Go.Operand.tmp 80), 4, none⟩,
        ⟨some 82, Go.Op.move (Go.Operand.tmp 81), 4, none⟩,
        ⟨some 83, Go.Op.load 25 (Go.Operand.tmp 8), 25, (some (82, false))⟩,
        ⟨some 84, Go.Op.move (Go.Operand.tmp 7), 9, (some (82, false))⟩,
        ⟨some 85, Go.Op.move (Go.Operand.tmp 7), 9, (some (82, false))⟩,
        ⟨some 86, Go.Op.binOp Go.BinOp.add 9 (Go.Operand.tmp 84) (Go.Operand.tmp 85) 9, 9, (some (82, false))⟩,
        ⟨some 87, Go.Op.call { callee := Go.Callee.value (Go.Operand.func 17), args := #[Go.Operand.tmp 83, Go.Operand.tmp 86], argTypes := #[25, 9] }, 4, (some (82, false))⟩,
        ⟨some 88, Go.Op.pick (Go.Operand.tmp 82) (Go.Operand.const (Go.Value.bool true)) (Go.Operand.tmp 87), 4, none⟩])
      (.cond (Go.Operand.tmp 88)
        (.seq (.region [⟨some 6, Go.Op.assign (Go.Operand.const (Go.Value.bool false)), 4, none⟩])
        .ret)
        .skip))))
      .skip))
    (.seq (.region [⟨some 90, Go.Op.move (Go.Operand.tmp 2), 9, none⟩,
      ⟨some 91, Go.Op.binOp Go.BinOp.add 9 (Go.Operand.const (Go.Value.string { data := #[91] })) (Go.Operand.tmp 90) 9, 9, none⟩,
      ⟨some 92, Go.Op.binOp Go.BinOp.add 9 (Go.Operand.tmp 91) (Go.Operand.const (Go.Value.string { data := #[93] })) 9, 9, none⟩,
      ⟨some 93, Go.Op.call { callee := Go.Callee.value (Go.Operand.func 14), args := #[Go.Operand.tmp 92], argTypes := #[9] }, 32, none⟩,
      ⟨some 89, Go.Op.move (Go.Operand.tmp 93), 32, none⟩,
      ⟨some 94, Go.Op.extract (Go.Operand.tmp 89) 0, 25, none⟩,
      ⟨some 95, Go.Op.extract (Go.Operand.tmp 89) 1, 28, none⟩,
      ⟨some 11, Go.Op.alloc 25, 0, none⟩,
      ⟨none, Go.Op.store 25 (Go.Operand.tmp 11) (Go.Operand.tmp 94), 0, none⟩,
      ⟨some 12, Go.Op.assign (Go.Operand.tmp 95), 28, none⟩])
    (.seq (.region [⟨some 97, Go.Op.move (Go.Operand.tmp 2), 9, none⟩,
      ⟨some 98, Go.Op.binOp Go.BinOp.add 9 (Go.Operand.const (Go.Value.string { data := #[91, 94] })) (Go.Operand.tmp 97) 9, 9, none⟩,
      ⟨some 99, Go.Op.binOp Go.BinOp.add 9 (Go.Operand.tmp 98) (Go.Operand.const (Go.Value.string { data := #[93] })) 9, 9, none⟩,
      ⟨some 100, Go.Op.call { callee := Go.Callee.value (Go.Operand.func 14), args := #[Go.Operand.tmp 99], argTypes := #[9] }, 32, none⟩,
      ⟨some 96, Go.Op.move (Go.Operand.tmp 100), 32, none⟩,
      ⟨some 101, Go.Op.extract (Go.Operand.tmp 96) 0, 25, none⟩,
      ⟨some 102, Go.Op.extract (Go.Operand.tmp 96) 1, 28, none⟩,
      ⟨some 13, Go.Op.alloc 25, 0, none⟩,
      ⟨none, Go.Op.store 25 (Go.Operand.tmp 13) (Go.Operand.tmp 101), 0, none⟩,
      ⟨some 14, Go.Op.assign (Go.Operand.tmp 102), 28, none⟩])
    (.seq (.seq (.region [⟨some 103, Go.Op.move (Go.Operand.tmp 12), 28, none⟩,
      ⟨some 104, Go.Op.binOp Go.BinOp.neq 28 (Go.Operand.tmp 103) (Go.Operand.const (Go.Value.int Go.IntKind.i64 0)) 28, 4, none⟩,
      ⟨some 105, Go.Op.move (Go.Operand.tmp 104), 4, none⟩,
      ⟨some 106, Go.Op.move (Go.Operand.tmp 14), 28, (some (105, false))⟩,
      ⟨some 107, Go.Op.binOp Go.BinOp.neq 28 (Go.Operand.tmp 106) (Go.Operand.const (Go.Value.int Go.IntKind.i64 0)) 28, 4, (some (105, false))⟩,
      ⟨some 108, Go.Op.pick (Go.Operand.tmp 105) (Go.Operand.const (Go.Value.bool true)) (Go.Operand.tmp 107), 4, none⟩,
      ⟨some 109, Go.Op.move (Go.Operand.tmp 108), 4, none⟩,
      ⟨some 110, Go.Op.fieldAddr 25 (Go.Operand.tmp 11) 0, 0, (some (109, false))⟩,
      ⟨some 111, Go.Op.load 3 (Go.Operand.tmp 110), 3, (some (109, false))⟩,
      ⟨some 112, Go.Op.binOp Go.BinOp.neq 3 (Go.Operand.tmp 111) (Go.Operand.const (Go.Value.int Go.IntKind.i64 2)) 3, 4, (some (109, false))⟩,
      ⟨some 113, Go.Op.pick (Go.Operand.tmp 109) (Go.Operand.const (Go.Value.bool true)) (Go.Operand.tmp 112), 4, none⟩,
      ⟨some 114, Go.Op.move (Go.Operand.tmp 113), 4, none⟩,
      ⟨some 115, Go.Op.fieldAddr 25 (Go.Operand.tmp 13) 0, 0, (some (114, false))⟩,
      ⟨some 116, Go.Op.load 3 (Go.Operand.tmp 115), 3, (some (114, false))⟩,
      ⟨some 117, Go.Op.binOp Go.BinOp.neq 3 (Go.Operand.tmp 116) (Go.Operand.const (Go.Value.int Go.IntKind.i64 2)) 3, 4, (some (114, false))⟩,
      ⟨some 118, Go.Op.pick (Go.Operand.tmp 114) (Go.Operand.const (Go.Value.bool true)) (Go.Operand.tmp 117), 4, none⟩,
      ⟨some 119, Go.Op.move (Go.Operand.tmp 118), 4, none⟩,
      ⟨some 120, Go.Op.move (Go.Operand.tmp 2), 9, (some (119, false))⟩,
      ⟨some 121, Go.Op.call { callee := Go.Callee.builtin Go.Builtin.len, args := #[Go.Operand.tmp 120], argTypes := #[9] }, 3, (some (119, false))⟩,
      ⟨some 122, Go.Op.binOp Go.BinOp.gtr 3 (Go.Operand.tmp 121) (Go.Operand.const (Go.Value.int Go.IntKind.i64 0)) 3, 4, (some (119, false))⟩,
      ⟨some 123, Go.Op.move (Go.Operand.tmp 122), 4, (some (119, false))⟩,
      ⟨some 124, Go.Op.move (Go.Operand.tmp 2), 9, (some (123, true))⟩,
      ⟨some 125, Go.Op.index 9 (Go.Operand.tmp 124) (Go.Operand.const (Go.Value.int Go.IntKind.i64 0)), 5, (some (123, true))⟩,
      ⟨some 126, Go.Op.binOp Go.BinOp.eql 5 (Go.Operand.tmp 125) (Go.Operand.const (Go.Value.int Go.IntKind.u8 94)) 5, 4, (some (123, true))⟩,
      ⟨some 127, Go.Op.pick (Go.Operand.tmp 123) (Go.Operand.tmp 126) (Go.Operand.const (Go.Value.bool false)), 4, (some (119, false))⟩,
      ⟨some 128, Go.Op.pick (Go.Operand.tmp 119) (Go.Operand.const (Go.Value.bool true)) (Go.Operand.tmp 127), 4, none⟩])
    (.cond (Go.Operand.tmp 128)
      (.seq (.region [⟨some 129, Go.Op.call { callee := Go.Callee.value (Go.Operand.func 11), args := #[], argTypes := #[] }, 4, none⟩,
        ⟨some 6, Go.Op.assign (Go.Operand.tmp 129), 4, none⟩])
      .ret)
      .skip))
    (.seq (.draw [⟨⟨some 130, Go.Op.load 25 (Go.Operand.tmp 11), 25, none⟩, false, false, false⟩,
      ⟨⟨some 131, Go.Op.move (Go.Operand.tmp 7), 9, none⟩, false, false, false⟩,
      ⟨⟨some 132, Go.Op.call { callee := Go.Callee.value (Go.Operand.func 17), args := #[Go.Operand.tmp 130, Go.Operand.tmp 131], argTypes := #[25, 9] }, 4, none⟩, false, false, false⟩,
      ⟨⟨some 133, Go.Op.load 25 (Go.Operand.tmp 13), 25, none⟩, false, false, false⟩,
      ⟨⟨some 134, Go.Op.move (Go.Operand.tmp 7), 9, none⟩, false, false, false⟩,
      ⟨⟨some 135, Go.Op.call { callee := Go.Callee.value (Go.Operand.func 17), args := #[Go.Operand.tmp 133, Go.Operand.tmp 134], argTypes := #[25, 9] }, 4, none⟩, false, false, false⟩,
      ⟨⟨some 136, Go.Op.binOp Go.BinOp.neq 4 (Go.Operand.tmp 132) (Go.Operand.tmp 135) 4, 4, none⟩, false, false, false⟩,
      ⟨⟨some 137, Go.Op.move (Go.Operand.tmp 136), 4, none⟩, false, false, false⟩,
      ⟨⟨some 138, Go.Op.call { callee := Go.Callee.value (Go.Operand.func 11), args := #[], argTypes := #[] }, 4, (some (137, true))⟩, false, false, false⟩,
      ⟨⟨some 139, Go.Op.pick (Go.Operand.tmp 137) (Go.Operand.tmp 138) (Go.Operand.const (Go.Value.bool false)), 4, none⟩, false, false, false⟩,
      ⟨⟨some 6, Go.Op.assign (Go.Operand.tmp 139), 4, none⟩, false, false, false⟩])
    .ret))))))))) :=
  ⟨foll, Tryz.f9, Tryz.func9, by kernel_rfl, by kernel_rfl, by kernel_rfl, by rw [Tryz.ntmps9]; decide⟩

/-- narrator.narratorref31.Same -/
theorem fn15 : FnIs Tryz.prog 15 2 [Go.ResultVar.tmp 4] (.seq (.region [⟨some 2, Go.Op.box 25 (Go.Operand.tmp 0), 0, none⟩,
      ⟨some 3, Go.Op.box 25 (Go.Operand.tmp 1), 0, none⟩,
      ⟨some 4, Go.Op.assign (Go.Operand.const (Go.Value.bool false)), 4, none⟩])
    (.seq (.seq (.region [⟨some 7, Go.Op.fieldAddr 25 (Go.Operand.tmp 2) 0, 0, none⟩,
      ⟨some 8, Go.Op.load 3 (Go.Operand.tmp 7), 3, none⟩,
      ⟨some 9, Go.Op.fieldAddr 25 (Go.Operand.tmp 3) 0, 0, none⟩,
      ⟨some 10, Go.Op.load 3 (Go.Operand.tmp 9), 3, none⟩,
      ⟨some 11, Go.Op.binOp Go.BinOp.neq 3 (Go.Operand.tmp 8) (Go.Operand.tmp 10) 3, 4, none⟩,
      ⟨some 12, Go.Op.move (Go.Operand.tmp 11), 4, none⟩,
      ⟨some 13, Go.Op.fieldAddr 25 (Go.Operand.tmp 2) 3, 0, (some (12, false))⟩,
      ⟨some 14, Go.Op.load 3 (Go.Operand.tmp 13), 3, (some (12, false))⟩,
      ⟨some 15, Go.Op.fieldAddr 25 (Go.Operand.tmp 3) 3, 0, (some (12, false))⟩,
      ⟨some 16, Go.Op.load 3 (Go.Operand.tmp 15), 3, (some (12, false))⟩,
      ⟨some 17, Go.Op.binOp Go.BinOp.neq 3 (Go.Operand.tmp 14) (Go.Operand.tmp 16) 3, 4, (some (12, false))⟩,
      ⟨some 18, Go.Op.pick (Go.Operand.tmp 12) (Go.Operand.const (Go.Value.bool true)) (Go.Operand.tmp 17), 4, none⟩,
      ⟨some 19, Go.Op.move (Go.Operand.tmp 18), 4, none⟩,
      ⟨some 20, Go.Op.fieldAddr 25 (Go.Operand.tmp 2) 4, 0, (some (19, false))⟩,
      ⟨some 21, Go.Op.load 3 (Go.Operand.tmp 20), 3, (some (19, false))⟩,
      ⟨some 22, Go.Op.fieldAddr 25 (Go.Operand.tmp 3) 4, 0, (some (19, false))⟩,
      ⟨some 23, Go.Op.load 3 (Go.Operand.tmp 22), 3, (some (19, false))⟩,
      ⟨some 24, Go.Op.binOp Go.BinOp.neq 3 (Go.Operand.tmp 21) (Go.Operand.tmp 23) 3, 4, (some (19, false))⟩,
      ⟨some 25, Go.Op.pick (Go.Operand.tmp 19) (Go.Operand.const (Go.Value.bool true)) (Go.Operand.tmp 24), 4, none⟩,
      ⟨some 26, Go.Op.move (Go.Operand.tmp 25), 4, none⟩,
      ⟨some 27, Go.Op.fieldAddr 25 (Go.Operand.tmp 2) 1, 0, (some (26, false))⟩,
      ⟨some 28, Go.Op.load 22 (Go.Operand.tmp 27), 22, (some (26, false))⟩,
      ⟨some 29, Go.Op.call { callee := Go.Callee.builtin Go.Builtin.len, args := #[Go.Operand.tmp 28], argTypes := #[22] }, 3, (some (26, false))⟩,
      ⟨some 30, Go.Op.fieldAddr 25 (Go.Operand.tmp 3) 1, 0, (some (26, false))⟩,
      ⟨some 31, Go.Op.load 22 (Go.Operand.tmp 30), 22, (some (26, false))⟩,
      ⟨some 32, Go.Op.call { callee := Go.Callee.builtin Go.Builtin.len, args := #[Go.Operand.tmp 31], argTypes := #[22] }, 3, (some (26, false))⟩,
      ⟨some 33, Go.Op.binOp Go.BinOp.neq 3 (Go.Operand.tmp 29) (Go.Operand.tmp 32) 3, 4, (some (26, false))⟩,
      ⟨some 34, Go.Op.pick (Go.Operand.tmp 26) (Go.Operand.const (Go.Value.bool true)) (Go.Operand.tmp 33), 4, none⟩,
      ⟨some 35, Go.Op.move (Go.Operand.tmp 34), 4, none⟩,
      ⟨some 36, Go.Op.fieldAddr 25 (Go.Operand.tmp 2) 2, 0, (some (35, false))⟩,
      ⟨some 37, Go.Op.load 23 (Go.Operand.tmp 36), 23, (some (35, false))⟩,
      ⟨some 38, Go.Op.call { callee := Go.Callee.builtin Go.Builtin.len, args := #[Go.Operand.tmp 37], argTypes := #[23] }, 3, (some (35, false))⟩,
      ⟨some 39, Go.Op.fieldAddr 25 (Go.Operand.tmp 3) 2, 0, (some (35, false))⟩,
      ⟨some 40, Go.Op.load 23 (Go.Operand.tmp 39), 23, (some (35, false))⟩,
      ⟨some 41, Go.Op.call { callee := Go.Callee.builtin Go.Builtin.len, args := #[Go.Operand.tmp 40], argTypes := #[23] }, 3, (some (35, false))⟩,
      ⟨some 42, Go.Op.binOp Go.BinOp.neq 3 (Go.Operand.tmp 38) (Go.Operand.tmp 41) 3, 4, (some (35, false))⟩,
      ⟨some 43, Go.Op.pick (Go.Operand.tmp 35) (Go.Operand.const (Go.Value.bool true)) (Go.Operand.tmp 42), 4, none⟩])
    (.cond (Go.Operand.tmp 43)
      (.seq (.region [⟨some 4, Go.Op.assign (Go.Operand.const (Go.Value.bool false)), 4, none⟩])
      .ret)
      .skip))
    (.seq (.seq (.region [⟨some 5, Go.Op.assign (Go.Operand.const (Go.Value.int Go.IntKind.i64 0)), 3, none⟩])
    (.block 0
      (.loop
        (.seq (.seq (.region [⟨some 44, Go.Op.move (Go.Operand.tmp 5), 3, none⟩,
          ⟨some 45, Go.Op.fieldAddr 25 (Go.Operand.tmp 2) 1, 0, none⟩,
          ⟨some 46, Go.Op.load 22 (Go.Operand.tmp 45), 22, none⟩,
          ⟨some 47, Go.Op.call { callee := Go.Callee.builtin Go.Builtin.len, args := #[Go.Operand.tmp 46], argTypes := #[22] }, 3, none⟩,
          ⟨some 48, Go.Op.binOp Go.BinOp.lss 3 (Go.Operand.tmp 44) (Go.Operand.tmp 47) 3, 4, none⟩])
        (.cond (Go.Operand.tmp 48)
          .skip
          (.exit 0)))
        (.seq (.block 1
          (.seq (.draw [⟨⟨some 51, Go.Op.fieldAddr 25 (Go.Operand.tmp 2) 1, 0, none⟩, false, false, false⟩,
            ⟨⟨some 52, Go.Op.load 22 (Go.Operand.tmp 51), 22, none⟩, false, false, false⟩,
            ⟨⟨some 53, Go.Op.move (Go.Operand.tmp 5), 3, none⟩, false, false, false⟩,
            ⟨⟨some 54, Go.Op.indexAddr 22 (Go.Operand.tmp 52) (Go.Operand.tmp 53), 0, none⟩, false, false, false⟩,
            ⟨⟨some 55, Go.Op.load 44 (Go.Operand.tmp 54), 44, none⟩, false, false, false⟩,
            ⟨⟨some 56, Go.Op.fieldAddr 25 (Go.Operand.tmp 3) 1, 0, none⟩, false, false, false⟩,
            ⟨⟨some 57, Go.Op.load 22 (Go.Operand.tmp 56), 22, none⟩, false, false, false⟩,
            ⟨⟨some 58, Go.Op.move (Go.Operand.tmp 5), 3, none⟩, false, false, false⟩,
            ⟨⟨some 59, Go.Op.indexAddr 22 (Go.Operand.tmp 57) (Go.Operand.tmp 58), 0, none⟩, false, false, false⟩,
            ⟨⟨some 60, Go.Op.load 44 (Go.Operand.tmp 59), 44, none⟩, false, false, false⟩,
            ⟨⟨some 61, Go.Op.binOp Go.BinOp.neq 44 (Go.Operand.tmp 55) (Go.Operand.tmp 60) 44, 4, none⟩, false, false, false⟩])
          (.cond (Go.Operand.tmp 61)
            (.seq (.region [⟨some 4, Go.Op.assign (Go.Operand.const (Go.Value.bool false)), 4, none⟩])
            .ret)
            .skip)))
        (.region [⟨some 49, Go.Op.move (Go.Operand.tmp 5), 3, none⟩,
          ⟨some 50, Go.Op.binOp Go.BinOp.add 3 (Go.Operand.tmp 49) (Go.Operand.const (Go.Value.int Go.IntKind.i64 1)) 3, 3, none⟩,
          ⟨some 5, Go.Op.assign (Go.Operand.tmp 50), 3, none⟩]))))))
    (.seq (.seq (.region [⟨some 6, Go.Op.assign (Go.Operand.const (Go.Value.int Go.IntKind.i64 0)), 3, none⟩])
    (.block 2
      (.loop
        (.seq (.seq (.region [⟨some 62, Go.Op.move (Go.Operand.tmp 6), 3, none⟩,
          ⟨some 63, Go.Op.fieldAddr 25 (Go.Operand.tmp 2) 2, 0, none⟩,
          ⟨some 64, Go.Op.load 23 (Go.Operand.tmp 63), 23, none⟩,
          ⟨some 65, Go.Op.call { callee := Go.Callee.builtin Go.Builtin.len, args := #[Go.Operand.tmp 64], argTypes := #[23] }, 3, none⟩,
          ⟨some 66, Go.Op.binOp Go.BinOp.lss 3 (Go.Operand.tmp 62) (Go.Operand.tmp 65) 3, 4, none⟩])
        (.cond (Go.Operand.tmp 66)
          .skip
          (.exit 2)))
        (.seq (.block 3
          (.seq (.draw [⟨⟨some 69, Go.Op.fieldAddr 25 (Go.Operand.tmp 2) 2, 0, none⟩, false, false, false⟩,
            ⟨⟨some 70, Go.Op.load 23 (Go.Operand.tmp 69), 23, none⟩, false, false, false⟩,
            ⟨⟨some 71, Go.Op.move (Go.Operand.tmp 6), 3, none⟩, false, false, false⟩,
            ⟨⟨some 72, Go.Op.indexAddr 23 (Go.Operand.tmp 70) (Go.Operand.tmp 71), 0, none⟩, false, false, false⟩,
            ⟨⟨some 73, Go.Op.load 25 (Go.Operand.tmp 72), 25, none⟩, false, false, false⟩,
            ⟨⟨some 74, Go.Op.fieldAddr 25 (Go.Operand.tmp 3) 2, 0, none⟩, false, false, false⟩,
            ⟨⟨some 75, Go.Op.load 23 (Go.Operand.tmp 74), 23, none⟩, false, false, false⟩,
            ⟨⟨some 76, Go.Op.move (Go.Operand.tmp 6), 3, none⟩, false, false, false⟩,
            ⟨⟨some 77, Go.Op.indexAddr 23 (Go.Operand.tmp 75) (Go.Operand.tmp 76), 0, none⟩, false, false, false⟩,
            ⟨⟨some 78, Go.Op.load 25 (Go.Operand.tmp 77), 25, none⟩, false, false, false⟩,
            ⟨⟨some 79, Go.Op.call { callee := Go.Callee.value (Go.Operand.func 15), args := #[Go.Operand.tmp 73, Go.Operand.tmp 78], argTypes := #[25, 25] }, 4, none⟩, false, false, false⟩,
            ⟨⟨some 80, Go.Op.unOp Go.UnOp.not 4 (Go.Operand.tmp 79), 4, none⟩, false, false, false⟩])
          (.cond (Go.Operand.tmp 80)
            (.seq (.region [⟨some 4, Go.Op.assign (Go.Operand.const (Go.Value.bool false)), 4, none⟩])
            .ret)
            .skip)))
        (.region [⟨some 67, Go.Op.move (Go.Operand.tmp 6), 3, none⟩,
          ⟨some 68, Go.Op.binOp Go.BinOp.add 3 (Go.Operand.tmp 67) (Go.Operand.const (Go.Value.int Go.IntKind.i64 1)) 3, 3, none⟩,
          ⟨some 6, Go.Op.assign (Go.Operand.tmp 68), 3, none⟩]))))))
    (.seq (.region [⟨some 4, Go.Op.assign (Go.Operand.const (Go.Value.bool true)), 4, none⟩])
    .ret))))) :=
  ⟨foll, Tryz.f15, Tryz.func15, by kernel_rfl, by kernel_rfl, by kernel_rfl, by rw [Tryz.ntmps15]; decide⟩

/-- narrator.utf8stream.Valid -/
theorem fn18 : FnIs Tryz.prog 18 1 [Go.ResultVar.tmp 2] (.seq (.region [⟨some 2, Go.Op.assign (Go.Operand.const (Go.Value.bool false)), 4, none⟩])
    (.seq (.region [⟨some 3, Go.Op.move (Go.Operand.tmp 0), 9, none⟩,
      ⟨some 4, Go.Op.call { callee := Go.Callee.value (Go.Operand.func 34), args := #[Go.Operand.tmp 3], argTypes := #[9] }, 4, none⟩,
      ⟨some 2, Go.Op.assign (Go.Operand.tmp 4), 4, none⟩])
    .ret)) :=
  ⟨foll, Tryz.f18, Tryz.func18, by kernel_rfl, by kernel_rfl, by kernel_rfl, by rw [Tryz.ntmps18]; decide⟩

/-- narrator.narratorref31.Match -/
theorem fn19 : FnIs Tryz.prog 19 2 [Go.ResultVar.tmp 4] (.seq (.region [⟨some 2, Go.Op.box 25 (Go.Operand.tmp 0), 0, none⟩,
      ⟨some 4, Go.Op.assign (Go.Operand.const (Go.Value.bool false)), 4, none⟩])
    (.seq (.seq (.region [⟨some 7, Go.Op.load 25 (Go.Operand.tmp 2), 25, none⟩,
      ⟨some 8, Go.Op.call { callee := Go.Callee.value (Go.Operand.func 35), args := #[Go.Operand.tmp 7], argTypes := #[25] }, 3, none⟩,
      ⟨some 9, Go.Op.binOp Go.BinOp.neq 3 (Go.Operand.tmp 8) (Go.Operand.const (Go.Value.int Go.IntKind.i64 0)) 3, 4, none⟩])
    (.cond (Go.Operand.tmp 9)
      (.seq (.region [⟨some 4, Go.Op.assign (Go.Operand.const (Go.Value.bool false)), 4, none⟩])
      .ret)
      .skip))
    (.seq (.region [⟨some 10, Go.Op.move (Go.Operand.tmp 1), 9, none⟩,
      ⟨some 11, Go.Op.call { callee := Go.Callee.value (Go.Operand.func 36), args := #[Go.Operand.tmp 10], argTypes := #[9] }, 42, none⟩,
      ⟨some 5, Go.Op.assign (Go.Operand.tmp 11), 42, none⟩])
    (.seq (.region [⟨some 12, Go.Op.move (Go.Operand.tmp 5), 42, none⟩,
      ⟨some 13, Go.Op.call { callee := Go.Callee.builtin Go.Builtin.len, args := #[Go.Operand.tmp 12], argTypes := #[42] }, 3, none⟩,
      ⟨some 14, Go.Op.binOp Go.BinOp.add 3 (Go.Operand.tmp 13) (Go.Operand.const (Go.Value.int Go.IntKind.i64 1)) 3, 3, none⟩,
      ⟨some 15, Go.Op.makeSlice 60 (Go.Operand.tmp 14) (Go.Operand.tmp 14), 60, none⟩,
      ⟨some 6, Go.Op.assign (Go.Operand.tmp 15), 60, none⟩])
    (.seq (.region [⟨some 16, Go.Op.move (Go.Operand.tmp 6), 60, none⟩,
      ⟨some 17, Go.Op.indexAddr 60 (Go.Operand.tmp 16) (Go.Operand.const (Go.Value.int Go.IntKind.i64 0)), 0, none⟩,
      ⟨none, Go.Op.store 4 (Go.Operand.tmp 17) (Go.Operand.const (Go.Value.bool true)), 0, none⟩])
    (.seq (.region [⟨some 18, Go.Op.load 25 (Go.Operand.tmp 2), 25, none⟩,
      ⟨some 19, Go.Op.move (Go.Operand.tmp 5), 42, none⟩,
      ⟨some 20, Go.Op.move (Go.Operand.tmp 6), 60, none⟩,
      ⟨some 21, Go.Op.call { callee := Go.Callee.value (Go.Operand.func 37), args := #[Go.Operand.tmp 18, Go.Operand.tmp 19, Go.Operand.tmp 20], argTypes := #[25, 42, 60] }, 60, none⟩,
      ⟨some 22, Go.Op.move (Go.Operand.tmp 5), 42, none⟩,
      ⟨some 23, Go.Op.call { callee := Go.Callee.builtin Go.Builtin.len, args := #[Go.Operand.tmp 22], argTypes := #[42] }, 3, none⟩,
      ⟨some 24, Go.Op.indexAddr 60 (Go.Operand.tmp 21) (Go.Operand.tmp 23), 0, none⟩,
      ⟨some 25, Go.Op.load 4 (Go.Operand.tmp 24), 4, none⟩,
      ⟨some 4, Go.Op.assign (Go.Operand.tmp 25), 4, none⟩])
    .ret)))))) :=
  ⟨foll, Tryz.f19, Tryz.func19, by kernel_rfl, by kernel_rfl, by kernel_rfl, by rw [Tryz.ntmps19]; decide⟩

/-- narrator.utf8stream.Encode -/
theorem fn21 : FnIs Tryz.prog 21 1 [Go.ResultVar.tmp 2] (.seq (.region [⟨some 2, Go.Op.assign (Go.Operand.const (Go.Value.string { data := #[] })), 9, none⟩])
    (.seq (.region [⟨some 3, Go.Op.assign (Go.Operand.const (Go.Value.slice none 0 0)), 62, none⟩])
    (.seq (.seq (.region [⟨some 6, Go.Op.move (Go.Operand.tmp 0), 42, none⟩,
      ⟨some 7, Go.Op.call { callee := Go.Callee.builtin Go.Builtin.len, args := #[Go.Operand.tmp 6], argTypes := #[42] }, 3, none⟩,
      ⟨some 8, Go.Op.move (Go.Operand.const (Go.Value.int Go.IntKind.i64 0)), 3, none⟩])
    (.block 0
      (.loop
        (.seq (.region [⟨some 9, Go.Op.binOp Go.BinOp.lss 3 (Go.Operand.tmp 8) (Go.Operand.tmp 7) 3, 0, none⟩])
        (.seq (.cond (Go.Operand.tmp 9)
          .skip
          (.exit 0))
        (.seq (.block 1
          (.seq (.region [⟨some 10, Go.Op.indexAddr 42 (Go.Operand.tmp 6) (Go.Operand.tmp 8), 0, none⟩,
            ⟨some 11, Go.Op.load 21 (Go.Operand.tmp 10), 21, none⟩,
            ⟨some 5, Go.Op.assign (Go.Operand.tmp 11), 21, none⟩])
          (.region [⟨some 12, Go.Op.move (Go.Operand.tmp 3), 62, none⟩,
            ⟨some 13, Go.Op.move (Go.Operand.tmp 5), 21, none⟩,
            ⟨some 14, Go.Op.call { callee := Go.Callee.value (Go.Operand.func 38), args := #[Go.Operand.tmp 12, Go.Operand.tmp 13], argTypes := #[62, 21] }, 62, none⟩,
            ⟨some 3, Go.Op.assign (Go.Operand.tmp 14), 62, none⟩])))
        (.region [⟨some 15, Go.Op.binOp Go.BinOp.add 3 (Go.Operand.tmp 8) (Go.Operand.const (Go.Value.int Go.IntKind.i64 1)) 3, 3, none⟩,
          ⟨some 8, Go.Op.move (Go.Operand.tmp 15), 3, none⟩])))))))
    (.seq (.region [⟨some 16, Go.Op.move (Go.Operand.tmp 3), 62, none⟩,
      ⟨some 17, Go.Op.convert 62 9 (Go.Operand.tmp 16), 9, none⟩,
      ⟨some 2, Go.Op.assign (Go.Operand.tmp 17), 9, none⟩])
    .ret)))) :=
  ⟨foll, Tryz.f21, Tryz.func21, by kernel_rfl, by kernel_rfl, by kernel_rfl, by rw [Tryz.ntmps21]; decide⟩

end Go.Proofs.YtebejiilpedlmaaGreatDoor
