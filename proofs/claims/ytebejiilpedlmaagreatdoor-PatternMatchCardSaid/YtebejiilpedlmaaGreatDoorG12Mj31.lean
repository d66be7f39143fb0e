/- The prepared code of further functions. Written by a program of mine (gen.py) out of what the loaded dump prints. -/
import Derived.Test.YtebejiilpedlmaaGreatDoorG09Base31
set_option linter.unusedVariables false
set_option maxRecDepth 100000
namespace Go.Proofs.YtebejiilpedlmaaGreatDoor
open Go Nv

/-- narrator.narratorref31.Check -/
theorem fn35 : FnIs Tryz.prog 35 1 [Go.ResultVar.tmp 2] (.seq (.region [⟨some 1, Go.Op.box 25 (Go.Operand.tmp 0), 0, none⟩,
      ⟨some 2, Go.Op.assign (Go.Operand.const (Go.Value.int Go.IntKind.i64 0)), 3, none⟩])
    (.seq (.seq (.region [⟨some 3, Go.Op.load 25 (Go.Operand.tmp 1), 25, none⟩,
      ⟨some 4, Go.Op.call { callee := Go.Callee.value (Go.Operand.func 22), args := #[Go.Operand.tmp 3, Go.Operand.const (Go.Value.int Go.IntKind.i64 121)], argTypes := #[25, 3] }, 3, none⟩,
      ⟨some 5, Go.Op.binOp Go.BinOp.gtr 3 (Go.Operand.tmp 4) (Go.Operand.const (Go.Value.int Go.IntKind.i64 120)) 3, 4, none⟩])
    (.cond (Go.Operand.tmp 5)
      (.seq (.region [⟨some 2, Go.Op.assign (Go.Operand.const (Go.Value.int Go.IntKind.i64 5)), 3, none⟩])
      .ret)
      .skip))
    (.seq (.region [⟨some 6, Go.Op.load 25 (Go.Operand.tmp 1), 25, none⟩,
      ⟨some 7, Go.Op.call { callee := Go.Callee.value (Go.Operand.func 52), args := #[Go.Operand.tmp 6], argTypes := #[25] }, 3, none⟩,
      ⟨some 2, Go.Op.assign (Go.Operand.tmp 7), 3, none⟩])
    .ret))) :=
  ⟨foll, Tryz.f35, Tryz.func35, by kernel_rfl, by kernel_rfl, by kernel_rfl, by rw [Tryz.ntmps35]; decide⟩

/-- narrator.narratorref31.Characters -/
theorem fn36 : FnIs Tryz.prog 36 1 [Go.ResultVar.tmp 2] (.seq (.region [⟨some 2, Go.Op.assign (Go.Operand.const (Go.Value.slice none 0 0)), 42, none⟩])
    (.seq (.region [⟨some 6, Go.Op.move (Go.Operand.tmp 0), 9, none⟩,
      ⟨some 7, Go.Op.call { callee := Go.Callee.value (Go.Operand.func 53), args := #[Go.Operand.const (Go.Value.string { data := #[] }), Go.Operand.tmp 6], argTypes := #[9, 9] }, 57, none⟩,
      ⟨some 5, Go.Op.move (Go.Operand.tmp 7), 57, none⟩,
      ⟨some 8, Go.Op.extract (Go.Operand.tmp 5) 0, 42, none⟩,
      ⟨some 9, Go.Op.extract (Go.Operand.tmp 5) 1, 9, none⟩,
      ⟨some 3, Go.Op.assign (Go.Operand.tmp 8), 42, none⟩,
      ⟨some 4, Go.Op.assign (Go.Operand.tmp 9), 9, none⟩])
    (.seq (.region [⟨some 10, Go.Op.move (Go.Operand.tmp 3), 42, none⟩,
      ⟨some 11, Go.Op.move (Go.Operand.tmp 4), 9, none⟩,
      ⟨some 12, Go.Op.call { callee := Go.Callee.value (Go.Operand.func 54), args := #[Go.Operand.tmp 11], argTypes := #[9] }, 42, none⟩,
      ⟨some 13, Go.Op.call { callee := Go.Callee.builtin Go.Builtin.append, args := #[Go.Operand.tmp 10, Go.Operand.tmp 12], argTypes := #[42, 42] }, 42, none⟩,
      ⟨some 2, Go.Op.assign (Go.Operand.tmp 13), 42, none⟩])
    .ret))) :=
  ⟨foll, Tryz.f36, Tryz.func36, by kernel_rfl, by kernel_rfl, by kernel_rfl, by rw [Tryz.ntmps36]; decide⟩

/-- narrator.narratorref31.ends -/
theorem fn37 : FnIs Tryz.prog 37 3 [Go.ResultVar.tmp 6] (.seq (.region [⟨some 3, Go.Op.box 25 (Go.Operand.tmp 0), 0, none⟩,
      ⟨some 6, Go.Op.assign (Go.Operand.const (Go.Value.slice none 0 0)), 60, none⟩])
    (.seq (.region [⟨some 16, Go.Op.move (Go.Operand.tmp 2), 60, none⟩,
      ⟨some 17, Go.Op.call { callee := Go.Callee.builtin Go.Builtin.len, args := #[Go.Operand.tmp 16], argTypes := #[60] }, 3, none⟩,
      ⟨some 18, Go.Op.makeSlice 60 (Go.Operand.tmp 17) (Go.Operand.tmp 17), 60, none⟩,
      ⟨some 7, Go.Op.assign (Go.Operand.tmp 18), 60, none⟩])
    (.seq (.seq (.region [⟨some 19, Go.Op.fieldAddr 25 (Go.Operand.tmp 3) 0, 0, none⟩,
      ⟨some 20, Go.Op.load 3 (Go.Operand.tmp 19), 3, none⟩])
    (.block 0
      (.seq (.region [⟨some 22, Go.Op.binOp Go.BinOp.eql 3 (Go.Operand.tmp 20) (Go.Operand.const (Go.Value.int Go.IntKind.i64 1)) 3, 4, none⟩,
        ⟨some 21, Go.Op.assign (Go.Operand.tmp 22), 4, none⟩])
      (.cond (Go.Operand.tmp 21)
        (.seq (.region [⟨some 23, Go.Op.buildSlice 60 0 #[], 60, none⟩,
          ⟨some 24, Go.Op.move (Go.Operand.tmp 2), 60, none⟩,
          ⟨some 25, Go.Op.call { callee := Go.Callee.builtin Go.Builtin.append, args := #[Go.Operand.tmp 23, Go.Operand.tmp 24], argTypes := #[60, 60] }, 60, none⟩,
          ⟨some 6, Go.Op.assign (Go.Operand.tmp 25), 60, none⟩])
        .ret)
        (.seq (.region [⟨some 27, Go.Op.binOp Go.BinOp.eql 3 (Go.Operand.tmp 20) (Go.Operand.const (Go.Value.int Go.IntKind.i64 2)) 3, 4, none⟩,
          ⟨some 26, Go.Op.assign (Go.Operand.tmp 27), 4, none⟩])
        (.cond (Go.Operand.tmp 26)
          (.seq (.seq (.region [⟨some 8, Go.Op.assign (Go.Operand.const (Go.Value.int Go.IntKind.i64 0)), 3, none⟩])
          (.block 1
            (.loop
              (.seq (.seq (.region [⟨some 28, Go.Op.move (Go.Operand.tmp 8), 3, none⟩,
                ⟨some 29, Go.Op.move (Go.Operand.tmp 1), 42, none⟩,
                ⟨some 30, Go.Op.call { callee := Go.Callee.builtin Go.Builtin.len, args := #[Go.Operand.tmp 29], argTypes := #[42] }, 3, none⟩,
                ⟨some 31, Go.Op.binOp Go.BinOp.lss 3 (Go.Operand.tmp 28) (Go.Operand.tmp 30) 3, 4, none⟩])
              (.cond (Go.Operand.tmp 31)
                .skip
                (.exit 1)))
              (.seq (.block 2
                (.draw [⟨⟨some 34, Go.Op.move (Go.Operand.tmp 7), 60, none⟩, false, false, false⟩,
                  ⟨⟨some 35, Go.Op.move (Go.Operand.tmp 8), 3, none⟩, false, false, false⟩,
                  ⟨⟨some 36, Go.Op.binOp Go.BinOp.add 3 (Go.Operand.tmp 35) (Go.Operand.const (Go.Value.int Go.IntKind.i64 1)) 3, 3, none⟩, false, false, false⟩,
                  ⟨⟨some 37, Go.Op.move (Go.Operand.tmp 2), 60, none⟩, false, false, false⟩,
                  ⟨⟨some 38, Go.Op.move (Go.Operand.tmp 8), 3, none⟩, false, false, false⟩,
                  ⟨⟨some 39, Go.Op.indexAddr 60 (Go.Operand.tmp 37) (Go.Operand.tmp 38), 0, none⟩, false, false, false⟩,
                  ⟨⟨some 40, Go.Op.load 4 (Go.Operand.tmp 39), 4, none⟩, false, false, false⟩,
                  ⟨⟨some 41, Go.Op.move (Go.Operand.tmp 40), 4, none⟩, false, false, false⟩,
                  ⟨⟨some 42, Go.Op.fieldAddr 25 (Go.Operand.tmp 3) 1, 0, (some (41, true))⟩, false, false, false⟩,
                  ⟨⟨some 43, Go.Op.load 22 (Go.Operand.tmp 42), 22, (some (41, true))⟩, false, false, false⟩,
                  ⟨⟨some 44, Go.Op.move (Go.Operand.tmp 1), 42, (some (41, true))⟩, false, false, false⟩,
                  ⟨⟨some 45, Go.Op.move (Go.Operand.tmp 8), 3, (some (41, true))⟩, false, false, false⟩,
                  ⟨⟨some 46, Go.Op.indexAddr 42 (Go.Operand.tmp 44) (Go.Operand.tmp 45), 0, (some (41, true))⟩, false, false, false⟩,
                  ⟨⟨some 47, Go.Op.load 21 (Go.Operand.tmp 46), 21, (some (41, true))⟩, false, false, false⟩,
                  ⟨⟨some 48, Go.Op.call { callee := Go.Callee.value (Go.Operand.func 55), args := #[Go.Operand.tmp 43, Go.Operand.tmp 47], argTypes := #[22, 21] }, 4, (some (41, true))⟩, false, false, false⟩,
                  ⟨⟨some 49, Go.Op.pick (Go.Operand.tmp 41) (Go.Operand.tmp 48) (Go.Operand.const (Go.Value.bool false)), 4, none⟩, false, false, false⟩,
                  ⟨⟨some 50, Go.Op.indexAddr 60 (Go.Operand.tmp 34) (Go.Operand.tmp 36), 0, none⟩, false, false, false⟩,
                  ⟨⟨none, Go.Op.store 4 (Go.Operand.tmp 50) (Go.Operand.tmp 49), 0, none⟩, true, false, false⟩]))
              (.region [⟨some 32, Go.Op.move (Go.Operand.tmp 8), 3, none⟩,
                ⟨some 33, Go.Op.binOp Go.BinOp.add 3 (Go.Operand.tmp 32) (Go.Operand.const (Go.Value.int Go.IntKind.i64 1)) 3, 3, none⟩,
                ⟨some 8, Go.Op.assign (Go.Operand.tmp 33), 3, none⟩]))))))
          (.seq (.region [⟨some 51, Go.Op.move (Go.Operand.tmp 7), 60, none⟩,
            ⟨some 6, Go.Op.assign (Go.Operand.tmp 51), 60, none⟩])
          .ret))
          (.seq (.region [⟨some 53, Go.Op.binOp Go.BinOp.eql 3 (Go.Operand.tmp 20) (Go.Operand.const (Go.Value.int Go.IntKind.i64 3)) 3, 4, none⟩,
            ⟨some 52, Go.Op.assign (Go.Operand.tmp 53), 4, none⟩])
          (.cond (Go.Operand.tmp 52)
            (.seq (.region [⟨some 54, Go.Op.move (Go.Operand.tmp 2), 60, none⟩,
              ⟨some 9, Go.Op.assign (Go.Operand.tmp 54), 60, none⟩])
            (.seq (.seq (.region [⟨some 10, Go.Op.assign (Go.Operand.const (Go.Value.int Go.IntKind.i64 0)), 3, none⟩])
            (.block 3
              (.loop
                (.seq (.seq (.region [⟨some 55, Go.Op.move (Go.Operand.tmp 10), 3, none⟩,
                  ⟨some 56, Go.Op.fieldAddr 25 (Go.Operand.tmp 3) 2, 0, none⟩,
                  ⟨some 57, Go.Op.load 23 (Go.Operand.tmp 56), 23, none⟩,
                  ⟨some 58, Go.Op.call { callee := Go.Callee.builtin Go.Builtin.len, args := #[Go.Operand.tmp 57], argTypes := #[23] }, 3, none⟩,
                  ⟨some 59, Go.Op.binOp Go.BinOp.lss 3 (Go.Operand.tmp 55) (Go.Operand.tmp 58) 3, 4, none⟩])
                (.cond (Go.Operand.tmp 59)
                  .skip
                  (.exit 3)))
                (.seq (.block 4
                  (.region [⟨some 62, Go.Op.fieldAddr 25 (Go.Operand.tmp 3) 2, 0, none⟩,
                    ⟨some 63, Go.Op.load 23 (Go.Operand.tmp 62), 23, none⟩,
                    ⟨some 64, Go.Op.move (Go.Operand.tmp 10), 3, none⟩,
                    ⟨some 65, Go.Op.indexAddr 23 (Go.Operand.tmp 63) (Go.Operand.tmp 64), 0, none⟩,
                    ⟨some 66, Go.Op.load 25 (Go.Operand.tmp 65), 25, none⟩,
                    ⟨some 67, Go.Op.move (Go.Operand.tmp 1), 42, none⟩,
                    ⟨some 68, Go.Op.move (Go.Operand.tmp 9), 60, none⟩,
                    ⟨some 69, Go.Op.call { callee := Go.Callee.value (Go.Operand.func 37), args := #[Go.Operand.tmp 66, Go.Operand.tmp 67, Go.Operand.tmp 68], argTypes := #[25, 42, 60] }, 60, none⟩,
                    ⟨some 9, Go.Op.assign (Go.Operand.tmp 69), 60, none⟩]))
                (.region [⟨some 60, Go.Op.move (Go.Operand.tmp 10), 3, none⟩,
                  ⟨some 61, Go.Op.binOp Go.BinOp.add 3 (Go.Operand.tmp 60) (Go.Operand.const (Go.Value.int Go.IntKind.i64 1)) 3, 3, none⟩,
                  ⟨some 10, Go.Op.assign (Go.Operand.tmp 61), 3, none⟩]))))))
            (.seq (.region [⟨some 70, Go.Op.buildSlice 60 0 #[], 60, none⟩,
              ⟨some 71, Go.Op.move (Go.Operand.tmp 9), 60, none⟩,
              ⟨some 72, Go.Op.call { callee := Go.Callee.builtin Go.Builtin.append, args := #[Go.Operand.tmp 70, Go.Operand.tmp 71], argTypes := #[60, 60] }, 60, none⟩,
              ⟨some 6, Go.Op.assign (Go.Operand.tmp 72), 60, none⟩])
            .ret)))
            (.seq (.region [⟨some 74, Go.Op.binOp Go.BinOp.eql 3 (Go.Operand.tmp 20) (Go.Operand.const (Go.Value.int Go.IntKind.i64 4)) 3, 4, none⟩,
              ⟨some 73, Go.Op.assign (Go.Operand.tmp 74), 4, none⟩])
            (.cond (Go.Operand.tmp 73)
              (.seq (.seq (.region [⟨some 11, Go.Op.assign (Go.Operand.const (Go.Value.int Go.IntKind.i64 0)), 3, none⟩])
              (.block 5
                (.loop
                  (.seq (.seq (.region [⟨some 75, Go.Op.move (Go.Operand.tmp 11), 3, none⟩,
                    ⟨some 76, Go.Op.fieldAddr 25 (Go.Operand.tmp 3) 2, 0, none⟩,
                    ⟨some 77, Go.Op.load 23 (Go.Operand.tmp 76), 23, none⟩,
                    ⟨some 78, Go.Op.call { callee := Go.Callee.builtin Go.Builtin.len, args := #[Go.Operand.tmp 77], argTypes := #[23] }, 3, none⟩,
                    ⟨some 79, Go.Op.binOp Go.BinOp.lss 3 (Go.Operand.tmp 75) (Go.Operand.tmp 78) 3, 4, none⟩])
                  (.cond (Go.Operand.tmp 79)
                    .skip
                    (.exit 5)))
                  (.seq (.block 6
                    (.region [⟨some 82, Go.Op.move (Go.Operand.tmp 7), 60, none⟩,
                      ⟨some 83, Go.Op.fieldAddr 25 (Go.Operand.tmp 3) 2, 0, none⟩,
                      ⟨some 84, Go.Op.load 23 (Go.Operand.tmp 83), 23, none⟩,
                      ⟨some 85, Go.Op.move (Go.Operand.tmp 11), 3, none⟩,
                      ⟨some 86, Go.Op.indexAddr 23 (Go.Operand.tmp 84) (Go.Operand.tmp 85), 0, none⟩,
                      ⟨some 87, Go.Op.load 25 (Go.Operand.tmp 86), 25, none⟩,
                      ⟨some 88, Go.Op.move (Go.Operand.tmp 1), 42, none⟩,
                      ⟨some 89, Go.Op.move (Go.Operand.tmp 2), 60, none⟩,
                      ⟨some 90, Go.Op.call { callee := Go.Callee.value (Go.Operand.func 37), args := #[Go.Operand.tmp 87, Go.Operand.tmp 88, Go.Operand.tmp 89], argTypes := #[25, 42, 60] }, 60, none⟩,
                      ⟨some 91, Go.Op.call { callee := Go.Callee.value (Go.Operand.func 56), args := #[Go.Operand.tmp 82, Go.Operand.tmp 90], argTypes := #[60, 60] }, 60, none⟩,
                      ⟨some 7, Go.Op.assign (Go.Operand.tmp 91), 60, none⟩]))
                  (.region [⟨some 80, Go.Op.move (Go.Operand.tmp 11), 3, none⟩,
                    ⟨some 81, Go.Op.binOp Go.BinOp.add 3 (Go.Operand.tmp 80) (Go.Operand.const (Go.Value.int Go.IntKind.i64 1)) 3, 3, none⟩,
                    ⟨some 11, Go.Op.assign (Go.Operand.tmp 81), 3, none⟩]))))))
              (.seq (.region [⟨some 92, Go.Op.move (Go.Operand.tmp 7), 60, none⟩,
                ⟨some 6, Go.Op.assign (Go.Operand.tmp 92), 60, none⟩])
              .ret))
              .skip))))))))))
    (.seq (.region [⟨some 93, Go.Op.move (Go.Operand.tmp 2), 60, none⟩,
      ⟨some 12, Go.Op.assign (Go.Operand.tmp 93), 60, none⟩])
    (.seq (.seq (.region [⟨some 13, Go.Op.assign (Go.Operand.const (Go.Value.int Go.IntKind.i64 0)), 3, none⟩])
    (.block 7
      (.loop
        (.seq (.seq (.region [⟨some 94, Go.Op.move (Go.Operand.tmp 13), 3, none⟩,
          ⟨some 95, Go.Op.fieldAddr 25 (Go.Operand.tmp 3) 3, 0, none⟩,
          ⟨some 96, Go.Op.load 3 (Go.Operand.tmp 95), 3, none⟩,
          ⟨some 97, Go.Op.binOp Go.BinOp.lss 3 (Go.Operand.tmp 94) (Go.Operand.tmp 96) 3, 4, none⟩])
        (.cond (Go.Operand.tmp 97)
          .skip
          (.exit 7)))
        (.seq (.block 8
          (.region [⟨some 100, Go.Op.fieldAddr 25 (Go.Operand.tmp 3) 2, 0, none⟩,
            ⟨some 101, Go.Op.load 23 (Go.Operand.tmp 100), 23, none⟩,
            ⟨some 102, Go.Op.indexAddr 23 (Go.Operand.tmp 101) (Go.Operand.const (Go.Value.int Go.IntKind.i64 0)), 0, none⟩,
            ⟨some 103, Go.Op.load 25 (Go.Operand.tmp 102), 25, none⟩,
            ⟨some 104, Go.Op.move (Go.Operand.tmp 1), 42, none⟩,
            ⟨some 105, Go.Op.move (Go.Operand.tmp 12), 60, none⟩,
            ⟨some 106, Go.Op.call { callee := Go.Callee.value (Go.Operand.func 37), args := #[Go.Operand.tmp 103, Go.Operand.tmp 104, Go.Operand.tmp 105], argTypes := #[25, 42, 60] }, 60, none⟩,
            ⟨some 12, Go.Op.assign (Go.Operand.tmp 106), 60, none⟩]))
        (.region [⟨some 98, Go.Op.move (Go.Operand.tmp 13), 3, none⟩,
          ⟨some 99, Go.Op.binOp Go.BinOp.add 3 (Go.Operand.tmp 98) (Go.Operand.const (Go.Value.int Go.IntKind.i64 1)) 3, 3, none⟩,
          ⟨some 13, Go.Op.assign (Go.Operand.tmp 99), 3, none⟩]))))))
    (.seq (.region [⟨some 107, Go.Op.buildSlice 60 0 #[], 60, none⟩,
      ⟨some 108, Go.Op.move (Go.Operand.tmp 12), 60, none⟩,
      ⟨some 109, Go.Op.call { callee := Go.Callee.builtin Go.Builtin.append, args := #[Go.Operand.tmp 107, Go.Operand.tmp 108], argTypes := #[60, 60] }, 60, none⟩,
      ⟨some 7, Go.Op.assign (Go.Operand.tmp 109), 60, none⟩])
    (.seq (.region [⟨some 110, Go.Op.fieldAddr 25 (Go.Operand.tmp 3) 4, 0, none⟩,
      ⟨some 111, Go.Op.load 3 (Go.Operand.tmp 110), 3, none⟩,
      ⟨some 112, Go.Op.fieldAddr 25 (Go.Operand.tmp 3) 3, 0, none⟩,
      ⟨some 113, Go.Op.load 3 (Go.Operand.tmp 112), 3, none⟩,
      ⟨some 114, Go.Op.binOp Go.BinOp.sub 3 (Go.Operand.tmp 111) (Go.Operand.tmp 113) 3, 3, none⟩,
      ⟨some 14, Go.Op.assign (Go.Operand.tmp 114), 3, none⟩])
    (.seq (.seq (.region [⟨some 115, Go.Op.fieldAddr 25 (Go.Operand.tmp 3) 4, 0, none⟩,
      ⟨some 116, Go.Op.load 3 (Go.Operand.tmp 115), 3, none⟩,
      ⟨some 117, Go.Op.binOp Go.BinOp.lss 3 (Go.Operand.tmp 116) (Go.Operand.const (Go.Value.int Go.IntKind.i64 0)) 3, 4, none⟩])
    (.cond (Go.Operand.tmp 117)
      (.region [⟨some 118, Go.Op.move (Go.Operand.tmp 1), 42, none⟩,
        ⟨some 119, Go.Op.call { callee := Go.Callee.builtin Go.Builtin.len, args := #[Go.Operand.tmp 118], argTypes := #[42] }, 3, none⟩,
        ⟨some 120, Go.Op.binOp Go.BinOp.add 3 (Go.Operand.tmp 119) (Go.Operand.const (Go.Value.int Go.IntKind.i64 1)) 3, 3, none⟩,
        ⟨some 14, Go.Op.assign (Go.Operand.tmp 120), 3, none⟩])
      .skip))
    (.seq (.seq (.region [⟨some 15, Go.Op.assign (Go.Operand.const (Go.Value.int Go.IntKind.i64 0)), 3, none⟩])
    (.block 9
      (.loop
        (.seq (.seq (.region [⟨some 121, Go.Op.move (Go.Operand.tmp 15), 3, none⟩,
          ⟨some 122, Go.Op.move (Go.Operand.tmp 14), 3, none⟩,
          ⟨some 123, Go.Op.binOp Go.BinOp.lss 3 (Go.Operand.tmp 121) (Go.Operand.tmp 122) 3, 4, none⟩])
        (.cond (Go.Operand.tmp 123)
          .skip
          (.exit 9)))
        (.seq (.block 10
          (.seq (.region [⟨some 126, Go.Op.fieldAddr 25 (Go.Operand.tmp 3) 2, 0, none⟩,
            ⟨some 127, Go.Op.load 23 (Go.Operand.tmp 126), 23, none⟩,
            ⟨some 128, Go.Op.indexAddr 23 (Go.Operand.tmp 127) (Go.Operand.const (Go.Value.int Go.IntKind.i64 0)), 0, none⟩,
            ⟨some 129, Go.Op.load 25 (Go.Operand.tmp 128), 25, none⟩,
            ⟨some 130, Go.Op.move (Go.Operand.tmp 1), 42, none⟩,
            ⟨some 131, Go.Op.move (Go.Operand.tmp 12), 60, none⟩,
            ⟨some 132, Go.Op.call { callee := Go.Callee.value (Go.Operand.func 37), args := #[Go.Operand.tmp 129, Go.Operand.tmp 130, Go.Operand.tmp 131], argTypes := #[25, 42, 60] }, 60, none⟩,
            ⟨some 12, Go.Op.assign (Go.Operand.tmp 132), 60, none⟩])
          (.region [⟨some 133, Go.Op.move (Go.Operand.tmp 7), 60, none⟩,
            ⟨some 134, Go.Op.move (Go.Operand.tmp 12), 60, none⟩,
            ⟨some 135, Go.Op.call { callee := Go.Callee.value (Go.Operand.func 56), args := #[Go.Operand.tmp 133, Go.Operand.tmp 134], argTypes := #[60, 60] }, 60, none⟩,
            ⟨some 7, Go.Op.assign (Go.Operand.tmp 135), 60, none⟩])))
        (.region [⟨some 124, Go.Op.move (Go.Operand.tmp 15), 3, none⟩,
          ⟨some 125, Go.Op.binOp Go.BinOp.add 3 (Go.Operand.tmp 124) (Go.Operand.const (Go.Value.int Go.IntKind.i64 1)) 3, 3, none⟩,
          ⟨some 15, Go.Op.assign (Go.Operand.tmp 125), 3, none⟩]))))))
    (.seq (.region [⟨some 136, Go.Op.move (Go.Operand.tmp 7), 60, none⟩,
      ⟨some 6, Go.Op.assign (Go.Operand.tmp 136), 60, none⟩])
    .ret)))))))))) :=
  ⟨foll, Tryz.f37, Tryz.func37, by kernel_rfl, by kernel_rfl, by kernel_rfl, by rw [Tryz.ntmps37]; decide⟩

/-- narrator.narratorref31.node -/
theorem fn52 : FnIs Tryz.prog 52 1 [Go.ResultVar.tmp 2] (.seq (.region [⟨some 1, Go.Op.box 25 (Go.Operand.tmp 0), 0, none⟩,
      ⟨some 2, Go.Op.assign (Go.Operand.const (Go.Value.int Go.IntKind.i64 0)), 3, none⟩])
    (.seq (.seq (.region [⟨some 6, Go.Op.fieldAddr 25 (Go.Operand.tmp 1) 0, 0, none⟩,
      ⟨some 7, Go.Op.load 3 (Go.Operand.tmp 6), 3, none⟩,
      ⟨some 8, Go.Op.binOp Go.BinOp.lss 3 (Go.Operand.tmp 7) (Go.Operand.const (Go.Value.int Go.IntKind.i64 1)) 3, 4, none⟩,
      ⟨some 9, Go.Op.move (Go.Operand.tmp 8), 4, none⟩,
      ⟨some 10, Go.Op.fieldAddr 25 (Go.Operand.tmp 1) 0, 0, (some (9, false))⟩,
      ⟨some 11, Go.Op.load 3 (Go.Operand.tmp 10), 3, (some (9, false))⟩,
      ⟨some 12, Go.Op.binOp Go.BinOp.gtr 3 (Go.Operand.tmp 11) (Go.Operand.const (Go.Value.int Go.IntKind.i64 5)) 3, 4, (some (9, false))⟩,
      ⟨some 13, Go.Op.pick (Go.Operand.tmp 9) (Go.Operand.const (Go.Value.bool true)) (Go.Operand.tmp 12), 4, none⟩])
    (.cond (Go.Operand.tmp 13)
      (.seq (.region [⟨some 2, Go.Op.assign (Go.Operand.const (Go.Value.int Go.IntKind.i64 9)), 3, none⟩])
      .ret)
      .skip))
    (.seq (.region [⟨some 14, Go.Op.fieldAddr 25 (Go.Operand.tmp 1) 0, 0, none⟩,
      ⟨some 15, Go.Op.load 3 (Go.Operand.tmp 14), 3, none⟩,
      ⟨some 16, Go.Op.binOp Go.BinOp.eql 3 (Go.Operand.tmp 15) (Go.Operand.const (Go.Value.int Go.IntKind.i64 2)) 3, 4, none⟩,
      ⟨some 17, Go.Op.move (Go.Operand.tmp 16), 4, none⟩,
      ⟨some 18, Go.Op.fieldAddr 25 (Go.Operand.tmp 1) 1, 0, (some (17, false))⟩,
      ⟨some 19, Go.Op.load 22 (Go.Operand.tmp 18), 22, (some (17, false))⟩,
      ⟨some 20, Go.Op.call { callee := Go.Callee.builtin Go.Builtin.len, args := #[Go.Operand.tmp 19], argTypes := #[22] }, 3, (some (17, false))⟩,
      ⟨some 21, Go.Op.binOp Go.BinOp.eql 3 (Go.Operand.tmp 20) (Go.Operand.const (Go.Value.int Go.IntKind.i64 0)) 3, 4, (some (17, false))⟩,
      ⟨some 22, Go.Op.pick (Go.Operand.tmp 17) (Go.Operand.const (Go.Value.bool true)) (Go.Operand.tmp 21), 4, none⟩,
      ⟨some 3, Go.Op.assign (Go.Operand.tmp 22), 4, none⟩])
    (.seq (.region [⟨some 23, Go.Op.move (Go.Operand.tmp 3), 4, none⟩,
      ⟨some 24, Go.Op.move (Go.Operand.tmp 23), 4, none⟩,
      ⟨some 25, Go.Op.fieldAddr 25 (Go.Operand.tmp 1) 0, 0, (some (24, true))⟩,
      ⟨some 26, Go.Op.load 3 (Go.Operand.tmp 25), 3, (some (24, true))⟩,
      ⟨some 27, Go.Op.binOp Go.BinOp.eql 3 (Go.Operand.tmp 26) (Go.Operand.const (Go.Value.int Go.IntKind.i64 5)) 3, 4, (some (24, true))⟩,
      ⟨some 28, Go.Op.move (Go.Operand.tmp 27), 4, (some (24, true))⟩,
      ⟨some 29, Go.Op.fieldAddr 25 (Go.Operand.tmp 1) 3, 0, (some (28, false))⟩,
      ⟨some 30, Go.Op.load 3 (Go.Operand.tmp 29), 3, (some (28, false))⟩,
      ⟨some 31, Go.Op.binOp Go.BinOp.eql 3 (Go.Operand.tmp 30) (Go.Operand.const (Go.Value.int Go.IntKind.i64 0)) 3, 4, (some (28, false))⟩,
      ⟨some 32, Go.Op.move (Go.Operand.tmp 31), 4, (some (28, false))⟩,
      ⟨some 33, Go.Op.fieldAddr 25 (Go.Operand.tmp 1) 4, 0, (some (32, true))⟩,
      ⟨some 34, Go.Op.load 3 (Go.Operand.tmp 33), 3, (some (32, true))⟩,
      ⟨some 35, Go.Op.binOp Go.BinOp.eql 3 (Go.Operand.tmp 34) (Go.Operand.const (Go.Value.int Go.IntKind.i64 0)) 3, 4, (some (32, true))⟩,
      ⟨some 36, Go.Op.pick (Go.Operand.tmp 32) (Go.Operand.tmp 35) (Go.Operand.const (Go.Value.bool false)), 4, (some (28, false))⟩,
      ⟨some 37, Go.Op.pick (Go.Operand.tmp 28) (Go.Operand.const (Go.Value.bool true)) (Go.Operand.tmp 36), 4, (some (24, true))⟩,
      ⟨some 38, Go.Op.pick (Go.Operand.tmp 24) (Go.Operand.tmp 37) (Go.Operand.const (Go.Value.bool false)), 4, none⟩,
      ⟨some 3, Go.Op.assign (Go.Operand.tmp 38), 4, none⟩])
    (.seq (.seq (.region [⟨some 39, Go.Op.fieldAddr 25 (Go.Operand.tmp 1) 0, 0, none⟩,
      ⟨some 40, Go.Op.load 3 (Go.Operand.tmp 39), 3, none⟩])
    (.block 0
      (.seq (.seq (.region [⟨some 42, Go.Op.binOp Go.BinOp.eql 3 (Go.Operand.tmp 40) (Go.Operand.const (Go.Value.int Go.IntKind.i64 1)) 3, 4, none⟩,
        ⟨some 41, Go.Op.assign (Go.Operand.tmp 42), 4, none⟩])
      (.cond (Go.Operand.tmp 41)
        .skip
        (.region [⟨some 43, Go.Op.binOp Go.BinOp.eql 3 (Go.Operand.tmp 40) (Go.Operand.const (Go.Value.int Go.IntKind.i64 2)) 3, 4, none⟩,
          ⟨some 41, Go.Op.assign (Go.Operand.tmp 43), 4, none⟩])))
      (.cond (Go.Operand.tmp 41)
        (.region [⟨some 44, Go.Op.move (Go.Operand.tmp 3), 4, none⟩,
          ⟨some 45, Go.Op.move (Go.Operand.tmp 44), 4, none⟩,
          ⟨some 46, Go.Op.fieldAddr 25 (Go.Operand.tmp 1) 2, 0, (some (45, true))⟩,
          ⟨some 47, Go.Op.load 23 (Go.Operand.tmp 46), 23, (some (45, true))⟩,
          ⟨some 48, Go.Op.call { callee := Go.Callee.builtin Go.Builtin.len, args := #[Go.Operand.tmp 47], argTypes := #[23] }, 3, (some (45, true))⟩,
          ⟨some 49, Go.Op.binOp Go.BinOp.eql 3 (Go.Operand.tmp 48) (Go.Operand.const (Go.Value.int Go.IntKind.i64 0)) 3, 4, (some (45, true))⟩,
          ⟨some 50, Go.Op.pick (Go.Operand.tmp 45) (Go.Operand.tmp 49) (Go.Operand.const (Go.Value.bool false)), 4, none⟩,
          ⟨some 51, Go.Op.move (Go.Operand.tmp 50), 4, none⟩,
          ⟨some 52, Go.Op.fieldAddr 25 (Go.Operand.tmp 1) 1, 0, (some (51, true))⟩,
          ⟨some 53, Go.Op.load 22 (Go.Operand.tmp 52), 22, (some (51, true))⟩,
          ⟨some 54, Go.Op.call { callee := Go.Callee.value (Go.Operand.func 69), args := #[Go.Operand.tmp 53], argTypes := #[22] }, 4, (some (51, true))⟩,
          ⟨some 55, Go.Op.pick (Go.Operand.tmp 51) (Go.Operand.tmp 54) (Go.Operand.const (Go.Value.bool false)), 4, none⟩,
          ⟨some 3, Go.Op.assign (Go.Operand.tmp 55), 4, none⟩])
        (.seq (.seq (.region [⟨some 57, Go.Op.binOp Go.BinOp.eql 3 (Go.Operand.tmp 40) (Go.Operand.const (Go.Value.int Go.IntKind.i64 3)) 3, 4, none⟩,
          ⟨some 56, Go.Op.assign (Go.Operand.tmp 57), 4, none⟩])
        (.cond (Go.Operand.tmp 56)
          .skip
          (.region [⟨some 58, Go.Op.binOp Go.BinOp.eql 3 (Go.Operand.tmp 40) (Go.Operand.const (Go.Value.int Go.IntKind.i64 4)) 3, 4, none⟩,
            ⟨some 56, Go.Op.assign (Go.Operand.tmp 58), 4, none⟩])))
        (.cond (Go.Operand.tmp 56)
          (.region [⟨some 59, Go.Op.move (Go.Operand.tmp 3), 4, none⟩,
            ⟨some 60, Go.Op.move (Go.Operand.tmp 59), 4, none⟩,
            ⟨some 61, Go.Op.fieldAddr 25 (Go.Operand.tmp 1) 2, 0, (some (60, true))⟩,
            ⟨some 62, Go.Op.load 23 (Go.Operand.tmp 61), 23, (some (60, true))⟩,
            ⟨some 63, Go.Op.call { callee := Go.Callee.builtin Go.Builtin.len, args := #[Go.Operand.tmp 62], argTypes := #[23] }, 3, (some (60, true))⟩,
            ⟨some 64, Go.Op.binOp Go.BinOp.gtr 3 (Go.Operand.tmp 63) (Go.Operand.const (Go.Value.int Go.IntKind.i64 1)) 3, 4, (some (60, true))⟩,
            ⟨some 65, Go.Op.pick (Go.Operand.tmp 60) (Go.Operand.tmp 64) (Go.Operand.const (Go.Value.bool false)), 4, none⟩,
            ⟨some 3, Go.Op.assign (Go.Operand.tmp 65), 4, none⟩])
          (.seq (.region [⟨some 67, Go.Op.binOp Go.BinOp.eql 3 (Go.Operand.tmp 40) (Go.Operand.const (Go.Value.int Go.IntKind.i64 5)) 3, 4, none⟩,
            ⟨some 66, Go.Op.assign (Go.Operand.tmp 67), 4, none⟩])
          (.cond (Go.Operand.tmp 66)
            (.region [⟨some 68, Go.Op.move (Go.Operand.tmp 3), 4, none⟩,
              ⟨some 69, Go.Op.move (Go.Operand.tmp 68), 4, none⟩,
              ⟨some 70, Go.Op.fieldAddr 25 (Go.Operand.tmp 1) 2, 0, (some (69, true))⟩,
              ⟨some 71, Go.Op.load 23 (Go.Operand.tmp 70), 23, (some (69, true))⟩,
              ⟨some 72, Go.Op.call { callee := Go.Callee.builtin Go.Builtin.len, args := #[Go.Operand.tmp 71], argTypes := #[23] }, 3, (some (69, true))⟩,
              ⟨some 73, Go.Op.binOp Go.BinOp.eql 3 (Go.Operand.tmp 72) (Go.Operand.const (Go.Value.int Go.IntKind.i64 1)) 3, 4, (some (69, true))⟩,
              ⟨some 74, Go.Op.pick (Go.Operand.tmp 69) (Go.Operand.tmp 73) (Go.Operand.const (Go.Value.bool false)), 4, none⟩,
              ⟨some 75, Go.Op.move (Go.Operand.tmp 74), 4, none⟩,
              ⟨some 76, Go.Op.fieldAddr 25 (Go.Operand.tmp 1) 3, 0, (some (75, true))⟩,
              ⟨some 77, Go.Op.load 3 (Go.Operand.tmp 76), 3, (some (75, true))⟩,
              ⟨some 78, Go.Op.binOp Go.BinOp.geq 3 (Go.Operand.tmp 77) (Go.Operand.const (Go.Value.int Go.IntKind.i64 0)) 3, 4, (some (75, true))⟩,
              ⟨some 79, Go.Op.pick (Go.Operand.tmp 75) (Go.Operand.tmp 78) (Go.Operand.const (Go.Value.bool false)), 4, none⟩,
              ⟨some 80, Go.Op.move (Go.Operand.tmp 79), 4, none⟩,
              ⟨some 81, Go.Op.fieldAddr 25 (Go.Operand.tmp 1) 3, 0, (some (80, true))⟩,
              ⟨some 82, Go.Op.load 3 (Go.Operand.tmp 81), 3, (some (80, true))⟩,
              ⟨some 83, Go.Op.binOp Go.BinOp.leq 3 (Go.Operand.tmp 82) (Go.Operand.const (Go.Value.int Go.IntKind.i64 20)) 3, 4, (some (80, true))⟩,
              ⟨some 84, Go.Op.pick (Go.Operand.tmp 80) (Go.Operand.tmp 83) (Go.Operand.const (Go.Value.bool false)), 4, none⟩,
              ⟨some 85, Go.Op.move (Go.Operand.tmp 84), 4, none⟩,
              ⟨some 86, Go.Op.fieldAddr 25 (Go.Operand.tmp 1) 4, 0, (some (85, true))⟩,
              ⟨some 87, Go.Op.load 3 (Go.Operand.tmp 86), 3, (some (85, true))⟩,
              ⟨some 88, Go.Op.binOp Go.BinOp.eql 3 (Go.Operand.tmp 87) (Go.Operand.const (Go.Value.int Go.IntKind.i64 (-1))) 3, 4, (some (85, true))⟩,
              ⟨some 89, Go.Op.move (Go.Operand.tmp 88), 4, (some (85, true))⟩,
              ⟨some 90, Go.Op.fieldAddr 25 (Go.Operand.tmp 1) 4, 0, (some (89, false))⟩,
              ⟨some 91, Go.Op.load 3 (Go.Operand.tmp 90), 3, (some (89, false))⟩,
              ⟨some 92, Go.Op.fieldAddr 25 (Go.Operand.tmp 1) 3, 0, (some (89, false))⟩,
              ⟨some 93, Go.Op.load 3 (Go.Operand.tmp 92), 3, (some (89, false))⟩,
              ⟨some 94, Go.Op.binOp Go.BinOp.geq 3 (Go.Operand.tmp 91) (Go.Operand.tmp 93) 3, 4, (some (89, false))⟩,
              ⟨some 95, Go.Op.move (Go.Operand.tmp 94), 4, (some (89, false))⟩,
              ⟨some 96, Go.Op.fieldAddr 25 (Go.Operand.tmp 1) 4, 0, (some (95, true))⟩,
              ⟨some 97, Go.Op.load 3 (Go.Operand.tmp 96), 3, (some (95, true))⟩,
              ⟨some 98, Go.Op.binOp Go.BinOp.leq 3 (Go.Operand.tmp 97) (Go.Operand.const (Go.Value.int Go.IntKind.i64 20)) 3, 4, (some (95, true))⟩,
              ⟨some 99, Go.Op.pick (Go.Operand.tmp 95) (Go.Operand.tmp 98) (Go.Operand.const (Go.Value.bool false)), 4, (some (89, false))⟩,
              ⟨some 100, Go.Op.pick (Go.Operand.tmp 89) (Go.Operand.const (Go.Value.bool true)) (Go.Operand.tmp 99), 4, (some (85, true))⟩,
              ⟨some 101, Go.Op.pick (Go.Operand.tmp 85) (Go.Operand.tmp 100) (Go.Operand.const (Go.Value.bool false)), 4, none⟩,
              ⟨some 3, Go.Op.assign (Go.Operand.tmp 101), 4, none⟩])
            .skip))))))))
    (.seq (.seq (.region [⟨some 102, Go.Op.move (Go.Operand.tmp 3), 4, none⟩,
      ⟨some 103, Go.Op.unOp Go.UnOp.not 4 (Go.Operand.tmp 102), 4, none⟩])
    (.cond (Go.Operand.tmp 103)
      (.seq (.region [⟨some 2, Go.Op.assign (Go.Operand.const (Go.Value.int Go.IntKind.i64 1)), 3, none⟩])
      .ret)
      .skip))
    (.seq (.seq (.region [⟨some 4, Go.Op.assign (Go.Operand.const (Go.Value.int Go.IntKind.i64 0)), 3, none⟩])
    (.block 1
      (.loop
        (.seq (.seq (.region [⟨some 104, Go.Op.move (Go.Operand.tmp 4), 3, none⟩,
          ⟨some 105, Go.Op.fieldAddr 25 (Go.Operand.tmp 1) 2, 0, none⟩,
          ⟨some 106, Go.Op.load 23 (Go.Operand.tmp 105), 23, none⟩,
          ⟨some 107, Go.Op.call { callee := Go.Callee.builtin Go.Builtin.len, args := #[Go.Operand.tmp 106], argTypes := #[23] }, 3, none⟩,
          ⟨some 108, Go.Op.binOp Go.BinOp.lss 3 (Go.Operand.tmp 104) (Go.Operand.tmp 107) 3, 4, none⟩])
        (.cond (Go.Operand.tmp 108)
          .skip
          (.exit 1)))
        (.seq (.block 2
          (.seq (.region [⟨some 111, Go.Op.fieldAddr 25 (Go.Operand.tmp 1) 2, 0, none⟩,
            ⟨some 112, Go.Op.load 23 (Go.Operand.tmp 111), 23, none⟩,
            ⟨some 113, Go.Op.move (Go.Operand.tmp 4), 3, none⟩,
            ⟨some 114, Go.Op.indexAddr 23 (Go.Operand.tmp 112) (Go.Operand.tmp 113), 0, none⟩,
            ⟨some 115, Go.Op.load 25 (Go.Operand.tmp 114), 25, none⟩,
            ⟨some 116, Go.Op.call { callee := Go.Callee.value (Go.Operand.func 52), args := #[Go.Operand.tmp 115], argTypes := #[25] }, 3, none⟩,
            ⟨some 5, Go.Op.assign (Go.Operand.tmp 116), 3, none⟩])
          (.seq (.region [⟨some 117, Go.Op.move (Go.Operand.tmp 5), 3, none⟩,
            ⟨some 118, Go.Op.binOp Go.BinOp.neq 3 (Go.Operand.tmp 117) (Go.Operand.const (Go.Value.int Go.IntKind.i64 0)) 3, 4, none⟩])
          (.cond (Go.Operand.tmp 118)
            (.seq (.region [⟨some 119, Go.Op.move (Go.Operand.tmp 5), 3, none⟩,
              ⟨some 2, Go.Op.assign (Go.Operand.tmp 119), 3, none⟩])
            .ret)
            .skip))))
        (.region [⟨some 109, Go.Op.move (Go.Operand.tmp 4), 3, none⟩,
          ⟨some 110, Go.Op.binOp Go.BinOp.add 3 (Go.Operand.tmp 109) (Go.Operand.const (Go.Value.int Go.IntKind.i64 1)) 3, 3, none⟩,
          ⟨some 4, Go.Op.assign (Go.Operand.tmp 110), 3, none⟩]))))))
    (.seq (.region [⟨some 2, Go.Op.assign (Go.Operand.const (Go.Value.int Go.IntKind.i64 0)), 3, none⟩])
    .ret)))))))) :=
  ⟨foll, Tryz.f52, Tryz.func52, by kernel_rfl, by kernel_rfl, by kernel_rfl, by rw [Tryz.ntmps52]; decide⟩

/-- narrator.narratorref01.Decode -/
theorem fn53 : FnIs Tryz.prog 53 2 [Go.ResultVar.tmp 4, Go.ResultVar.tmp 5] (.seq (.region [⟨some 4, Go.Op.assign (Go.Operand.const (Go.Value.slice none 0 0)), 42, none⟩,
      ⟨some 5, Go.Op.assign (Go.Operand.const (Go.Value.string { data := #[] })), 9, none⟩])
    (.seq (.region [⟨some 17, Go.Op.move (Go.Operand.tmp 0), 9, none⟩,
      ⟨some 18, Go.Op.move (Go.Operand.tmp 1), 9, none⟩,
      ⟨some 19, Go.Op.binOp Go.BinOp.add 9 (Go.Operand.tmp 17) (Go.Operand.tmp 18) 9, 9, none⟩,
      ⟨some 6, Go.Op.assign (Go.Operand.tmp 19), 9, none⟩])
    (.seq (.region [⟨some 20, Go.Op.buildSlice 42 0 #[], 42, none⟩,
      ⟨some 7, Go.Op.assign (Go.Operand.tmp 20), 42, none⟩])
    (.seq (.region [⟨some 21, Go.Op.buildSlice 62 0 #[], 62, none⟩,
      ⟨some 8, Go.Op.assign (Go.Operand.tmp 21), 62, none⟩])
    (.seq (.seq (.region [⟨some 9, Go.Op.assign (Go.Operand.const (Go.Value.int Go.IntKind.i64 0)), 3, none⟩])
    (.block 0
      (.loop
        (.seq (.seq (.region [⟨some 22, Go.Op.move (Go.Operand.tmp 9), 3, none⟩,
          ⟨some 23, Go.Op.move (Go.Operand.tmp 6), 9, none⟩,
          ⟨some 24, Go.Op.call { callee := Go.Callee.builtin Go.Builtin.len, args := #[Go.Operand.tmp 23], argTypes := #[9] }, 3, none⟩,
          ⟨some 25, Go.Op.binOp Go.BinOp.lss 3 (Go.Operand.tmp 22) (Go.Operand.tmp 24) 3, 4, none⟩])
        (.cond (Go.Operand.tmp 25)
          .skip
          (.exit 0)))
        (.block 1
          (.seq (.region [⟨some 26, Go.Op.move (Go.Operand.tmp 6), 9, none⟩,
            ⟨some 27, Go.Op.move (Go.Operand.tmp 9), 3, none⟩,
            ⟨some 28, Go.Op.index 9 (Go.Operand.tmp 26) (Go.Operand.tmp 27), 5, none⟩,
            ⟨some 10, Go.Op.assign (Go.Operand.tmp 28), 5, none⟩])
          (.seq (.seq (.region [⟨some 29, Go.Op.move (Go.Operand.tmp 8), 62, none⟩,
            ⟨some 30, Go.Op.call { callee := Go.Callee.builtin Go.Builtin.len, args := #[Go.Operand.tmp 29], argTypes := #[62] }, 3, none⟩,
            ⟨some 31, Go.Op.binOp Go.BinOp.eql 3 (Go.Operand.tmp 30) (Go.Operand.const (Go.Value.int Go.IntKind.i64 0)) 3, 4, none⟩])
          (.cond (Go.Operand.tmp 31)
            (.seq (.region [⟨some 32, Go.Op.move (Go.Operand.tmp 9), 3, none⟩,
              ⟨some 33, Go.Op.binOp Go.BinOp.add 3 (Go.Operand.tmp 32) (Go.Operand.const (Go.Value.int Go.IntKind.i64 1)) 3, 3, none⟩,
              ⟨some 9, Go.Op.assign (Go.Operand.tmp 33), 3, none⟩])
            (.seq (.region [⟨some 35, Go.Op.move (Go.Operand.tmp 10), 5, none⟩,
              ⟨some 36, Go.Op.buildSlice 62 1 #[(0, Go.Operand.tmp 35)], 62, none⟩,
              ⟨some 37, Go.Op.call { callee := Go.Callee.value (Go.Operand.func 70), args := #[Go.Operand.tmp 36], argTypes := #[62] }, 102, none⟩,
              ⟨some 34, Go.Op.move (Go.Operand.tmp 37), 102, none⟩,
              ⟨some 38, Go.Op.extract (Go.Operand.tmp 34) 0, 5, none⟩,
              ⟨some 39, Go.Op.extract (Go.Operand.tmp 34) 1, 5, none⟩,
              ⟨some 40, Go.Op.extract (Go.Operand.tmp 34) 2, 3, none⟩,
              ⟨some 11, Go.Op.assign (Go.Operand.tmp 38), 5, none⟩,
              ⟨some 12, Go.Op.assign (Go.Operand.tmp 39), 5, none⟩,
              ⟨some 13, Go.Op.assign (Go.Operand.tmp 40), 3, none⟩])
            (.seq (.block 2
              (.seq (.region [⟨some 45, Go.Op.move (Go.Operand.tmp 10), 5, none⟩,
                ⟨some 46, Go.Op.binOp Go.BinOp.lss 5 (Go.Operand.tmp 45) (Go.Operand.const (Go.Value.int Go.IntKind.u8 128)) 5, 4, none⟩,
                ⟨some 44, Go.Op.assign (Go.Operand.tmp 46), 4, none⟩])
              (.cond (Go.Operand.tmp 44)
                (.region [⟨some 47, Go.Op.move (Go.Operand.tmp 7), 42, none⟩,
                  ⟨some 48, Go.Op.move (Go.Operand.tmp 10), 5, none⟩,
                  ⟨some 49, Go.Op.convert 5 21 (Go.Operand.tmp 48), 21, none⟩,
                  ⟨some 50, Go.Op.buildSlice 42 1 #[(0, Go.Operand.tmp 49)], 42, none⟩,
                  ⟨some 51, Go.Op.call { callee := Go.Callee.builtin Go.Builtin.append, args := #[Go.Operand.tmp 47, Go.Operand.tmp 50], argTypes := #[42, 42] }, 42, none⟩,
                  ⟨some 7, Go.Op.assign (Go.Operand.tmp 51), 42, none⟩])
                (.seq (.region [⟨some 53, Go.Op.move (Go.Operand.tmp 13), 3, none⟩,
                  ⟨some 54, Go.Op.binOp Go.BinOp.gtr 3 (Go.Operand.tmp 53) (Go.Operand.const (Go.Value.int Go.IntKind.i64 0)) 3, 4, none⟩,
                  ⟨some 52, Go.Op.assign (Go.Operand.tmp 54), 4, none⟩])
                (.cond (Go.Operand.tmp 52)
                  (.region [⟨some 55, Go.Op.move (Go.Operand.tmp 8), 62, none⟩,
                    ⟨some 56, Go.Op.move (Go.Operand.tmp 10), 5, none⟩,
                    ⟨some 57, Go.Op.buildSlice 62 1 #[(0, Go.Operand.tmp 56)], 62, none⟩,
                    ⟨some 58, Go.Op.call { callee := Go.Callee.builtin Go.Builtin.append, args := #[Go.Operand.tmp 55, Go.Operand.tmp 57], argTypes := #[62, 62] }, 62, none⟩,
                    ⟨some 8, Go.Op.assign (Go.Operand.tmp 58), 62, none⟩])
                  (.region [⟨some 41, Go.Op.move (Go.Operand.tmp 7), 42, none⟩,
                    ⟨some 42, Go.Op.buildSlice 42 1 #[(0, Go.Operand.const (Go.Value.int Go.IntKind.i32 65533))], 42, none⟩,
                    ⟨some 43, Go.Op.call { callee := Go.Callee.builtin Go.Builtin.append, args := #[Go.Operand.tmp 41, Go.Operand.tmp 42], argTypes := #[42, 42] }, 42, none⟩,
                    ⟨some 7, Go.Op.assign (Go.Operand.tmp 43), 42, none⟩]))))))
            (.exit 1))))
            .skip))
          (.seq (.region [⟨some 60, Go.Op.move (Go.Operand.tmp 8), 62, none⟩,
            ⟨some 61, Go.Op.call { callee := Go.Callee.value (Go.Operand.func 70), args := #[Go.Operand.tmp 60], argTypes := #[62] }, 102, none⟩,
            ⟨some 59, Go.Op.move (Go.Operand.tmp 61), 102, none⟩,
            ⟨some 62, Go.Op.extract (Go.Operand.tmp 59) 0, 5, none⟩,
            ⟨some 63, Go.Op.extract (Go.Operand.tmp 59) 1, 5, none⟩,
            ⟨some 64, Go.Op.extract (Go.Operand.tmp 59) 2, 3, none⟩,
            ⟨some 14, Go.Op.assign (Go.Operand.tmp 62), 5, none⟩,
            ⟨some 15, Go.Op.assign (Go.Operand.tmp 63), 5, none⟩,
            ⟨some 16, Go.Op.assign (Go.Operand.tmp 64), 3, none⟩])
          (.seq (.seq (.region [⟨some 65, Go.Op.move (Go.Operand.tmp 10), 5, none⟩,
            ⟨some 66, Go.Op.move (Go.Operand.tmp 14), 5, none⟩,
            ⟨some 67, Go.Op.binOp Go.BinOp.lss 5 (Go.Operand.tmp 65) (Go.Operand.tmp 66) 5, 4, none⟩,
            ⟨some 68, Go.Op.move (Go.Operand.tmp 67), 4, none⟩,
            ⟨some 69, Go.Op.move (Go.Operand.tmp 10), 5, (some (68, false))⟩,
            ⟨some 70, Go.Op.move (Go.Operand.tmp 15), 5, (some (68, false))⟩,
            ⟨some 71, Go.Op.binOp Go.BinOp.gtr 5 (Go.Operand.tmp 69) (Go.Operand.tmp 70) 5, 4, (some (68, false))⟩,
            ⟨some 72, Go.Op.pick (Go.Operand.tmp 68) (Go.Operand.const (Go.Value.bool true)) (Go.Operand.tmp 71), 4, none⟩])
          (.cond (Go.Operand.tmp 72)
            (.seq (.region [⟨some 73, Go.Op.move (Go.Operand.tmp 7), 42, none⟩,
              ⟨some 74, Go.Op.buildSlice 42 1 #[(0, Go.Operand.const (Go.Value.int Go.IntKind.i32 65533))], 42, none⟩,
              ⟨some 75, Go.Op.call { callee := Go.Callee.builtin Go.Builtin.append, args := #[Go.Operand.tmp 73, Go.Operand.tmp 74], argTypes := #[42, 42] }, 42, none⟩,
              ⟨some 7, Go.Op.assign (Go.Operand.tmp 75), 42, none⟩])
            (.seq (.region [⟨some 76, Go.Op.buildSlice 62 0 #[], 62, none⟩,
              ⟨some 8, Go.Op.assign (Go.Operand.tmp 76), 62, none⟩])
            (.exit 1)))
            .skip))
          (.seq (.region [⟨some 77, Go.Op.move (Go.Operand.tmp 9), 3, none⟩,
            ⟨some 78, Go.Op.binOp Go.BinOp.add 3 (Go.Operand.tmp 77) (Go.Operand.const (Go.Value.int Go.IntKind.i64 1)) 3, 3, none⟩,
            ⟨some 9, Go.Op.assign (Go.Operand.tmp 78), 3, none⟩])
          (.seq (.region [⟨some 79, Go.Op.move (Go.Operand.tmp 8), 62, none⟩,
            ⟨some 80, Go.Op.move (Go.Operand.tmp 10), 5, none⟩,
            ⟨some 81, Go.Op.buildSlice 62 1 #[(0, Go.Operand.tmp 80)], 62, none⟩,
            ⟨some 82, Go.Op.call { callee := Go.Callee.builtin Go.Builtin.append, args := #[Go.Operand.tmp 79, Go.Operand.tmp 81], argTypes := #[62, 62] }, 62, none⟩,
            ⟨some 8, Go.Op.assign (Go.Operand.tmp 82), 62, none⟩])
          (.seq (.region [⟨some 83, Go.Op.move (Go.Operand.tmp 8), 62, none⟩,
            ⟨some 84, Go.Op.call { callee := Go.Callee.builtin Go.Builtin.len, args := #[Go.Operand.tmp 83], argTypes := #[62] }, 3, none⟩,
            ⟨some 85, Go.Op.move (Go.Operand.tmp 16), 3, none⟩,
            ⟨some 86, Go.Op.binOp Go.BinOp.eql 3 (Go.Operand.tmp 84) (Go.Operand.tmp 85) 3, 4, none⟩])
          (.cond (Go.Operand.tmp 86)
            (.seq (.region [⟨some 87, Go.Op.move (Go.Operand.tmp 7), 42, none⟩,
              ⟨some 88, Go.Op.move (Go.Operand.tmp 8), 62, none⟩,
              ⟨some 89, Go.Op.call { callee := Go.Callee.value (Go.Operand.func 71), args := #[Go.Operand.tmp 88], argTypes := #[62] }, 21, none⟩,
              ⟨some 90, Go.Op.buildSlice 42 1 #[(0, Go.Operand.tmp 89)], 42, none⟩,
              ⟨some 91, Go.Op.call { callee := Go.Callee.builtin Go.Builtin.append, args := #[Go.Operand.tmp 87, Go.Operand.tmp 90], argTypes := #[42, 42] }, 42, none⟩,
              ⟨some 7, Go.Op.assign (Go.Operand.tmp 91), 42, none⟩])
            (.region [⟨some 92, Go.Op.buildSlice 62 0 #[], 62, none⟩,
              ⟨some 8, Go.Op.assign (Go.Operand.tmp 92), 62, none⟩]))
            .skip)))))))))))))
    (.seq (.draw [⟨⟨some 93, Go.Op.move (Go.Operand.tmp 7), 42, none⟩, false, false, false⟩,
      ⟨⟨some 94, Go.Op.move (Go.Operand.tmp 8), 62, none⟩, false, false, false⟩,
      ⟨⟨some 95, Go.Op.convert 62 9 (Go.Operand.tmp 94), 9, none⟩, false, false, false⟩,
      ⟨⟨some 4, Go.Op.assign (Go.Operand.tmp 93), 42, none⟩, false, false, false⟩,
      ⟨⟨some 5, Go.Op.assign (Go.Operand.tmp 95), 9, none⟩, false, false, false⟩])
    .ret)))))) :=
  ⟨foll, Tryz.f53, Tryz.func53, by kernel_rfl, by kernel_rfl, by kernel_rfl, by rw [Tryz.ntmps53]; decide⟩

/-- narrator.narratorref01.Finish -/
theorem fn54 : FnIs Tryz.prog 54 1 [Go.ResultVar.tmp 2] (.seq (.region [⟨some 2, Go.Op.assign (Go.Operand.const (Go.Value.slice none 0 0)), 42, none⟩])
    (.seq (.region [⟨some 6, Go.Op.move (Go.Operand.tmp 0), 9, none⟩,
      ⟨some 7, Go.Op.call { callee := Go.Callee.value (Go.Operand.func 53), args := #[Go.Operand.const (Go.Value.string { data := #[] }), Go.Operand.tmp 6], argTypes := #[9, 9] }, 57, none⟩,
      ⟨some 5, Go.Op.move (Go.Operand.tmp 7), 57, none⟩,
      ⟨some 8, Go.Op.extract (Go.Operand.tmp 5) 0, 42, none⟩,
      ⟨some 9, Go.Op.extract (Go.Operand.tmp 5) 1, 9, none⟩,
      ⟨some 3, Go.Op.assign (Go.Operand.tmp 8), 42, none⟩,
      ⟨some 4, Go.Op.assign (Go.Operand.tmp 9), 9, none⟩])
    (.seq (.seq (.region [⟨some 10, Go.Op.move (Go.Operand.tmp 4), 9, none⟩,
      ⟨some 11, Go.Op.binOp Go.BinOp.neq 9 (Go.Operand.tmp 10) (Go.Operand.const (Go.Value.string { data := #[] })) 9, 4, none⟩])
    (.cond (Go.Operand.tmp 11)
      (.region [⟨some 12, Go.Op.move (Go.Operand.tmp 3), 42, none⟩,
        ⟨some 13, Go.Op.buildSlice 42 1 #[(0, Go.Operand.const (Go.Value.int Go.IntKind.i32 65533))], 42, none⟩,
        ⟨some 14, Go.Op.call { callee := Go.Callee.builtin Go.Builtin.append, args := #[Go.Operand.tmp 12, Go.Operand.tmp 13], argTypes := #[42, 42] }, 42, none⟩,
        ⟨some 3, Go.Op.assign (Go.Operand.tmp 14), 42, none⟩])
      .skip))
    (.seq (.region [⟨some 15, Go.Op.move (Go.Operand.tmp 3), 42, none⟩,
      ⟨some 2, Go.Op.assign (Go.Operand.tmp 15), 42, none⟩])
    .ret)))) :=
  ⟨foll, Tryz.f54, Tryz.func54, by kernel_rfl, by kernel_rfl, by kernel_rfl, by rw [Tryz.ntmps54]; decide⟩

/-- narrator.narratorref31.In -/
theorem fn55 : FnIs Tryz.prog 55 2 [Go.ResultVar.tmp 4] (.seq (.region [⟨some 4, Go.Op.assign (Go.Operand.const (Go.Value.bool false)), 4, none⟩])
    (.seq (.seq (.region [⟨some 5, Go.Op.assign (Go.Operand.const (Go.Value.int Go.IntKind.i64 0)), 3, none⟩])
    (.block 0
      (.loop
        (.seq (.seq (.region [⟨some 6, Go.Op.move (Go.Operand.tmp 5), 3, none⟩,
          ⟨some 7, Go.Op.move (Go.Operand.tmp 0), 22, none⟩,
          ⟨some 8, Go.Op.call { callee := Go.Callee.builtin Go.Builtin.len, args := #[Go.Operand.tmp 7], argTypes := #[22] }, 3, none⟩,
          ⟨some 9, Go.Op.binOp Go.BinOp.lss 3 (Go.Operand.tmp 6) (Go.Operand.tmp 8) 3, 4, none⟩])
        (.cond (Go.Operand.tmp 9)
          .skip
          (.exit 0)))
        (.seq (.block 1
          (.seq (.region [⟨some 12, Go.Op.move (Go.Operand.tmp 1), 21, none⟩,
            ⟨some 13, Go.Op.move (Go.Operand.tmp 0), 22, none⟩,
            ⟨some 14, Go.Op.move (Go.Operand.tmp 5), 3, none⟩,
            ⟨some 15, Go.Op.indexAddr 22 (Go.Operand.tmp 13) (Go.Operand.tmp 14), 0, none⟩,
            ⟨some 16, Go.Op.fieldAddr 44 (Go.Operand.tmp 15) 0, 0, none⟩,
            ⟨some 17, Go.Op.load 21 (Go.Operand.tmp 16), 21, none⟩,
            ⟨some 18, Go.Op.binOp Go.BinOp.geq 21 (Go.Operand.tmp 12) (Go.Operand.tmp 17) 21, 4, none⟩,
            ⟨some 19, Go.Op.move (Go.Operand.tmp 18), 4, none⟩,
            ⟨some 20, Go.Op.move (Go.Operand.tmp 1), 21, (some (19, true))⟩,
            ⟨some 21, Go.Op.move (Go.Operand.tmp 0), 22, (some (19, true))⟩,
            ⟨some 22, Go.Op.move (Go.Operand.tmp 5), 3, (some (19, true))⟩,
            ⟨some 23, Go.Op.indexAddr 22 (Go.Operand.tmp 21) (Go.Operand.tmp 22), 0, (some (19, true))⟩,
            ⟨some 24, Go.Op.fieldAddr 44 (Go.Operand.tmp 23) 1, 0, (some (19, true))⟩,
            ⟨some 25, Go.Op.load 21 (Go.Operand.tmp 24), 21, (some (19, true))⟩,
            ⟨some 26, Go.Op.binOp Go.BinOp.leq 21 (Go.Operand.tmp 20) (Go.Operand.tmp 25) 21, 4, (some (19, true))⟩,
            ⟨some 27, Go.Op.pick (Go.Operand.tmp 19) (Go.Operand.tmp 26) (Go.Operand.const (Go.Value.bool false)), 4, none⟩])
          (.cond (Go.Operand.tmp 27)
            (.seq (.region [⟨some 4, Go.Op.assign (Go.Operand.const (Go.Value.bool true)), 4, none⟩])
            .ret)
            .skip)))
        (.region [⟨some 10, Go.Op.move (Go.Operand.tmp 5), 3, none⟩,
          ⟨some 11, Go.Op.binOp Go.BinOp.add 3 (Go.Operand.tmp 10) (Go.Operand.const (Go.Value.int Go.IntKind.i64 1)) 3, 3, none⟩,
          ⟨some 5, Go.Op.assign (Go.Operand.tmp 11), 3, none⟩]))))))
    (.seq (.region [⟨some 4, Go.Op.assign (Go.Operand.const (Go.Value.bool false)), 4, none⟩])
    .ret))) :=
  ⟨foll, Tryz.f55, Tryz.func55, by kernel_rfl, by kernel_rfl, by kernel_rfl, by rw [Tryz.ntmps55]; decide⟩

/-- narrator.narratorref31.either -/
theorem fn56 : FnIs Tryz.prog 56 2 [Go.ResultVar.tmp 4] (.seq (.region [⟨some 4, Go.Op.assign (Go.Operand.const (Go.Value.slice none 0 0)), 60, none⟩])
    (.seq (.region [⟨some 7, Go.Op.buildSlice 60 0 #[], 60, none⟩,
      ⟨some 8, Go.Op.move (Go.Operand.tmp 0), 60, none⟩,
      ⟨some 9, Go.Op.call { callee := Go.Callee.builtin Go.Builtin.append, args := #[Go.Operand.tmp 7, Go.Operand.tmp 8], argTypes := #[60, 60] }, 60, none⟩,
      ⟨some 5, Go.Op.assign (Go.Operand.tmp 9), 60, none⟩])
    (.seq (.seq (.region [⟨some 6, Go.Op.assign (Go.Operand.const (Go.Value.int Go.IntKind.i64 0)), 3, none⟩])
    (.block 0
      (.loop
        (.seq (.seq (.region [⟨some 10, Go.Op.move (Go.Operand.tmp 6), 3, none⟩,
          ⟨some 11, Go.Op.move (Go.Operand.tmp 1), 60, none⟩,
          ⟨some 12, Go.Op.call { callee := Go.Callee.builtin Go.Builtin.len, args := #[Go.Operand.tmp 11], argTypes := #[60] }, 3, none⟩,
          ⟨some 13, Go.Op.binOp Go.BinOp.lss 3 (Go.Operand.tmp 10) (Go.Operand.tmp 12) 3, 4, none⟩])
        (.cond (Go.Operand.tmp 13)
          .skip
          (.exit 0)))
        (.seq (.block 1
          (.region [⟨some 16, Go.Op.move (Go.Operand.tmp 5), 60, none⟩,
            ⟨some 17, Go.Op.move (Go.Operand.tmp 6), 3, none⟩,
            ⟨some 18, Go.Op.move (Go.Operand.tmp 5), 60, none⟩,
            ⟨some 19, Go.Op.move (Go.Operand.tmp 6), 3, none⟩,
            ⟨some 20, Go.Op.indexAddr 60 (Go.Operand.tmp 18) (Go.Operand.tmp 19), 0, none⟩,
            ⟨some 21, Go.Op.load 4 (Go.Operand.tmp 20), 4, none⟩,
            ⟨some 22, Go.Op.move (Go.Operand.tmp 21), 4, none⟩,
            ⟨some 23, Go.Op.move (Go.Operand.tmp 1), 60, (some (22, false))⟩,
            ⟨some 24, Go.Op.move (Go.Operand.tmp 6), 3, (some (22, false))⟩,
            ⟨some 25, Go.Op.indexAddr 60 (Go.Operand.tmp 23) (Go.Operand.tmp 24), 0, (some (22, false))⟩,
            ⟨some 26, Go.Op.load 4 (Go.Operand.tmp 25), 4, (some (22, false))⟩,
            ⟨some 27, Go.Op.pick (Go.Operand.tmp 22) (Go.Operand.const (Go.Value.bool true)) (Go.Operand.tmp 26), 4, none⟩,
            ⟨some 28, Go.Op.indexAddr 60 (Go.Operand.tmp 16) (Go.Operand.tmp 17), 0, none⟩,
            ⟨none, Go.Op.store 4 (Go.Operand.tmp 28) (Go.Operand.tmp 27), 0, none⟩]))
        (.region [⟨some 14, Go.Op.move (Go.Operand.tmp 6), 3, none⟩,
          ⟨some 15, Go.Op.binOp Go.BinOp.add 3 (Go.Operand.tmp 14) (Go.Operand.const (Go.Value.int Go.IntKind.i64 1)) 3, 3, none⟩,
          ⟨some 6, Go.Op.assign (Go.Operand.tmp 15), 3, none⟩]))))))
    (.seq (.region [⟨some 29, Go.Op.move (Go.Operand.tmp 5), 60, none⟩,
      ⟨some 4, Go.Op.assign (Go.Operand.tmp 29), 60, none⟩])
    .ret)))) :=
  ⟨foll, Tryz.f56, Tryz.func56, by kernel_rfl, by kernel_rfl, by kernel_rfl, by rw [Tryz.ntmps56]; decide⟩

/-- narrator.narratorref31.ranges -/
theorem fn69 : FnIs Tryz.prog 69 1 [Go.ResultVar.tmp 2] (.seq (.region [⟨some 2, Go.Op.assign (Go.Operand.const (Go.Value.bool false)), 4, none⟩])
    (.seq (.seq (.region [⟨some 3, Go.Op.assign (Go.Operand.const (Go.Value.int Go.IntKind.i64 0)), 3, none⟩])
    (.block 0
      (.loop
        (.seq (.seq (.region [⟨some 5, Go.Op.move (Go.Operand.tmp 3), 3, none⟩,
          ⟨some 6, Go.Op.move (Go.Operand.tmp 0), 22, none⟩,
          ⟨some 7, Go.Op.call { callee := Go.Callee.builtin Go.Builtin.len, args := #[Go.Operand.tmp 6], argTypes := #[22] }, 3, none⟩,
          ⟨some 8, Go.Op.binOp Go.BinOp.lss 3 (Go.Operand.tmp 5) (Go.Operand.tmp 7) 3, 4, none⟩])
        (.cond (Go.Operand.tmp 8)
          .skip
          (.exit 0)))
        (.seq (.block 1
          (.seq (.region [⟨some 11, Go.Op.move (Go.Operand.tmp 0), 22, none⟩,
            ⟨some 12, Go.Op.move (Go.Operand.tmp 3), 3, none⟩,
            ⟨some 13, Go.Op.indexAddr 22 (Go.Operand.tmp 11) (Go.Operand.tmp 12), 0, none⟩,
            ⟨some 14, Go.Op.load 44 (Go.Operand.tmp 13), 44, none⟩,
            ⟨some 4, Go.Op.alloc 44, 0, none⟩,
            ⟨none, Go.Op.store 44 (Go.Operand.tmp 4) (Go.Operand.tmp 14), 0, none⟩])
          (.seq (.draw [⟨⟨some 15, Go.Op.fieldAddr 44 (Go.Operand.tmp 4) 0, 0, none⟩, false, false, false⟩,
            ⟨⟨some 16, Go.Op.load 21 (Go.Operand.tmp 15), 21, none⟩, false, false, false⟩,
            ⟨⟨some 17, Go.Op.call { callee := Go.Callee.value (Go.Operand.func 79), args := #[Go.Operand.tmp 16], argTypes := #[21] }, 4, none⟩, false, false, false⟩,
            ⟨⟨some 18, Go.Op.unOp Go.UnOp.not 4 (Go.Operand.tmp 17), 4, none⟩, false, false, false⟩,
            ⟨⟨some 19, Go.Op.move (Go.Operand.tmp 18), 4, none⟩, false, false, false⟩,
            ⟨⟨some 20, Go.Op.fieldAddr 44 (Go.Operand.tmp 4) 1, 0, (some (19, false))⟩, false, false, false⟩,
            ⟨⟨some 21, Go.Op.load 21 (Go.Operand.tmp 20), 21, (some (19, false))⟩, false, false, false⟩,
            ⟨⟨some 22, Go.Op.call { callee := Go.Callee.value (Go.Operand.func 79), args := #[Go.Operand.tmp 21], argTypes := #[21] }, 4, (some (19, false))⟩, false, false, false⟩,
            ⟨⟨some 23, Go.Op.unOp Go.UnOp.not 4 (Go.Operand.tmp 22), 4, (some (19, false))⟩, false, false, false⟩,
            ⟨⟨some 24, Go.Op.pick (Go.Operand.tmp 19) (Go.Operand.const (Go.Value.bool true)) (Go.Operand.tmp 23), 4, none⟩, false, false, false⟩,
            ⟨⟨some 25, Go.Op.move (Go.Operand.tmp 24), 4, none⟩, false, false, false⟩,
            ⟨⟨some 26, Go.Op.fieldAddr 44 (Go.Operand.tmp 4) 0, 0, (some (25, false))⟩, false, false, false⟩,
            ⟨⟨some 27, Go.Op.load 21 (Go.Operand.tmp 26), 21, (some (25, false))⟩, false, false, false⟩,
            ⟨⟨some 28, Go.Op.fieldAddr 44 (Go.Operand.tmp 4) 1, 0, (some (25, false))⟩, false, false, false⟩,
            ⟨⟨some 29, Go.Op.load 21 (Go.Operand.tmp 28), 21, (some (25, false))⟩, false, false, false⟩,
            ⟨⟨some 30, Go.Op.binOp Go.BinOp.gtr 21 (Go.Operand.tmp 27) (Go.Operand.tmp 29) 21, 4, (some (25, false))⟩, false, false, false⟩,
            ⟨⟨some 31, Go.Op.pick (Go.Operand.tmp 25) (Go.Operand.const (Go.Value.bool true)) (Go.Operand.tmp 30), 4, none⟩, false, false, false⟩,
            ⟨⟨some 32, Go.Op.move (Go.Operand.tmp 31), 4, none⟩, false, false, false⟩,
            ⟨⟨some 33, Go.Op.fieldAddr 44 (Go.Operand.tmp 4) 0, 0, (some (32, false))⟩, false, false, false⟩,
            ⟨⟨some 34, Go.Op.load 21 (Go.Operand.tmp 33), 21, (some (32, false))⟩, false, false, false⟩,
            ⟨⟨some 35, Go.Op.binOp Go.BinOp.lss 21 (Go.Operand.tmp 34) (Go.Operand.const (Go.Value.int Go.IntKind.i32 55296)) 21, 4, (some (32, false))⟩, false, false, false⟩,
            ⟨⟨some 36, Go.Op.move (Go.Operand.tmp 35), 4, (some (32, false))⟩, false, false, false⟩,
            ⟨⟨some 37, Go.Op.fieldAddr 44 (Go.Operand.tmp 4) 1, 0, (some (36, true))⟩, false, false, false⟩,
            ⟨⟨some 38, Go.Op.load 21 (Go.Operand.tmp 37), 21, (some (36, true))⟩, false, false, false⟩,
            ⟨⟨some 39, Go.Op.binOp Go.BinOp.gtr 21 (Go.Operand.tmp 38) (Go.Operand.const (Go.Value.int Go.IntKind.i32 57343)) 21, 4, (some (36, true))⟩, false, false, false⟩,
            ⟨⟨some 40, Go.Op.pick (Go.Operand.tmp 36) (Go.Operand.tmp 39) (Go.Operand.const (Go.Value.bool false)), 4, (some (32, false))⟩, false, false, false⟩,
            ⟨⟨some 41, Go.Op.pick (Go.Operand.tmp 32) (Go.Operand.const (Go.Value.bool true)) (Go.Operand.tmp 40), 4, none⟩, false, false, false⟩,
            ⟨⟨some 42, Go.Op.move (Go.Operand.tmp 41), 4, none⟩, false, false, false⟩,
            ⟨⟨some 43, Go.Op.move (Go.Operand.tmp 3), 3, (some (42, false))⟩, false, false, false⟩,
            ⟨⟨some 44, Go.Op.binOp Go.BinOp.gtr 3 (Go.Operand.tmp 43) (Go.Operand.const (Go.Value.int Go.IntKind.i64 0)) 3, 4, (some (42, false))⟩, false, false, false⟩,
            ⟨⟨some 45, Go.Op.move (Go.Operand.tmp 44), 4, (some (42, false))⟩, false, false, false⟩,
            ⟨⟨some 46, Go.Op.fieldAddr 44 (Go.Operand.tmp 4) 0, 0, (some (45, true))⟩, false, false, false⟩,
            ⟨⟨some 47, Go.Op.load 21 (Go.Operand.tmp 46), 21, (some (45, true))⟩, false, false, false⟩,
            ⟨⟨some 48, Go.Op.move (Go.Operand.tmp 0), 22, (some (45, true))⟩, false, false, false⟩,
            ⟨⟨some 49, Go.Op.move (Go.Operand.tmp 3), 3, (some (45, true))⟩, false, false, false⟩,
            ⟨⟨some 50, Go.Op.binOp Go.BinOp.sub 3 (Go.Operand.tmp 49) (Go.Operand.const (Go.Value.int Go.IntKind.i64 1)) 3, 3, (some (45, true))⟩, false, false, false⟩,
            ⟨⟨some 51, Go.Op.indexAddr 22 (Go.Operand.tmp 48) (Go.Operand.tmp 50), 0, (some (45, true))⟩, false, false, false⟩,
            ⟨⟨some 52, Go.Op.fieldAddr 44 (Go.Operand.tmp 51) 1, 0, (some (45, true))⟩, false, false, false⟩,
            ⟨⟨some 53, Go.Op.load 21 (Go.Operand.tmp 52), 21, (some (45, true))⟩, false, false, false⟩,
            ⟨⟨some 54, Go.Op.binOp Go.BinOp.add 21 (Go.Operand.tmp 53) (Go.Operand.const (Go.Value.int Go.IntKind.i32 2)) 21, 21, (some (45, true))⟩, false, false, false⟩,
            ⟨⟨some 55, Go.Op.binOp Go.BinOp.lss 21 (Go.Operand.tmp 47) (Go.Operand.tmp 54) 21, 4, (some (45, true))⟩, false, false, false⟩,
            ⟨⟨some 56, Go.Op.pick (Go.Operand.tmp 45) (Go.Operand.tmp 55) (Go.Operand.const (Go.Value.bool false)), 4, (some (42, false))⟩, false, false, false⟩,
            ⟨⟨some 57, Go.Op.pick (Go.Operand.tmp 42) (Go.Operand.const (Go.Value.bool true)) (Go.Operand.tmp 56), 4, none⟩, false, false, false⟩])
          (.cond (Go.Operand.tmp 57)
            (.seq (.region [⟨some 2, Go.Op.assign (Go.Operand.const (Go.Value.bool false)), 4, none⟩])
            .ret)
            .skip))))
        (.region [⟨some 9, Go.Op.move (Go.Operand.tmp 3), 3, none⟩,
          ⟨some 10, Go.Op.binOp Go.BinOp.add 3 (Go.Operand.tmp 9) (Go.Operand.const (Go.Value.int Go.IntKind.i64 1)) 3, 3, none⟩,
          ⟨some 3, Go.Op.assign (Go.Operand.tmp 10), 3, none⟩]))))))
    (.seq (.region [⟨some 2, Go.Op.assign (Go.Operand.const (Go.Value.bool true)), 4, none⟩])
    .ret))) :=
  ⟨foll, Tryz.f69, Tryz.func69, by kernel_rfl, by kernel_rfl, by kernel_rfl, by rw [Tryz.ntmps69]; decide⟩

/-- narrator.narratorref01.limits -/
theorem fn70 : FnIs Tryz.prog 70 1 [Go.ResultVar.tmp 2, Go.ResultVar.tmp 3, Go.ResultVar.tmp 4] (.seq (.region [⟨some 2, Go.Op.assign (Go.Operand.const (Go.Value.int Go.IntKind.u8 0)), 5, none⟩,
      ⟨some 3, Go.Op.assign (Go.Operand.const (Go.Value.int Go.IntKind.u8 0)), 5, none⟩,
      ⟨some 4, Go.Op.assign (Go.Operand.const (Go.Value.int Go.IntKind.i64 0)), 3, none⟩])
    (.seq (.seq (.region [⟨some 8, Go.Op.move (Go.Operand.tmp 0), 62, none⟩,
      ⟨some 9, Go.Op.call { callee := Go.Callee.builtin Go.Builtin.len, args := #[Go.Operand.tmp 8], argTypes := #[62] }, 3, none⟩,
      ⟨some 10, Go.Op.binOp Go.BinOp.eql 3 (Go.Operand.tmp 9) (Go.Operand.const (Go.Value.int Go.IntKind.i64 0)) 3, 4, none⟩])
    (.cond (Go.Operand.tmp 10)
      (.seq (.region [⟨some 2, Go.Op.assign (Go.Operand.const (Go.Value.int Go.IntKind.u8 0)), 5, none⟩,
        ⟨some 3, Go.Op.assign (Go.Operand.const (Go.Value.int Go.IntKind.u8 255)), 5, none⟩,
        ⟨some 4, Go.Op.assign (Go.Operand.const (Go.Value.int Go.IntKind.i64 0)), 3, none⟩])
      .ret)
      .skip))
    (.seq (.region [⟨some 5, Go.Op.assign (Go.Operand.const (Go.Value.int Go.IntKind.i64 0)), 3, none⟩])
    (.seq (.block 0
      (.seq (.region [⟨some 12, Go.Op.move (Go.Operand.tmp 0), 62, none⟩,
        ⟨some 13, Go.Op.indexAddr 62 (Go.Operand.tmp 12) (Go.Operand.const (Go.Value.int Go.IntKind.i64 0)), 0, none⟩,
        ⟨some 14, Go.Op.load 5 (Go.Operand.tmp 13), 5, none⟩,
        ⟨some 15, Go.Op.binOp Go.BinOp.geq 5 (Go.Operand.tmp 14) (Go.Operand.const (Go.Value.int Go.IntKind.u8 194)) 5, 4, none⟩,
        ⟨some 16, Go.Op.move (Go.Operand.tmp 15), 4, none⟩,
        ⟨some 17, Go.Op.move (Go.Operand.tmp 0), 62, (some (16, true))⟩,
        ⟨some 18, Go.Op.indexAddr 62 (Go.Operand.tmp 17) (Go.Operand.const (Go.Value.int Go.IntKind.i64 0)), 0, (some (16, true))⟩,
        ⟨some 19, Go.Op.load 5 (Go.Operand.tmp 18), 5, (some (16, true))⟩,
        ⟨some 20, Go.Op.binOp Go.BinOp.leq 5 (Go.Operand.tmp 19) (Go.Operand.const (Go.Value.int Go.IntKind.u8 223)) 5, 4, (some (16, true))⟩,
        ⟨some 21, Go.Op.pick (Go.Operand.tmp 16) (Go.Operand.tmp 20) (Go.Operand.const (Go.Value.bool false)), 4, none⟩,
        ⟨some 11, Go.Op.assign (Go.Operand.tmp 21), 4, none⟩])
      (.cond (Go.Operand.tmp 11)
        (.region [⟨some 5, Go.Op.assign (Go.Operand.const (Go.Value.int Go.IntKind.i64 2)), 3, none⟩])
        (.seq (.region [⟨some 23, Go.Op.move (Go.Operand.tmp 0), 62, none⟩,
          ⟨some 24, Go.Op.indexAddr 62 (Go.Operand.tmp 23) (Go.Operand.const (Go.Value.int Go.IntKind.i64 0)), 0, none⟩,
          ⟨some 25, Go.Op.load 5 (Go.Operand.tmp 24), 5, none⟩,
          ⟨some 26, Go.Op.binOp Go.BinOp.geq 5 (Go.Operand.tmp 25) (Go.Operand.const (Go.Value.int Go.IntKind.u8 224)) 5, 4, none⟩,
          ⟨some 27, Go.Op.move (Go.Operand.tmp 26), 4, none⟩,
          ⟨some 28, Go.Op.move (Go.Operand.tmp 0), 62, (some (27, true))⟩,
          ⟨some 29, Go.Op.indexAddr 62 (Go.Operand.tmp 28) (Go.Operand.const (Go.Value.int Go.IntKind.i64 0)), 0, (some (27, true))⟩,
          ⟨some 30, Go.Op.load 5 (Go.Operand.tmp 29), 5, (some (27, true))⟩,
          ⟨some 31, Go.Op.binOp Go.BinOp.leq 5 (Go.Operand.tmp 30) (Go.Operand.const (Go.Value.int Go.IntKind.u8 239)) 5, 4, (some (27, true))⟩,
          ⟨some 32, Go.Op.pick (Go.Operand.tmp 27) (Go.Operand.tmp 31) (Go.Operand.const (Go.Value.bool false)), 4, none⟩,
          ⟨some 22, Go.Op.assign (Go.Operand.tmp 32), 4, none⟩])
        (.cond (Go.Operand.tmp 22)
          (.region [⟨some 5, Go.Op.assign (Go.Operand.const (Go.Value.int Go.IntKind.i64 3)), 3, none⟩])
          (.seq (.region [⟨some 34, Go.Op.move (Go.Operand.tmp 0), 62, none⟩,
            ⟨some 35, Go.Op.indexAddr 62 (Go.Operand.tmp 34) (Go.Operand.const (Go.Value.int Go.IntKind.i64 0)), 0, none⟩,
            ⟨some 36, Go.Op.load 5 (Go.Operand.tmp 35), 5, none⟩,
            ⟨some 37, Go.Op.binOp Go.BinOp.geq 5 (Go.Operand.tmp 36) (Go.Operand.const (Go.Value.int Go.IntKind.u8 240)) 5, 4, none⟩,
            ⟨some 38, Go.Op.move (Go.Operand.tmp 37), 4, none⟩,
            ⟨some 39, Go.Op.move (Go.Operand.tmp 0), 62, (some (38, true))⟩,
            ⟨some 40, Go.Op.indexAddr 62 (Go.Operand.tmp 39) (Go.Operand.const (Go.Value.int Go.IntKind.i64 0)), 0, (some (38, true))⟩,
            ⟨some 41, Go.Op.load 5 (Go.Operand.tmp 40), 5, (some (38, true))⟩,
            ⟨some 42, Go.Op.binOp Go.BinOp.leq 5 (Go.Operand.tmp 41) (Go.Operand.const (Go.Value.int Go.IntKind.u8 244)) 5, 4, (some (38, true))⟩,
            ⟨some 43, Go.Op.pick (Go.Operand.tmp 38) (Go.Operand.tmp 42) (Go.Operand.const (Go.Value.bool false)), 4, none⟩,
            ⟨some 33, Go.Op.assign (Go.Operand.tmp 43), 4, none⟩])
          (.cond (Go.Operand.tmp 33)
            (.region [⟨some 5, Go.Op.assign (Go.Operand.const (Go.Value.int Go.IntKind.i64 4)), 3, none⟩])
            .skip)))))))
    (.seq (.region [⟨some 6, Go.Op.assign (Go.Operand.const (Go.Value.int Go.IntKind.u8 128)), 5, none⟩,
      ⟨some 7, Go.Op.assign (Go.Operand.const (Go.Value.int Go.IntKind.u8 191)), 5, none⟩])
    (.seq (.seq (.region [⟨some 44, Go.Op.move (Go.Operand.tmp 0), 62, none⟩,
      ⟨some 45, Go.Op.call { callee := Go.Callee.builtin Go.Builtin.len, args := #[Go.Operand.tmp 44], argTypes := #[62] }, 3, none⟩,
      ⟨some 46, Go.Op.binOp Go.BinOp.eql 3 (Go.Operand.tmp 45) (Go.Operand.const (Go.Value.int Go.IntKind.i64 1)) 3, 4, none⟩])
    (.cond (Go.Operand.tmp 46)
      (.seq (.region [⟨some 47, Go.Op.move (Go.Operand.tmp 0), 62, none⟩,
        ⟨some 48, Go.Op.indexAddr 62 (Go.Operand.tmp 47) (Go.Operand.const (Go.Value.int Go.IntKind.i64 0)), 0, none⟩,
        ⟨some 49, Go.Op.load 5 (Go.Operand.tmp 48), 5, none⟩])
      (.block 1
        (.seq (.region [⟨some 51, Go.Op.binOp Go.BinOp.eql 5 (Go.Operand.tmp 49) (Go.Operand.const (Go.Value.int Go.IntKind.u8 224)) 5, 4, none⟩,
          ⟨some 50, Go.Op.assign (Go.Operand.tmp 51), 4, none⟩])
        (.cond (Go.Operand.tmp 50)
          (.region [⟨some 6, Go.Op.assign (Go.Operand.const (Go.Value.int Go.IntKind.u8 160)), 5, none⟩])
          (.seq (.region [⟨some 53, Go.Op.binOp Go.BinOp.eql 5 (Go.Operand.tmp 49) (Go.Operand.const (Go.Value.int Go.IntKind.u8 237)) 5, 4, none⟩,
            ⟨some 52, Go.Op.assign (Go.Operand.tmp 53), 4, none⟩])
          (.cond (Go.Operand.tmp 52)
            (.region [⟨some 7, Go.Op.assign (Go.Operand.const (Go.Value.int Go.IntKind.u8 159)), 5, none⟩])
            (.seq (.region [⟨some 55, Go.Op.binOp Go.BinOp.eql 5 (Go.Operand.tmp 49) (Go.Operand.const (Go.Value.int Go.IntKind.u8 240)) 5, 4, none⟩,
              ⟨some 54, Go.Op.assign (Go.Operand.tmp 55), 4, none⟩])
            (.cond (Go.Operand.tmp 54)
              (.region [⟨some 6, Go.Op.assign (Go.Operand.const (Go.Value.int Go.IntKind.u8 144)), 5, none⟩])
              (.seq (.region [⟨some 57, Go.Op.binOp Go.BinOp.eql 5 (Go.Operand.tmp 49) (Go.Operand.const (Go.Value.int Go.IntKind.u8 244)) 5, 4, none⟩,
                ⟨some 56, Go.Op.assign (Go.Operand.tmp 57), 4, none⟩])
              (.cond (Go.Operand.tmp 56)
                (.region [⟨some 7, Go.Op.assign (Go.Operand.const (Go.Value.int Go.IntKind.u8 143)), 5, none⟩])
                .skip))))))))))
      .skip))
    (.seq (.region [⟨some 58, Go.Op.move (Go.Operand.tmp 6), 5, none⟩,
      ⟨some 59, Go.Op.move (Go.Operand.tmp 7), 5, none⟩,
      ⟨some 60, Go.Op.move (Go.Operand.tmp 5), 3, none⟩,
      ⟨some 2, Go.Op.assign (Go.Operand.tmp 58), 5, none⟩,
      ⟨some 3, Go.Op.assign (Go.Operand.tmp 59), 5, none⟩,
      ⟨some 4, Go.Op.assign (Go.Operand.tmp 60), 3, none⟩])
    .ret))))))) :=
  ⟨foll, Tryz.f70, Tryz.func70, by kernel_rfl, by kernel_rfl, by kernel_rfl, by rw [Tryz.ntmps70]; decide⟩

/-- narrator.narratorref01.value -/
theorem fn71 : FnIs Tryz.prog 71 1 [Go.ResultVar.tmp 2] (.seq (.region [⟨some 2, Go.Op.assign (Go.Operand.const (Go.Value.int Go.IntKind.i32 0)), 21, none⟩])
    (.seq (.region [⟨some 3, Go.Op.assign (Go.Operand.const (Go.Value.int Go.IntKind.i32 0)), 21, none⟩])
    (.seq (.seq (.region [⟨some 5, Go.Op.move (Go.Operand.tmp 0), 62, none⟩,
      ⟨some 6, Go.Op.call { callee := Go.Callee.builtin Go.Builtin.len, args := #[Go.Operand.tmp 5], argTypes := #[62] }, 3, none⟩])
    (.block 0
      (.seq (.region [⟨some 8, Go.Op.binOp Go.BinOp.eql 3 (Go.Operand.tmp 6) (Go.Operand.const (Go.Value.int Go.IntKind.i64 2)) 3, 4, none⟩,
        ⟨some 7, Go.Op.assign (Go.Operand.tmp 8), 4, none⟩])
      (.cond (Go.Operand.tmp 7)
        (.region [⟨some 9, Go.Op.move (Go.Operand.tmp 0), 62, none⟩,
          ⟨some 10, Go.Op.indexAddr 62 (Go.Operand.tmp 9) (Go.Operand.const (Go.Value.int Go.IntKind.i64 0)), 0, none⟩,
          ⟨some 11, Go.Op.load 5 (Go.Operand.tmp 10), 5, none⟩,
          ⟨some 12, Go.Op.convert 5 21 (Go.Operand.tmp 11), 21, none⟩,
          ⟨some 13, Go.Op.binOp Go.BinOp.sub 21 (Go.Operand.tmp 12) (Go.Operand.const (Go.Value.int Go.IntKind.i32 192)) 21, 21, none⟩,
          ⟨some 3, Go.Op.assign (Go.Operand.tmp 13), 21, none⟩])
        (.seq (.region [⟨some 15, Go.Op.binOp Go.BinOp.eql 3 (Go.Operand.tmp 6) (Go.Operand.const (Go.Value.int Go.IntKind.i64 3)) 3, 4, none⟩,
          ⟨some 14, Go.Op.assign (Go.Operand.tmp 15), 4, none⟩])
        (.cond (Go.Operand.tmp 14)
          (.region [⟨some 16, Go.Op.move (Go.Operand.tmp 0), 62, none⟩,
            ⟨some 17, Go.Op.indexAddr 62 (Go.Operand.tmp 16) (Go.Operand.const (Go.Value.int Go.IntKind.i64 0)), 0, none⟩,
            ⟨some 18, Go.Op.load 5 (Go.Operand.tmp 17), 5, none⟩,
            ⟨some 19, Go.Op.convert 5 21 (Go.Operand.tmp 18), 21, none⟩,
            ⟨some 20, Go.Op.binOp Go.BinOp.sub 21 (Go.Operand.tmp 19) (Go.Operand.const (Go.Value.int Go.IntKind.i32 224)) 21, 21, none⟩,
            ⟨some 3, Go.Op.assign (Go.Operand.tmp 20), 21, none⟩])
          (.seq (.region [⟨some 22, Go.Op.binOp Go.BinOp.eql 3 (Go.Operand.tmp 6) (Go.Operand.const (Go.Value.int Go.IntKind.i64 4)) 3, 4, none⟩,
            ⟨some 21, Go.Op.assign (Go.Operand.tmp 22), 4, none⟩])
          (.cond (Go.Operand.tmp 21)
            (.region [⟨some 23, Go.Op.move (Go.Operand.tmp 0), 62, none⟩,
              ⟨some 24, Go.Op.indexAddr 62 (Go.Operand.tmp 23) (Go.Operand.const (Go.Value.int Go.IntKind.i64 0)), 0, none⟩,
              ⟨some 25, Go.Op.load 5 (Go.Operand.tmp 24), 5, none⟩,
              ⟨some 26, Go.Op.convert 5 21 (Go.Operand.tmp 25), 21, none⟩,
              ⟨some 27, Go.Op.binOp Go.BinOp.sub 21 (Go.Operand.tmp 26) (Go.Operand.const (Go.Value.int Go.IntKind.i32 240)) 21, 21, none⟩,
              ⟨some 3, Go.Op.assign (Go.Operand.tmp 27), 21, none⟩])
            .skip))))))))
    (.seq (.seq (.region [⟨some 4, Go.Op.assign (Go.Operand.const (Go.Value.int Go.IntKind.i64 1)), 3, none⟩])
    (.block 1
      (.loop
        (.seq (.seq (.region [⟨some 28, Go.Op.move (Go.Operand.tmp 4), 3, none⟩,
          ⟨some 29, Go.Op.move (Go.Operand.tmp 0), 62, none⟩,
          ⟨some 30, Go.Op.call { callee := Go.Callee.builtin Go.Builtin.len, args := #[Go.Operand.tmp 29], argTypes := #[62] }, 3, none⟩,
          ⟨some 31, Go.Op.binOp Go.BinOp.lss 3 (Go.Operand.tmp 28) (Go.Operand.tmp 30) 3, 4, none⟩])
        (.cond (Go.Operand.tmp 31)
          .skip
          (.exit 1)))
        (.seq (.block 2
          (.region [⟨some 34, Go.Op.move (Go.Operand.tmp 3), 21, none⟩,
            ⟨some 35, Go.Op.binOp Go.BinOp.mul 21 (Go.Operand.tmp 34) (Go.Operand.const (Go.Value.int Go.IntKind.i32 64)) 21, 21, none⟩,
            ⟨some 36, Go.Op.move (Go.Operand.tmp 0), 62, none⟩,
            ⟨some 37, Go.Op.move (Go.Operand.tmp 4), 3, none⟩,
            ⟨some 38, Go.Op.indexAddr 62 (Go.Operand.tmp 36) (Go.Operand.tmp 37), 0, none⟩,
            ⟨some 39, Go.Op.load 5 (Go.Operand.tmp 38), 5, none⟩,
            ⟨some 40, Go.Op.convert 5 21 (Go.Operand.tmp 39), 21, none⟩,
            ⟨some 41, Go.Op.binOp Go.BinOp.add 21 (Go.Operand.tmp 35) (Go.Operand.tmp 40) 21, 21, none⟩,
            ⟨some 42, Go.Op.binOp Go.BinOp.sub 21 (Go.Operand.tmp 41) (Go.Operand.const (Go.Value.int Go.IntKind.i32 128)) 21, 21, none⟩,
            ⟨some 3, Go.Op.assign (Go.Operand.tmp 42), 21, none⟩]))
        (.region [⟨some 32, Go.Op.move (Go.Operand.tmp 4), 3, none⟩,
          ⟨some 33, Go.Op.binOp Go.BinOp.add 3 (Go.Operand.tmp 32) (Go.Operand.const (Go.Value.int Go.IntKind.i64 1)) 3, 3, none⟩,
          ⟨some 4, Go.Op.assign (Go.Operand.tmp 33), 3, none⟩]))))))
    (.seq (.region [⟨some 43, Go.Op.move (Go.Operand.tmp 3), 21, none⟩,
      ⟨some 2, Go.Op.assign (Go.Operand.tmp 43), 21, none⟩])
    .ret))))) :=
  ⟨foll, Tryz.f71, Tryz.func71, by kernel_rfl, by kernel_rfl, by kernel_rfl, by rw [Tryz.ntmps71]; decide⟩

/-- narrator.narratorref31.character -/
theorem fn79 : FnIs Tryz.prog 79 1 [Go.ResultVar.tmp 2] (.seq (.region [⟨some 2, Go.Op.assign (Go.Operand.const (Go.Value.bool false)), 4, none⟩])
    (.seq (.region [⟨some 3, Go.Op.move (Go.Operand.tmp 0), 21, none⟩,
      ⟨some 4, Go.Op.binOp Go.BinOp.geq 21 (Go.Operand.tmp 3) (Go.Operand.const (Go.Value.int Go.IntKind.i32 0)) 21, 4, none⟩,
      ⟨some 5, Go.Op.move (Go.Operand.tmp 4), 4, none⟩,
      ⟨some 6, Go.Op.move (Go.Operand.tmp 0), 21, (some (5, true))⟩,
      ⟨some 7, Go.Op.binOp Go.BinOp.leq 21 (Go.Operand.tmp 6) (Go.Operand.const (Go.Value.int Go.IntKind.i32 1114111)) 21, 4, (some (5, true))⟩,
      ⟨some 8, Go.Op.pick (Go.Operand.tmp 5) (Go.Operand.tmp 7) (Go.Operand.const (Go.Value.bool false)), 4, none⟩,
      ⟨some 9, Go.Op.move (Go.Operand.tmp 8), 4, none⟩,
      ⟨some 10, Go.Op.move (Go.Operand.tmp 0), 21, (some (9, true))⟩,
      ⟨some 11, Go.Op.binOp Go.BinOp.lss 21 (Go.Operand.tmp 10) (Go.Operand.const (Go.Value.int Go.IntKind.i32 55296)) 21, 4, (some (9, true))⟩,
      ⟨some 12, Go.Op.move (Go.Operand.tmp 11), 4, (some (9, true))⟩,
      ⟨some 13, Go.Op.move (Go.Operand.tmp 0), 21, (some (12, false))⟩,
      ⟨some 14, Go.Op.binOp Go.BinOp.gtr 21 (Go.Operand.tmp 13) (Go.Operand.const (Go.Value.int Go.IntKind.i32 57343)) 21, 4, (some (12, false))⟩,
      ⟨some 15, Go.Op.pick (Go.Operand.tmp 12) (Go.Operand.const (Go.Value.bool true)) (Go.Operand.tmp 14), 4, (some (9, true))⟩,
      ⟨some 16, Go.Op.pick (Go.Operand.tmp 9) (Go.Operand.tmp 15) (Go.Operand.const (Go.Value.bool false)), 4, none⟩,
      ⟨some 2, Go.Op.assign (Go.Operand.tmp 16), 4, none⟩])
    .ret)) :=
  ⟨foll, Tryz.f79, Tryz.func79, by kernel_rfl, by kernel_rfl, by kernel_rfl, by rw [Tryz.ntmps79]; decide⟩

end Go.Proofs.YtebejiilpedlmaaGreatDoor
