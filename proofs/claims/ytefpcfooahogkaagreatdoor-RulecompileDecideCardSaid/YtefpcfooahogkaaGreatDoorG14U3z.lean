/- Part of a proof about the functions of this seat. -/
import Derived.Test.YtefpcfooahogkaaGreatDoorG09Base3z
import Derived.Test.YtefpcfooahogkaaGreatDoorG13Me3z
/- The prepared code of further functions. Written by a program of mine (gen.py) out of what the loaded dump prints. -/

set_option linter.unusedVariables false
set_option maxRecDepth 100000
namespace Go.Proofs.YtefpcfooahogkaaGreatDoor
open Go Nv

/-- narrator.utf8stream.Finish -/
theorem fn24 : FnIs Tryz.prog 24 1 [Go.ResultVar.tmp 2] (.seq (.region [⟨some 2, Go.Op.assign (Go.Operand.const (Go.Value.slice none 0 0)), 62, none⟩])
    (.seq (.region [⟨some 6, Go.Op.move (Go.Operand.tmp 0), 9, none⟩,
      ⟨some 7, Go.Op.call { callee := Go.Callee.value (Go.Operand.func 38), args := #[Go.Operand.const (Go.Value.string { data := #[] }), Go.Operand.tmp 6], argTypes := #[9, 9] }, 66, none⟩,
      ⟨some 5, Go.Op.move (Go.Operand.tmp 7), 66, none⟩,
      ⟨some 8, Go.Op.extract (Go.Operand.tmp 5) 0, 62, none⟩,
      ⟨some 9, Go.Op.extract (Go.Operand.tmp 5) 1, 9, none⟩,
      ⟨some 3, Go.Op.assign (Go.Operand.tmp 8), 62, none⟩,
      ⟨some 4, Go.Op.assign (Go.Operand.tmp 9), 9, none⟩])
    (.seq (.seq (.region [⟨some 10, Go.Op.move (Go.Operand.tmp 4), 9, none⟩,
      ⟨some 11, Go.Op.binOp Go.BinOp.neq 9 (Go.Operand.tmp 10) (Go.Operand.const (Go.Value.string { data := #[] })) 9, 4, none⟩])
    (.cond (Go.Operand.tmp 11)
      (.region [⟨some 12, Go.Op.move (Go.Operand.tmp 3), 62, none⟩,
        ⟨some 13, Go.Op.buildSlice 62 1 #[(0, Go.Operand.const (Go.Value.int Go.IntKind.i32 65533))], 62, none⟩,
        ⟨some 14, Go.Op.call { callee := Go.Callee.builtin Go.Builtin.append, args := #[Go.Operand.tmp 12, Go.Operand.tmp 13], argTypes := #[62, 62] }, 62, none⟩,
        ⟨some 3, Go.Op.assign (Go.Operand.tmp 14), 62, none⟩])
      .skip))
    (.seq (.region [⟨some 15, Go.Op.move (Go.Operand.tmp 3), 62, none⟩,
      ⟨some 2, Go.Op.assign (Go.Operand.tmp 15), 62, none⟩])
    .ret)))) :=
  ⟨foll, Tryz.f24, Tryz.func24, by kernel_rfl, by kernel_rfl, by kernel_rfl, by rw [Tryz.ntmps24]; decide⟩

/-- narrator.utf8stream.Decode -/
theorem fn38 : FnIs Tryz.prog 38 2 [Go.ResultVar.tmp 4, Go.ResultVar.tmp 5] (.seq (.region [⟨some 4, Go.Op.assign (Go.Operand.const (Go.Value.slice none 0 0)), 62, none⟩,
      ⟨some 5, Go.Op.assign (Go.Operand.const (Go.Value.string { data := #[] })), 9, none⟩])
    (.seq (.region [⟨some 12, Go.Op.move (Go.Operand.tmp 0), 9, none⟩,
      ⟨some 13, Go.Op.move (Go.Operand.tmp 1), 9, none⟩,
      ⟨some 14, Go.Op.binOp Go.BinOp.add 9 (Go.Operand.tmp 12) (Go.Operand.tmp 13) 9, 9, none⟩,
      ⟨some 6, Go.Op.assign (Go.Operand.tmp 14), 9, none⟩])
    (.seq (.region [⟨some 7, Go.Op.assign (Go.Operand.const (Go.Value.slice none 0 0)), 62, none⟩])
    (.seq (.region [⟨some 8, Go.Op.alloc 108, 0, none⟩])
    (.seq (.region [⟨some 9, Go.Op.assign (Go.Operand.const (Go.Value.int Go.IntKind.i64 0)), 3, none⟩])
    (.seq (.seq (.region [⟨some 15, Go.Op.move (Go.Operand.tmp 6), 9, none⟩,
      ⟨some 16, Go.Op.call { callee := Go.Callee.builtin Go.Builtin.len, args := #[Go.Operand.tmp 15], argTypes := #[9] }, 3, none⟩,
      ⟨some 17, Go.Op.move (Go.Operand.const (Go.Value.int Go.IntKind.i64 0)), 3, none⟩])
    (.block 0
      (.loop
        (.seq (.region [⟨some 18, Go.Op.binOp Go.BinOp.lss 3 (Go.Operand.tmp 17) (Go.Operand.tmp 16) 3, 4, none⟩])
        (.seq (.cond (Go.Operand.tmp 18)
          .skip
          (.exit 0))
        (.seq (.block 1
          (.seq (.region [⟨some 19, Go.Op.move (Go.Operand.tmp 17), 3, none⟩,
            ⟨some 10, Go.Op.assign (Go.Operand.tmp 19), 3, none⟩])
          (.seq (.region [⟨some 20, Go.Op.move (Go.Operand.tmp 6), 9, none⟩,
            ⟨some 21, Go.Op.move (Go.Operand.tmp 10), 3, none⟩,
            ⟨some 22, Go.Op.index 9 (Go.Operand.tmp 20) (Go.Operand.tmp 21), 5, none⟩,
            ⟨some 11, Go.Op.assign (Go.Operand.tmp 22), 5, none⟩])
          (.seq (.seq (.region [⟨some 23, Go.Op.fieldAddr 108 (Go.Operand.tmp 8) 1, 0, none⟩,
            ⟨some 24, Go.Op.load 3 (Go.Operand.tmp 23), 3, none⟩,
            ⟨some 25, Go.Op.binOp Go.BinOp.gtr 3 (Go.Operand.tmp 24) (Go.Operand.const (Go.Value.int Go.IntKind.i64 0)) 3, 4, none⟩,
            ⟨some 26, Go.Op.move (Go.Operand.tmp 25), 4, none⟩,
            ⟨some 27, Go.Op.move (Go.Operand.tmp 11), 5, (some (26, true))⟩,
            ⟨some 28, Go.Op.fieldAddr 108 (Go.Operand.tmp 8) 2, 0, (some (26, true))⟩,
            ⟨some 29, Go.Op.load 5 (Go.Operand.tmp 28), 5, (some (26, true))⟩,
            ⟨some 30, Go.Op.binOp Go.BinOp.geq 5 (Go.Operand.tmp 27) (Go.Operand.tmp 29) 5, 4, (some (26, true))⟩,
            ⟨some 31, Go.Op.pick (Go.Operand.tmp 26) (Go.Operand.tmp 30) (Go.Operand.const (Go.Value.bool false)), 4, none⟩,
            ⟨some 32, Go.Op.move (Go.Operand.tmp 31), 4, none⟩,
            ⟨some 33, Go.Op.move (Go.Operand.tmp 11), 5, (some (32, true))⟩,
            ⟨some 34, Go.Op.fieldAddr 108 (Go.Operand.tmp 8) 3, 0, (some (32, true))⟩,
            ⟨some 35, Go.Op.load 5 (Go.Operand.tmp 34), 5, (some (32, true))⟩,
            ⟨some 36, Go.Op.binOp Go.BinOp.leq 5 (Go.Operand.tmp 33) (Go.Operand.tmp 35) 5, 4, (some (32, true))⟩,
            ⟨some 37, Go.Op.pick (Go.Operand.tmp 32) (Go.Operand.tmp 36) (Go.Operand.const (Go.Value.bool false)), 4, none⟩])
          (.cond (Go.Operand.tmp 37)
            (.seq (.region [⟨some 38, Go.Op.fieldAddr 108 (Go.Operand.tmp 8) 0, 0, none⟩,
              ⟨some 39, Go.Op.load 21 (Go.Operand.tmp 38), 21, none⟩,
              ⟨some 40, Go.Op.binOp Go.BinOp.shl 21 (Go.Operand.tmp 39) (Go.Operand.const (Go.Value.int Go.IntKind.u64 6)) 74, 21, none⟩,
              ⟨some 41, Go.Op.move (Go.Operand.tmp 11), 5, none⟩,
              ⟨some 42, Go.Op.binOp Go.BinOp.and 5 (Go.Operand.tmp 41) (Go.Operand.const (Go.Value.int Go.IntKind.u8 63)) 5, 5, none⟩,
              ⟨some 43, Go.Op.convert 5 21 (Go.Operand.tmp 42), 21, none⟩,
              ⟨some 44, Go.Op.binOp Go.BinOp.or 21 (Go.Operand.tmp 40) (Go.Operand.tmp 43) 21, 21, none⟩,
              ⟨some 45, Go.Op.fieldAddr 108 (Go.Operand.tmp 8) 1, 0, none⟩,
              ⟨some 46, Go.Op.load 3 (Go.Operand.tmp 45), 3, none⟩,
              ⟨some 47, Go.Op.binOp Go.BinOp.sub 3 (Go.Operand.tmp 46) (Go.Operand.const (Go.Value.int Go.IntKind.i64 1)) 3, 3, none⟩,
              ⟨some 48, Go.Op.build 108 #[(0, Go.Operand.tmp 44), (1, Go.Operand.tmp 47), (2, Go.Operand.const (Go.Value.int Go.IntKind.u8 128)), (3, Go.Operand.const (Go.Value.int Go.IntKind.u8 191))], 108, none⟩,
              ⟨none, Go.Op.store 108 (Go.Operand.tmp 8) (Go.Operand.tmp 48), 0, none⟩])
            (.seq (.seq (.region [⟨some 49, Go.Op.fieldAddr 108 (Go.Operand.tmp 8) 1, 0, none⟩,
              ⟨some 50, Go.Op.load 3 (Go.Operand.tmp 49), 3, none⟩,
              ⟨some 51, Go.Op.binOp Go.BinOp.eql 3 (Go.Operand.tmp 50) (Go.Operand.const (Go.Value.int Go.IntKind.i64 0)) 3, 4, none⟩])
            (.cond (Go.Operand.tmp 51)
              (.region [⟨some 52, Go.Op.move (Go.Operand.tmp 7), 62, none⟩,
                ⟨some 53, Go.Op.fieldAddr 108 (Go.Operand.tmp 8) 0, 0, none⟩,
                ⟨some 54, Go.Op.load 21 (Go.Operand.tmp 53), 21, none⟩,
                ⟨some 55, Go.Op.buildSlice 62 1 #[(0, Go.Operand.tmp 54)], 62, none⟩,
                ⟨some 56, Go.Op.call { callee := Go.Callee.builtin Go.Builtin.append, args := #[Go.Operand.tmp 52, Go.Operand.tmp 55], argTypes := #[62, 62] }, 62, none⟩,
                ⟨some 7, Go.Op.assign (Go.Operand.tmp 56), 62, none⟩])
              .skip))
            (.exit 1)))
            .skip))
          (.seq (.seq (.region [⟨some 57, Go.Op.fieldAddr 108 (Go.Operand.tmp 8) 1, 0, none⟩,
            ⟨some 58, Go.Op.load 3 (Go.Operand.tmp 57), 3, none⟩,
            ⟨some 59, Go.Op.binOp Go.BinOp.gtr 3 (Go.Operand.tmp 58) (Go.Operand.const (Go.Value.int Go.IntKind.i64 0)) 3, 4, none⟩])
          (.cond (Go.Operand.tmp 59)
            (.region [⟨some 60, Go.Op.move (Go.Operand.tmp 7), 62, none⟩,
              ⟨some 61, Go.Op.buildSlice 62 1 #[(0, Go.Operand.const (Go.Value.int Go.IntKind.i32 65533))], 62, none⟩,
              ⟨some 62, Go.Op.call { callee := Go.Callee.builtin Go.Builtin.append, args := #[Go.Operand.tmp 60, Go.Operand.tmp 61], argTypes := #[62, 62] }, 62, none⟩,
              ⟨some 7, Go.Op.assign (Go.Operand.tmp 62), 62, none⟩])
            .skip))
          (.seq (.region [⟨some 63, Go.Op.move (Go.Operand.tmp 11), 5, none⟩,
            ⟨some 64, Go.Op.call { callee := Go.Callee.value (Go.Operand.func 62), args := #[Go.Operand.tmp 63], argTypes := #[5] }, 108, none⟩,
            ⟨some 65, Go.Op.move (Go.Operand.tmp 10), 3, none⟩,
            ⟨none, Go.Op.store 108 (Go.Operand.tmp 8) (Go.Operand.tmp 64), 0, none⟩,
            ⟨some 9, Go.Op.assign (Go.Operand.tmp 65), 3, none⟩])
          (.block 2
            (.seq (.region [⟨some 67, Go.Op.move (Go.Operand.tmp 11), 5, none⟩,
              ⟨some 68, Go.Op.binOp Go.BinOp.lss 5 (Go.Operand.tmp 67) (Go.Operand.const (Go.Value.int Go.IntKind.u8 128)) 5, 4, none⟩,
              ⟨some 66, Go.Op.assign (Go.Operand.tmp 68), 4, none⟩])
            (.cond (Go.Operand.tmp 66)
              (.region [⟨some 69, Go.Op.move (Go.Operand.tmp 7), 62, none⟩,
                ⟨some 70, Go.Op.move (Go.Operand.tmp 11), 5, none⟩,
                ⟨some 71, Go.Op.convert 5 21 (Go.Operand.tmp 70), 21, none⟩,
                ⟨some 72, Go.Op.buildSlice 62 1 #[(0, Go.Operand.tmp 71)], 62, none⟩,
                ⟨some 73, Go.Op.call { callee := Go.Callee.builtin Go.Builtin.append, args := #[Go.Operand.tmp 69, Go.Operand.tmp 72], argTypes := #[62, 62] }, 62, none⟩,
                ⟨some 7, Go.Op.assign (Go.Operand.tmp 73), 62, none⟩])
              (.seq (.region [⟨some 75, Go.Op.fieldAddr 108 (Go.Operand.tmp 8) 1, 0, none⟩,
                ⟨some 76, Go.Op.load 3 (Go.Operand.tmp 75), 3, none⟩,
                ⟨some 77, Go.Op.binOp Go.BinOp.eql 3 (Go.Operand.tmp 76) (Go.Operand.const (Go.Value.int Go.IntKind.i64 0)) 3, 4, none⟩,
                ⟨some 74, Go.Op.assign (Go.Operand.tmp 77), 4, none⟩])
              (.cond (Go.Operand.tmp 74)
                (.region [⟨some 78, Go.Op.move (Go.Operand.tmp 7), 62, none⟩,
                  ⟨some 79, Go.Op.buildSlice 62 1 #[(0, Go.Operand.const (Go.Value.int Go.IntKind.i32 65533))], 62, none⟩,
                  ⟨some 80, Go.Op.call { callee := Go.Callee.builtin Go.Builtin.append, args := #[Go.Operand.tmp 78, Go.Operand.tmp 79], argTypes := #[62, 62] }, 62, none⟩,
                  ⟨some 7, Go.Op.assign (Go.Operand.tmp 80), 62, none⟩])
                .skip)))))))))))
        (.region [⟨some 81, Go.Op.binOp Go.BinOp.add 3 (Go.Operand.tmp 17) (Go.Operand.const (Go.Value.int Go.IntKind.i64 1)) 3, 3, none⟩,
          ⟨some 17, Go.Op.move (Go.Operand.tmp 81), 3, none⟩])))))))
    (.seq (.seq (.region [⟨some 82, Go.Op.fieldAddr 108 (Go.Operand.tmp 8) 1, 0, none⟩,
      ⟨some 83, Go.Op.load 3 (Go.Operand.tmp 82), 3, none⟩,
      ⟨some 84, Go.Op.binOp Go.BinOp.eql 3 (Go.Operand.tmp 83) (Go.Operand.const (Go.Value.int Go.IntKind.i64 0)) 3, 4, none⟩])
    (.cond (Go.Operand.tmp 84)
      (.seq (.region [⟨some 85, Go.Op.move (Go.Operand.tmp 7), 62, none⟩,
        ⟨some 4, Go.Op.assign (Go.Operand.tmp 85), 62, none⟩,
        ⟨some 5, Go.Op.assign (Go.Operand.const (Go.Value.string { data := #[] })), 9, none⟩])
      .ret)
      .skip))
    (.seq (.draw [⟨⟨some 86, Go.Op.move (Go.Operand.tmp 7), 62, none⟩, false, false, false⟩,
      ⟨⟨some 87, Go.Op.move (Go.Operand.tmp 6), 9, none⟩, false, false, false⟩,
      ⟨⟨some 88, Go.Op.move (Go.Operand.tmp 9), 3, none⟩, false, false, false⟩,
      ⟨⟨some 89, Go.Op.slice 9 (Go.Operand.tmp 87) (some (Go.Operand.tmp 88)) none none, 9, none⟩, false, false, false⟩,
      ⟨⟨some 4, Go.Op.assign (Go.Operand.tmp 86), 62, none⟩, false, false, false⟩,
      ⟨⟨some 5, Go.Op.assign (Go.Operand.tmp 89), 9, none⟩, false, false, false⟩])
    .ret)))))))) :=
  ⟨foll, Tryz.f38, Tryz.func38, by kernel_rfl, by kernel_rfl, by kernel_rfl, by rw [Tryz.ntmps38]; decide⟩

/-- narrator.utf8stream.begin -/
theorem fn62 : FnIs Tryz.prog 62 1 [Go.ResultVar.cell 2 108] (.seq (.region [⟨some 2, Go.Op.alloc 108, 0, none⟩])
    (.seq (.region [⟨some 4, Go.Op.build 108 #[(2, Go.Operand.const (Go.Value.int Go.IntKind.u8 128)), (3, Go.Operand.const (Go.Value.int Go.IntKind.u8 191))], 108, none⟩,
      ⟨some 3, Go.Op.alloc 108, 0, none⟩,
      ⟨none, Go.Op.store 108 (Go.Operand.tmp 3) (Go.Operand.tmp 4), 0, none⟩])
    (.seq (.block 0
      (.seq (.region [⟨some 6, Go.Op.move (Go.Operand.tmp 0), 5, none⟩,
        ⟨some 7, Go.Op.binOp Go.BinOp.geq 5 (Go.Operand.tmp 6) (Go.Operand.const (Go.Value.int Go.IntKind.u8 194)) 5, 4, none⟩,
        ⟨some 8, Go.Op.move (Go.Operand.tmp 7), 4, none⟩,
        ⟨some 9, Go.Op.move (Go.Operand.tmp 0), 5, (some (8, true))⟩,
        ⟨some 10, Go.Op.binOp Go.BinOp.leq 5 (Go.Operand.tmp 9) (Go.Operand.const (Go.Value.int Go.IntKind.u8 223)) 5, 4, (some (8, true))⟩,
        ⟨some 11, Go.Op.pick (Go.Operand.tmp 8) (Go.Operand.tmp 10) (Go.Operand.const (Go.Value.bool false)), 4, none⟩,
        ⟨some 5, Go.Op.assign (Go.Operand.tmp 11), 4, none⟩])
      (.cond (Go.Operand.tmp 5)
        (.region [⟨some 12, Go.Op.move (Go.Operand.tmp 0), 5, none⟩,
          ⟨some 13, Go.Op.binOp Go.BinOp.and 5 (Go.Operand.tmp 12) (Go.Operand.const (Go.Value.int Go.IntKind.u8 31)) 5, 5, none⟩,
          ⟨some 14, Go.Op.convert 5 21 (Go.Operand.tmp 13), 21, none⟩,
          ⟨some 15, Go.Op.fieldAddr 108 (Go.Operand.tmp 3) 0, 0, none⟩,
          ⟨none, Go.Op.store 21 (Go.Operand.tmp 15) (Go.Operand.tmp 14), 0, none⟩,
          ⟨some 16, Go.Op.fieldAddr 108 (Go.Operand.tmp 3) 1, 0, none⟩,
          ⟨none, Go.Op.store 3 (Go.Operand.tmp 16) (Go.Operand.const (Go.Value.int Go.IntKind.i64 1)), 0, none⟩])
        (.seq (.region [⟨some 18, Go.Op.move (Go.Operand.tmp 0), 5, none⟩,
          ⟨some 19, Go.Op.binOp Go.BinOp.geq 5 (Go.Operand.tmp 18) (Go.Operand.const (Go.Value.int Go.IntKind.u8 224)) 5, 4, none⟩,
          ⟨some 20, Go.Op.move (Go.Operand.tmp 19), 4, none⟩,
          ⟨some 21, Go.Op.move (Go.Operand.tmp 0), 5, (some (20, true))⟩,
          ⟨some 22, Go.Op.binOp Go.BinOp.leq 5 (Go.Operand.tmp 21) (Go.Operand.const (Go.Value.int Go.IntKind.u8 239)) 5, 4, (some (20, true))⟩,
          ⟨some 23, Go.Op.pick (Go.Operand.tmp 20) (Go.Operand.tmp 22) (Go.Operand.const (Go.Value.bool false)), 4, none⟩,
          ⟨some 17, Go.Op.assign (Go.Operand.tmp 23), 4, none⟩])
        (.cond (Go.Operand.tmp 17)
          (.region [⟨some 24, Go.Op.move (Go.Operand.tmp 0), 5, none⟩,
            ⟨some 25, Go.Op.binOp Go.BinOp.and 5 (Go.Operand.tmp 24) (Go.Operand.const (Go.Value.int Go.IntKind.u8 15)) 5, 5, none⟩,
            ⟨some 26, Go.Op.convert 5 21 (Go.Operand.tmp 25), 21, none⟩,
            ⟨some 27, Go.Op.fieldAddr 108 (Go.Operand.tmp 3) 0, 0, none⟩,
            ⟨none, Go.Op.store 21 (Go.Operand.tmp 27) (Go.Operand.tmp 26), 0, none⟩,
            ⟨some 28, Go.Op.fieldAddr 108 (Go.Operand.tmp 3) 1, 0, none⟩,
            ⟨none, Go.Op.store 3 (Go.Operand.tmp 28) (Go.Operand.const (Go.Value.int Go.IntKind.i64 2)), 0, none⟩])
          (.seq (.region [⟨some 30, Go.Op.move (Go.Operand.tmp 0), 5, none⟩,
            ⟨some 31, Go.Op.binOp Go.BinOp.geq 5 (Go.Operand.tmp 30) (Go.Operand.const (Go.Value.int Go.IntKind.u8 240)) 5, 4, none⟩,
            ⟨some 32, Go.Op.move (Go.Operand.tmp 31), 4, none⟩,
            ⟨some 33, Go.Op.move (Go.Operand.tmp 0), 5, (some (32, true))⟩,
            ⟨some 34, Go.Op.binOp Go.BinOp.leq 5 (Go.Operand.tmp 33) (Go.Operand.const (Go.Value.int Go.IntKind.u8 244)) 5, 4, (some (32, true))⟩,
            ⟨some 35, Go.Op.pick (Go.Operand.tmp 32) (Go.Operand.tmp 34) (Go.Operand.const (Go.Value.bool false)), 4, none⟩,
            ⟨some 29, Go.Op.assign (Go.Operand.tmp 35), 4, none⟩])
          (.cond (Go.Operand.tmp 29)
            (.region [⟨some 36, Go.Op.move (Go.Operand.tmp 0), 5, none⟩,
              ⟨some 37, Go.Op.binOp Go.BinOp.and 5 (Go.Operand.tmp 36) (Go.Operand.const (Go.Value.int Go.IntKind.u8 7)) 5, 5, none⟩,
              ⟨some 38, Go.Op.convert 5 21 (Go.Operand.tmp 37), 21, none⟩,
              ⟨some 39, Go.Op.fieldAddr 108 (Go.Operand.tmp 3) 0, 0, none⟩,
              ⟨none, Go.Op.store 21 (Go.Operand.tmp 39) (Go.Operand.tmp 38), 0, none⟩,
              ⟨some 40, Go.Op.fieldAddr 108 (Go.Operand.tmp 3) 1, 0, none⟩,
              ⟨none, Go.Op.store 3 (Go.Operand.tmp 40) (Go.Operand.const (Go.Value.int Go.IntKind.i64 3)), 0, none⟩])
            .skip)))))))
    (.seq (.seq (.region [⟨some 41, Go.Op.move (Go.Operand.tmp 0), 5, none⟩])
    (.block 1
      (.seq (.region [⟨some 43, Go.Op.binOp Go.BinOp.eql 5 (Go.Operand.tmp 41) (Go.Operand.const (Go.Value.int Go.IntKind.u8 224)) 5, 4, none⟩,
        ⟨some 42, Go.Op.assign (Go.Operand.tmp 43), 4, none⟩])
      (.cond (Go.Operand.tmp 42)
        (.region [⟨some 44, Go.Op.fieldAddr 108 (Go.Operand.tmp 3) 2, 0, none⟩,
          ⟨none, Go.Op.store 5 (Go.Operand.tmp 44) (Go.Operand.const (Go.Value.int Go.IntKind.u8 160)), 0, none⟩])
        (.seq (.region [⟨some 46, Go.Op.binOp Go.BinOp.eql 5 (Go.Operand.tmp 41) (Go.Operand.const (Go.Value.int Go.IntKind.u8 237)) 5, 4, none⟩,
          ⟨some 45, Go.Op.assign (Go.Operand.tmp 46), 4, none⟩])
        (.cond (Go.Operand.tmp 45)
          (.region [⟨some 47, Go.Op.fieldAddr 108 (Go.Operand.tmp 3) 3, 0, none⟩,
            ⟨none, Go.Op.store 5 (Go.Operand.tmp 47) (Go.Operand.const (Go.Value.int Go.IntKind.u8 159)), 0, none⟩])
          (.seq (.region [⟨some 49, Go.Op.binOp Go.BinOp.eql 5 (Go.Operand.tmp 41) (Go.Operand.const (Go.Value.int Go.IntKind.u8 240)) 5, 4, none⟩,
            ⟨some 48, Go.Op.assign (Go.Operand.tmp 49), 4, none⟩])
          (.cond (Go.Operand.tmp 48)
            (.region [⟨some 50, Go.Op.fieldAddr 108 (Go.Operand.tmp 3) 2, 0, none⟩,
              ⟨none, Go.Op.store 5 (Go.Operand.tmp 50) (Go.Operand.const (Go.Value.int Go.IntKind.u8 144)), 0, none⟩])
            (.seq (.region [⟨some 52, Go.Op.binOp Go.BinOp.eql 5 (Go.Operand.tmp 41) (Go.Operand.const (Go.Value.int Go.IntKind.u8 244)) 5, 4, none⟩,
              ⟨some 51, Go.Op.assign (Go.Operand.tmp 52), 4, none⟩])
            (.cond (Go.Operand.tmp 51)
              (.region [⟨some 53, Go.Op.fieldAddr 108 (Go.Operand.tmp 3) 3, 0, none⟩,
                ⟨none, Go.Op.store 5 (Go.Operand.tmp 53) (Go.Operand.const (Go.Value.int Go.IntKind.u8 143)), 0, none⟩])
              .skip))))))))))
    (.seq (.region [⟨some 54, Go.Op.load 108 (Go.Operand.tmp 3), 108, none⟩,
      ⟨none, Go.Op.store 108 (Go.Operand.tmp 2) (Go.Operand.tmp 54), 0, none⟩])
    .ret))))) :=
  ⟨foll, Tryz.f62, Tryz.func62, by kernel_rfl, by kernel_rfl, by kernel_rfl, by rw [Tryz.ntmps62]; decide⟩

end Go.Proofs.YtefpcfooahogkaaGreatDoor
set_option linter.unusedVariables false
set_option linter.unusedSimpArgs false
set_option maxRecDepth 100000
namespace Go.Proofs.YtefpcfooahogkaaGreatDoor
open Go Nv Pat

theorem begin46 (b : Int) : PCall Tryz.prog 62 [.d (.int .u8 b)] (beginM b).av := by
  refine fn62.pure noHint (Nat.le_refl _) (by simp only [go_sem]) (by simp only [go_sem, Sq.av, Sq.avs]) ?_
  simp (disch := omega) only [go_sem, reduceIte, reduceCtorEq, Nat.reduceBEq, Nat.reduceEqDiff, Nat.reduceAdd, Nat.reduceLT, Nat.reduceLeDiff, Int.reduceNeg, Int.reduceAdd, Int.reduceLT, Int.reduceLE, Int.reduceEq, Int.reduceNe]
  have n224 : b < 224 → ¬ b = 224 ∧ ¬ b = 237 ∧ ¬ b = 240 ∧ ¬ b = 244 := fun _ => by omega
  by_cases h1 : 194 ≤ b ∧ b ≤ 223
  · have e : beginM b = ⟨m8 b 31, 1, 128, 191⟩ := if_pos h1
    have h1a : b ≥ 194 := h1.1
    have h1b := h1.2
    obtain ⟨q1, q2, q3, q4⟩ := n224 (by omega)
    simp (disch := omega) only [go_sem, reduceIte, reduceCtorEq, Nat.reduceBEq, Nat.reduceEqDiff, Nat.reduceAdd, Nat.reduceLT, Nat.reduceLeDiff, Int.reduceNeg, Int.reduceAdd, Int.reduceLT, Int.reduceLE, Int.reduceEq, Int.reduceNe, h1a, h1b, q1, q2, q3, q4, e, Sq.av, Sq.avs, m8]
    rfl
  by_cases h2 : 224 ≤ b ∧ b ≤ 239
  · have e : beginM b = ⟨m8 b 15, 2, if b = 224 then 160 else 128, if b = 237 then 159 else 191⟩ := by rw [beginM, if_neg h1, if_pos h2]
    have h2a : b ≥ 224 := h2.1
    have h2b := h2.2
    have h1a : b ≥ 194 := by omega
    have h1b : ¬ b ≤ 223 := by omega
    have q3 : ¬ b = 240 := by omega
    have q4 : ¬ b = 244 := by omega
    by_cases q1 : b = 224
    · have q2 : ¬ b = 237 := by omega
      rw [if_pos q1, if_neg q2] at e
      simp (disch := omega) only [go_sem, reduceIte, reduceCtorEq, Nat.reduceBEq, Nat.reduceEqDiff, Nat.reduceAdd, Nat.reduceLT, Nat.reduceLeDiff, Int.reduceNeg, Int.reduceAdd, Int.reduceLT, Int.reduceLE, Int.reduceEq, Int.reduceNe, h1a, h1b, h2a, h2b, e, Sq.av, Sq.avs, m8]
      simp (disch := omega) only [go_sem, reduceIte, reduceCtorEq, Nat.reduceBEq, Nat.reduceEqDiff, Nat.reduceAdd, Nat.reduceLT, Nat.reduceLeDiff, Int.reduceNeg, Int.reduceAdd, Int.reduceLT, Int.reduceLE, Int.reduceEq, Int.reduceNe, q1]
      rfl
    · by_cases q2 : b = 237
      · rw [if_neg q1, if_pos q2] at e
        simp (disch := omega) only [go_sem, reduceIte, reduceCtorEq, Nat.reduceBEq, Nat.reduceEqDiff, Nat.reduceAdd, Nat.reduceLT, Nat.reduceLeDiff, Int.reduceNeg, Int.reduceAdd, Int.reduceLT, Int.reduceLE, Int.reduceEq, Int.reduceNe, h1a, h1b, h2a, h2b, e, Sq.av, Sq.avs, m8]
        simp (disch := omega) only [go_sem, reduceIte, reduceCtorEq, Nat.reduceBEq, Nat.reduceEqDiff, Nat.reduceAdd, Nat.reduceLT, Nat.reduceLeDiff, Int.reduceNeg, Int.reduceAdd, Int.reduceLT, Int.reduceLE, Int.reduceEq, Int.reduceNe, q1]
        simp (disch := omega) only [go_sem, reduceIte, reduceCtorEq, Nat.reduceBEq, Nat.reduceEqDiff, Nat.reduceAdd, Nat.reduceLT, Nat.reduceLeDiff, Int.reduceNeg, Int.reduceAdd, Int.reduceLT, Int.reduceLE, Int.reduceEq, Int.reduceNe, q2]
        rfl
      · rw [if_neg q1, if_neg q2] at e
        simp (disch := omega) only [go_sem, reduceIte, reduceCtorEq, Nat.reduceBEq, Nat.reduceEqDiff, Nat.reduceAdd, Nat.reduceLT, Nat.reduceLeDiff, Int.reduceNeg, Int.reduceAdd, Int.reduceLT, Int.reduceLE, Int.reduceEq, Int.reduceNe, h1a, h1b, h2a, h2b, e, Sq.av, Sq.avs, m8, q1, q2, q3, q4]
        rfl
  by_cases h3 : 240 ≤ b ∧ b ≤ 244
  · have e : beginM b = ⟨m8 b 7, 3, if b = 240 then 144 else 128, if b = 244 then 143 else 191⟩ := by rw [beginM, if_neg h1, if_neg h2, if_pos h3]
    have h3a : b ≥ 240 := h3.1
    have h3b := h3.2
    have h1a : b ≥ 194 := by omega
    have h1b : ¬ b ≤ 223 := by omega
    have h2a : b ≥ 224 := by omega
    have h2b : ¬ b ≤ 239 := by omega
    have q1 : ¬ b = 224 := by omega
    have q2 : ¬ b = 237 := by omega
    by_cases q3 : b = 240
    · have q4 : ¬ b = 244 := by omega
      rw [if_pos q3, if_neg q4] at e
      simp (disch := omega) only [go_sem, reduceIte, reduceCtorEq, Nat.reduceBEq, Nat.reduceEqDiff, Nat.reduceAdd, Nat.reduceLT, Nat.reduceLeDiff, Int.reduceNeg, Int.reduceAdd, Int.reduceLT, Int.reduceLE, Int.reduceEq, Int.reduceNe, h1a, h1b, h2a, h2b, h3a, h3b, e, Sq.av, Sq.avs, m8, q1, q2]
      simp (disch := omega) only [go_sem, reduceIte, reduceCtorEq, Nat.reduceBEq, Nat.reduceEqDiff, Nat.reduceAdd, Nat.reduceLT, Nat.reduceLeDiff, Int.reduceNeg, Int.reduceAdd, Int.reduceLT, Int.reduceLE, Int.reduceEq, Int.reduceNe, q3]
      rfl
    · by_cases q4 : b = 244
      · rw [if_neg q3, if_pos q4] at e
        simp (disch := omega) only [go_sem, reduceIte, reduceCtorEq, Nat.reduceBEq, Nat.reduceEqDiff, Nat.reduceAdd, Nat.reduceLT, Nat.reduceLeDiff, Int.reduceNeg, Int.reduceAdd, Int.reduceLT, Int.reduceLE, Int.reduceEq, Int.reduceNe, h1a, h1b, h2a, h2b, h3a, h3b, e, Sq.av, Sq.avs, m8, q1, q2, q3]
        simp (disch := omega) only [go_sem, reduceIte, reduceCtorEq, Nat.reduceBEq, Nat.reduceEqDiff, Nat.reduceAdd, Nat.reduceLT, Nat.reduceLeDiff, Int.reduceNeg, Int.reduceAdd, Int.reduceLT, Int.reduceLE, Int.reduceEq, Int.reduceNe, q4]
        rfl
      · rw [if_neg q3, if_neg q4] at e
        simp (disch := omega) only [go_sem, reduceIte, reduceCtorEq, Nat.reduceBEq, Nat.reduceEqDiff, Nat.reduceAdd, Nat.reduceLT, Nat.reduceLeDiff, Int.reduceNeg, Int.reduceAdd, Int.reduceLT, Int.reduceLE, Int.reduceEq, Int.reduceNe, h1a, h1b, h2a, h2b, h3a, h3b, e, Sq.av, Sq.avs, m8, q1, q2, q3, q4]
        rfl
  · have e : beginM b = ⟨0, 0, 128, 191⟩ := by rw [beginM, if_neg h1, if_neg h2, if_neg h3]
    have q1 : ¬ b = 224 := by omega
    have q2 : ¬ b = 237 := by omega
    have q3 : ¬ b = 240 := by omega
    have q4 : ¬ b = 244 := by omega
    by_cases h1a : b ≥ 194
    · have h1b : ¬ b ≤ 223 := by omega
      have h2a : b ≥ 224 := by omega
      have h2b : ¬ b ≤ 239 := by omega
      have h3a : b ≥ 240 := by omega
      have h3b : ¬ b ≤ 244 := by omega
      simp (disch := omega) only [go_sem, reduceIte, reduceCtorEq, Nat.reduceBEq, Nat.reduceEqDiff, Nat.reduceAdd, Nat.reduceLT, Nat.reduceLeDiff, Int.reduceNeg, Int.reduceAdd, Int.reduceLT, Int.reduceLE, Int.reduceEq, Int.reduceNe, h1a, h1b, h2a, h2b, h3a, h3b, e, Sq.av, Sq.avs, q1, q2, q3, q4]
    · have h2a : ¬ b ≥ 224 := by omega
      have h3a : ¬ b ≥ 240 := by omega
      simp (disch := omega) only [go_sem, reduceIte, reduceCtorEq, Nat.reduceBEq, Nat.reduceEqDiff, Nat.reduceAdd, Nat.reduceLT, Nat.reduceLeDiff, Int.reduceNeg, Int.reduceAdd, Int.reduceLT, Int.reduceLE, Int.reduceEq, Int.reduceNe, h1a, h2a, h3a, e, Sq.av, Sq.avs, q1, q2, q3, q4]
end Go.Proofs.YtefpcfooahogkaaGreatDoor
