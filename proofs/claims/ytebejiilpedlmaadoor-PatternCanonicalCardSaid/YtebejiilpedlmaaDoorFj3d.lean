/- The prepared code of further functions. Written by a program of mine (gen.py) out of what the loaded dump prints. -/
import Derived.Test.YtebejiilpedlmaaDoorBase3d
set_option linter.unusedVariables false
set_option maxRecDepth 100000
namespace Go.Proofs.YtebejiilpedlmaaDoor
open Go Nv

/-- narrator.pattern.Format -/
theorem fn7 : FnIs Tryd.prog 7 1 [Go.ResultVar.tmp 2, Go.ResultVar.tmp 3] (.seq (.region [⟨some 1, Go.Op.box 26 (Go.Operand.tmp 0), 0, none⟩,
      ⟨some 2, Go.Op.assign (Go.Operand.const (Go.Value.string { data := #[] })), 9, none⟩,
      ⟨some 3, Go.Op.assign (Go.Operand.const (Go.Value.int Go.IntKind.i64 0)), 27, none⟩])
    (.seq (.seq (.region [⟨some 6, Go.Op.load 26 (Go.Operand.tmp 1), 26, none⟩,
      ⟨some 7, Go.Op.call { callee := Go.Callee.value (Go.Operand.func 6), args := #[Go.Operand.tmp 6], argTypes := #[26] }, 27, none⟩,
      ⟨some 4, Go.Op.assign (Go.Operand.tmp 7), 27, none⟩])
    (.seq (.region [⟨some 8, Go.Op.move (Go.Operand.tmp 4), 27, none⟩,
      ⟨some 9, Go.Op.binOp Go.BinOp.neq 27 (Go.Operand.tmp 8) (Go.Operand.const (Go.Value.int Go.IntKind.i64 0)) 27, 4, none⟩])
    (.cond (Go.Operand.tmp 9)
      (.seq (.region [⟨some 10, Go.Op.move (Go.Operand.tmp 4), 27, none⟩,
        ⟨some 2, Go.Op.assign (Go.Operand.const (Go.Value.string { data := #[] })), 9, none⟩,
        ⟨some 3, Go.Op.assign (Go.Operand.tmp 10), 27, none⟩])
      .ret)
      .skip)))
    (.seq (.region [⟨some 11, Go.Op.load 26 (Go.Operand.tmp 1), 26, none⟩,
      ⟨some 12, Go.Op.call { callee := Go.Callee.value (Go.Operand.func 16), args := #[Go.Operand.tmp 11], argTypes := #[26] }, 9, none⟩,
      ⟨some 5, Go.Op.assign (Go.Operand.tmp 12), 9, none⟩])
    (.seq (.seq (.region [⟨some 13, Go.Op.move (Go.Operand.tmp 5), 9, none⟩,
      ⟨some 14, Go.Op.call { callee := Go.Callee.builtin Go.Builtin.len, args := #[Go.Operand.tmp 13], argTypes := #[9] }, 3, none⟩,
      ⟨some 15, Go.Op.binOp Go.BinOp.gtr 3 (Go.Operand.tmp 14) (Go.Operand.const (Go.Value.int Go.IntKind.i64 60)) 3, 4, none⟩])
    (.cond (Go.Operand.tmp 15)
      (.seq (.region [⟨some 2, Go.Op.assign (Go.Operand.const (Go.Value.string { data := #[] })), 9, none⟩,
        ⟨some 3, Go.Op.assign (Go.Operand.const (Go.Value.int Go.IntKind.i64 5)), 27, none⟩])
      .ret)
      .skip))
    (.seq (.region [⟨some 16, Go.Op.move (Go.Operand.tmp 5), 9, none⟩,
      ⟨some 2, Go.Op.assign (Go.Operand.tmp 16), 9, none⟩,
      ⟨some 3, Go.Op.assign (Go.Operand.const (Go.Value.int Go.IntKind.i64 0)), 27, none⟩])
    .ret))))) :=
  ⟨foll, Tryd.f7, Tryd.func7, by kernel_rfl, by kernel_rfl, by kernel_rfl, by rw [Tryd.ntmps7]; decide⟩

/-- narrator.pattern.format -/
theorem fn16 : FnIs Tryd.prog 16 1 [Go.ResultVar.tmp 2] (.seq (.region [⟨some 1, Go.Op.box 26 (Go.Operand.tmp 0), 0, none⟩,
      ⟨some 2, Go.Op.assign (Go.Operand.const (Go.Value.string { data := #[] })), 9, none⟩])
    (.seq (.seq (.region [⟨some 7, Go.Op.fieldAddr 26 (Go.Operand.tmp 1) 0, 0, none⟩,
      ⟨some 8, Go.Op.load 3 (Go.Operand.tmp 7), 3, none⟩,
      ⟨some 9, Go.Op.binOp Go.BinOp.eql 3 (Go.Operand.tmp 8) (Go.Operand.const (Go.Value.int Go.IntKind.i64 2)) 3, 4, none⟩])
    (.cond (Go.Operand.tmp 9)
      (.seq (.region [⟨some 10, Go.Op.fieldAddr 26 (Go.Operand.tmp 1) 1, 0, none⟩,
        ⟨some 11, Go.Op.load 23 (Go.Operand.tmp 10), 23, none⟩,
        ⟨some 12, Go.Op.call { callee := Go.Callee.value (Go.Operand.func 24), args := #[Go.Operand.tmp 11], argTypes := #[23] }, 9, none⟩,
        ⟨some 2, Go.Op.assign (Go.Operand.tmp 12), 9, none⟩])
      .ret)
      .skip))
    (.seq (.region [⟨some 3, Go.Op.assign (Go.Operand.const (Go.Value.slice none 0 0)), 57, none⟩])
    (.seq (.seq (.region [⟨some 13, Go.Op.fieldAddr 26 (Go.Operand.tmp 1) 2, 0, none⟩,
      ⟨some 14, Go.Op.load 24 (Go.Operand.tmp 13), 24, none⟩,
      ⟨some 15, Go.Op.call { callee := Go.Callee.builtin Go.Builtin.len, args := #[Go.Operand.tmp 14], argTypes := #[24] }, 3, none⟩,
      ⟨some 16, Go.Op.move (Go.Operand.const (Go.Value.int Go.IntKind.i64 0)), 3, none⟩])
    (.block 0
      (.loop
        (.seq (.region [⟨some 17, Go.Op.binOp Go.BinOp.lss 3 (Go.Operand.tmp 16) (Go.Operand.tmp 15) 3, 0, none⟩])
        (.seq (.cond (Go.Operand.tmp 17)
          .skip
          (.exit 0))
        (.seq (.block 1
          (.seq (.region [⟨some 18, Go.Op.indexAddr 24 (Go.Operand.tmp 14) (Go.Operand.tmp 16), 0, none⟩,
            ⟨some 19, Go.Op.load 26 (Go.Operand.tmp 18), 26, none⟩,
            ⟨some 5, Go.Op.alloc 26, 0, none⟩,
            ⟨none, Go.Op.store 26 (Go.Operand.tmp 5) (Go.Operand.tmp 19), 0, none⟩])
          (.seq (.region [⟨some 20, Go.Op.load 26 (Go.Operand.tmp 5), 26, none⟩,
            ⟨some 21, Go.Op.call { callee := Go.Callee.value (Go.Operand.func 16), args := #[Go.Operand.tmp 20], argTypes := #[26] }, 9, none⟩,
            ⟨some 6, Go.Op.assign (Go.Operand.tmp 21), 9, none⟩])
          (.seq (.seq (.region [⟨some 22, Go.Op.fieldAddr 26 (Go.Operand.tmp 1) 0, 0, none⟩,
            ⟨some 23, Go.Op.load 3 (Go.Operand.tmp 22), 3, none⟩,
            ⟨some 24, Go.Op.fieldAddr 26 (Go.Operand.tmp 5) 0, 0, none⟩,
            ⟨some 25, Go.Op.load 3 (Go.Operand.tmp 24), 3, none⟩,
            ⟨some 26, Go.Op.call { callee := Go.Callee.value (Go.Operand.func 25), args := #[Go.Operand.tmp 23, Go.Operand.tmp 25], argTypes := #[3, 3] }, 4, none⟩])
          (.cond (Go.Operand.tmp 26)
            (.region [⟨some 27, Go.Op.move (Go.Operand.tmp 6), 9, none⟩,
              ⟨some 28, Go.Op.binOp Go.BinOp.add 9 (Go.Operand.const (Go.Value.string { data := #[40] })) (Go.Operand.tmp 27) 9, 9, none⟩,
              ⟨some 29, Go.Op.binOp Go.BinOp.add 9 (Go.Operand.tmp 28) (Go.Operand.const (Go.Value.string { data := #[41] })) 9, 9, none⟩,
              ⟨some 6, Go.Op.assign (Go.Operand.tmp 29), 9, none⟩])
            .skip))
          (.region [⟨some 30, Go.Op.move (Go.Operand.tmp 3), 57, none⟩,
            ⟨some 31, Go.Op.move (Go.Operand.tmp 6), 9, none⟩,
            ⟨some 32, Go.Op.buildSlice 57 1 #[(0, Go.Operand.tmp 31)], 57, none⟩,
            ⟨some 33, Go.Op.call { callee := Go.Callee.builtin Go.Builtin.append, args := #[Go.Operand.tmp 30, Go.Operand.tmp 32], argTypes := #[57, 57] }, 57, none⟩,
            ⟨some 3, Go.Op.assign (Go.Operand.tmp 33), 57, none⟩])))))
        (.region [⟨some 34, Go.Op.binOp Go.BinOp.add 3 (Go.Operand.tmp 16) (Go.Operand.const (Go.Value.int Go.IntKind.i64 1)) 3, 3, none⟩,
          ⟨some 16, Go.Op.move (Go.Operand.tmp 34), 3, none⟩])))))))
    (.seq (.seq (.region [⟨some 35, Go.Op.fieldAddr 26 (Go.Operand.tmp 1) 0, 0, none⟩,
      ⟨some 36, Go.Op.load 3 (Go.Operand.tmp 35), 3, none⟩])
    (.block 2
      (.seq (.region [⟨some 38, Go.Op.binOp Go.BinOp.eql 3 (Go.Operand.tmp 36) (Go.Operand.const (Go.Value.int Go.IntKind.i64 4)) 3, 4, none⟩,
        ⟨some 37, Go.Op.assign (Go.Operand.tmp 38), 4, none⟩])
      (.cond (Go.Operand.tmp 37)
        (.seq (.region [⟨some 39, Go.Op.move (Go.Operand.tmp 3), 57, none⟩,
          ⟨some 40, Go.Op.call { callee := Go.Callee.value (Go.Operand.func 26), args := #[Go.Operand.tmp 39, Go.Operand.const (Go.Value.string { data := #[124] })], argTypes := #[57, 9] }, 9, none⟩,
          ⟨some 2, Go.Op.assign (Go.Operand.tmp 40), 9, none⟩])
        .ret)
        (.seq (.region [⟨some 42, Go.Op.binOp Go.BinOp.eql 3 (Go.Operand.tmp 36) (Go.Operand.const (Go.Value.int Go.IntKind.i64 5)) 3, 4, none⟩,
          ⟨some 41, Go.Op.assign (Go.Operand.tmp 42), 4, none⟩])
        (.cond (Go.Operand.tmp 41)
          (.seq (.draw [⟨⟨some 43, Go.Op.move (Go.Operand.tmp 3), 57, none⟩, false, false, false⟩,
            ⟨⟨some 44, Go.Op.indexAddr 57 (Go.Operand.tmp 43) (Go.Operand.const (Go.Value.int Go.IntKind.i64 0)), 0, none⟩, false, false, false⟩,
            ⟨⟨some 45, Go.Op.load 9 (Go.Operand.tmp 44), 9, none⟩, false, false, false⟩,
            ⟨⟨some 46, Go.Op.fieldAddr 26 (Go.Operand.tmp 1) 3, 0, none⟩, false, false, false⟩,
            ⟨⟨some 47, Go.Op.load 3 (Go.Operand.tmp 46), 3, none⟩, false, false, false⟩,
            ⟨⟨some 48, Go.Op.fieldAddr 26 (Go.Operand.tmp 1) 4, 0, none⟩, false, false, false⟩,
            ⟨⟨some 49, Go.Op.load 3 (Go.Operand.tmp 48), 3, none⟩, false, false, false⟩,
            ⟨⟨some 50, Go.Op.call { callee := Go.Callee.value (Go.Operand.func 27), args := #[Go.Operand.tmp 47, Go.Operand.tmp 49], argTypes := #[3, 3] }, 9, none⟩, false, false, false⟩,
            ⟨⟨some 51, Go.Op.binOp Go.BinOp.add 9 (Go.Operand.tmp 45) (Go.Operand.tmp 50) 9, 9, none⟩, false, false, false⟩,
            ⟨⟨some 2, Go.Op.assign (Go.Operand.tmp 51), 9, none⟩, false, false, false⟩])
          .ret)
          .skip))))))
    (.seq (.region [⟨some 52, Go.Op.move (Go.Operand.tmp 3), 57, none⟩,
      ⟨some 53, Go.Op.call { callee := Go.Callee.value (Go.Operand.func 26), args := #[Go.Operand.tmp 52, Go.Operand.const (Go.Value.string { data := #[] })], argTypes := #[57, 9] }, 9, none⟩,
      ⟨some 2, Go.Op.assign (Go.Operand.tmp 53), 9, none⟩])
    .ret)))))) :=
  ⟨foll, Tryd.f16, Tryd.func16, by kernel_rfl, by kernel_rfl, by kernel_rfl, by rw [Tryd.ntmps16]; decide⟩

/-- narrator.pattern.set -/
theorem fn24 : FnIs Tryd.prog 24 1 [Go.ResultVar.tmp 2] (.seq (.region [⟨some 2, Go.Op.assign (Go.Operand.const (Go.Value.string { data := #[] })), 9, none⟩])
    (.seq (.block 0
      (.seq (.region [⟨some 4, Go.Op.move (Go.Operand.tmp 0), 23, none⟩,
        ⟨some 5, Go.Op.call { callee := Go.Callee.value (Go.Operand.func 37), args := #[], argTypes := #[] }, 23, none⟩,
        ⟨some 6, Go.Op.call { callee := Go.Callee.value (Go.Operand.func 36), args := #[Go.Operand.tmp 4, Go.Operand.tmp 5], argTypes := #[23, 23] }, 4, none⟩,
        ⟨some 3, Go.Op.assign (Go.Operand.tmp 6), 4, none⟩])
      (.cond (Go.Operand.tmp 3)
        (.seq (.region [⟨some 2, Go.Op.assign (Go.Operand.const (Go.Value.string { data := #[46] })), 9, none⟩])
        .ret)
        (.seq (.region [⟨some 8, Go.Op.move (Go.Operand.tmp 0), 23, none⟩,
          ⟨some 9, Go.Op.call { callee := Go.Callee.builtin Go.Builtin.len, args := #[Go.Operand.tmp 8], argTypes := #[23] }, 3, none⟩,
          ⟨some 10, Go.Op.binOp Go.BinOp.eql 3 (Go.Operand.tmp 9) (Go.Operand.const (Go.Value.int Go.IntKind.i64 0)) 3, 4, none⟩,
          ⟨some 7, Go.Op.assign (Go.Operand.tmp 10), 4, none⟩])
        (.cond (Go.Operand.tmp 7)
          (.seq (.region [⟨some 11, Go.Op.call { callee := Go.Callee.value (Go.Operand.func 37), args := #[], argTypes := #[] }, 23, none⟩,
            ⟨some 12, Go.Op.call { callee := Go.Callee.value (Go.Operand.func 38), args := #[Go.Operand.tmp 11], argTypes := #[23] }, 9, none⟩,
            ⟨some 13, Go.Op.binOp Go.BinOp.add 9 (Go.Operand.const (Go.Value.string { data := #[91, 94] })) (Go.Operand.tmp 12) 9, 9, none⟩,
            ⟨some 14, Go.Op.binOp Go.BinOp.add 9 (Go.Operand.tmp 13) (Go.Operand.const (Go.Value.string { data := #[93] })) 9, 9, none⟩,
            ⟨some 2, Go.Op.assign (Go.Operand.tmp 14), 9, none⟩])
          .ret)
          (.seq (.draw [⟨⟨some 16, Go.Op.move (Go.Operand.tmp 0), 23, none⟩, false, false, false⟩,
            ⟨⟨some 17, Go.Op.call { callee := Go.Callee.builtin Go.Builtin.len, args := #[Go.Operand.tmp 16], argTypes := #[23] }, 3, none⟩, false, false, false⟩,
            ⟨⟨some 18, Go.Op.binOp Go.BinOp.eql 3 (Go.Operand.tmp 17) (Go.Operand.const (Go.Value.int Go.IntKind.i64 1)) 3, 4, none⟩, false, false, false⟩,
            ⟨⟨some 19, Go.Op.move (Go.Operand.tmp 18), 4, none⟩, false, false, false⟩,
            ⟨⟨some 20, Go.Op.move (Go.Operand.tmp 0), 23, (some (19, true))⟩, false, false, false⟩,
            ⟨⟨some 21, Go.Op.indexAddr 23 (Go.Operand.tmp 20) (Go.Operand.const (Go.Value.int Go.IntKind.i64 0)), 0, (some (19, true))⟩, false, false, false⟩,
            ⟨⟨some 22, Go.Op.fieldAddr 48 (Go.Operand.tmp 21) 0, 0, (some (19, true))⟩, false, false, false⟩,
            ⟨⟨some 23, Go.Op.load 21 (Go.Operand.tmp 22), 21, (some (19, true))⟩, false, false, false⟩,
            ⟨⟨some 24, Go.Op.move (Go.Operand.tmp 0), 23, (some (19, true))⟩, false, false, false⟩,
            ⟨⟨some 25, Go.Op.indexAddr 23 (Go.Operand.tmp 24) (Go.Operand.const (Go.Value.int Go.IntKind.i64 0)), 0, (some (19, true))⟩, false, false, false⟩,
            ⟨⟨some 26, Go.Op.fieldAddr 48 (Go.Operand.tmp 25) 1, 0, (some (19, true))⟩, false, false, false⟩,
            ⟨⟨some 27, Go.Op.load 21 (Go.Operand.tmp 26), 21, (some (19, true))⟩, false, false, false⟩,
            ⟨⟨some 28, Go.Op.binOp Go.BinOp.eql 21 (Go.Operand.tmp 23) (Go.Operand.tmp 27) 21, 4, (some (19, true))⟩, false, false, false⟩,
            ⟨⟨some 29, Go.Op.pick (Go.Operand.tmp 19) (Go.Operand.tmp 28) (Go.Operand.const (Go.Value.bool false)), 4, none⟩, false, false, false⟩,
            ⟨⟨some 15, Go.Op.assign (Go.Operand.tmp 29), 4, none⟩, false, false, false⟩])
          (.cond (Go.Operand.tmp 15)
            (.seq (.region [⟨some 30, Go.Op.move (Go.Operand.tmp 0), 23, none⟩,
              ⟨some 31, Go.Op.indexAddr 23 (Go.Operand.tmp 30) (Go.Operand.const (Go.Value.int Go.IntKind.i64 0)), 0, none⟩,
              ⟨some 32, Go.Op.fieldAddr 48 (Go.Operand.tmp 31) 0, 0, none⟩,
              ⟨some 33, Go.Op.load 21 (Go.Operand.tmp 32), 21, none⟩,
              ⟨some 34, Go.Op.call { callee := Go.Callee.value (Go.Operand.func 39), args := #[Go.Operand.tmp 33, Go.Operand.const (Go.Value.string { data := #[92, 40, 41, 91, 93, 123, 125, 124, 42, 43, 63, 46] })], argTypes := #[21, 9] }, 9, none⟩,
              ⟨some 2, Go.Op.assign (Go.Operand.tmp 34), 9, none⟩])
            .ret)
            .skip)))))))
    (.seq (.region [⟨some 35, Go.Op.move (Go.Operand.tmp 0), 23, none⟩,
      ⟨some 36, Go.Op.call { callee := Go.Callee.value (Go.Operand.func 38), args := #[Go.Operand.tmp 35], argTypes := #[23] }, 9, none⟩,
      ⟨some 37, Go.Op.binOp Go.BinOp.add 9 (Go.Operand.const (Go.Value.string { data := #[91] })) (Go.Operand.tmp 36) 9, 9, none⟩,
      ⟨some 38, Go.Op.binOp Go.BinOp.add 9 (Go.Operand.tmp 37) (Go.Operand.const (Go.Value.string { data := #[93] })) 9, 9, none⟩,
      ⟨some 2, Go.Op.assign (Go.Operand.tmp 38), 9, none⟩])
    .ret))) :=
  ⟨foll, Tryd.f24, Tryd.func24, by kernel_rfl, by kernel_rfl, by kernel_rfl, by rw [Tryd.ntmps24]; decide⟩

/-- narrator.pattern.enclosed -/
theorem fn25 : FnIs Tryd.prog 25 2 [Go.ResultVar.tmp 4] (.seq (.region [⟨some 4, Go.Op.assign (Go.Operand.const (Go.Value.bool false)), 4, none⟩])
    (.seq (.seq (.region [⟨some 5, Go.Op.move (Go.Operand.tmp 0), 3, none⟩])
    (.block 0
      (.seq (.region [⟨some 7, Go.Op.binOp Go.BinOp.eql 3 (Go.Operand.tmp 5) (Go.Operand.const (Go.Value.int Go.IntKind.i64 3)) 3, 4, none⟩,
        ⟨some 6, Go.Op.assign (Go.Operand.tmp 7), 4, none⟩])
      (.cond (Go.Operand.tmp 6)
        (.seq (.region [⟨some 8, Go.Op.move (Go.Operand.tmp 1), 3, none⟩,
          ⟨some 9, Go.Op.binOp Go.BinOp.eql 3 (Go.Operand.tmp 8) (Go.Operand.const (Go.Value.int Go.IntKind.i64 3)) 3, 4, none⟩,
          ⟨some 10, Go.Op.move (Go.Operand.tmp 9), 4, none⟩,
          ⟨some 11, Go.Op.move (Go.Operand.tmp 1), 3, (some (10, false))⟩,
          ⟨some 12, Go.Op.binOp Go.BinOp.eql 3 (Go.Operand.tmp 11) (Go.Operand.const (Go.Value.int Go.IntKind.i64 4)) 3, 4, (some (10, false))⟩,
          ⟨some 13, Go.Op.pick (Go.Operand.tmp 10) (Go.Operand.const (Go.Value.bool true)) (Go.Operand.tmp 12), 4, none⟩,
          ⟨some 14, Go.Op.move (Go.Operand.tmp 13), 4, none⟩,
          ⟨some 15, Go.Op.move (Go.Operand.tmp 1), 3, (some (14, false))⟩,
          ⟨some 16, Go.Op.binOp Go.BinOp.eql 3 (Go.Operand.tmp 15) (Go.Operand.const (Go.Value.int Go.IntKind.i64 1)) 3, 4, (some (14, false))⟩,
          ⟨some 17, Go.Op.pick (Go.Operand.tmp 14) (Go.Operand.const (Go.Value.bool true)) (Go.Operand.tmp 16), 4, none⟩,
          ⟨some 4, Go.Op.assign (Go.Operand.tmp 17), 4, none⟩])
        .ret)
        (.seq (.region [⟨some 19, Go.Op.binOp Go.BinOp.eql 3 (Go.Operand.tmp 5) (Go.Operand.const (Go.Value.int Go.IntKind.i64 4)) 3, 4, none⟩,
          ⟨some 18, Go.Op.assign (Go.Operand.tmp 19), 4, none⟩])
        (.cond (Go.Operand.tmp 18)
          (.seq (.region [⟨some 20, Go.Op.move (Go.Operand.tmp 1), 3, none⟩,
            ⟨some 21, Go.Op.binOp Go.BinOp.eql 3 (Go.Operand.tmp 20) (Go.Operand.const (Go.Value.int Go.IntKind.i64 4)) 3, 4, none⟩,
            ⟨some 4, Go.Op.assign (Go.Operand.tmp 21), 4, none⟩])
          .ret)
          .skip))))))
    (.seq (.region [⟨some 22, Go.Op.move (Go.Operand.tmp 1), 3, none⟩,
      ⟨some 23, Go.Op.binOp Go.BinOp.neq 3 (Go.Operand.tmp 22) (Go.Operand.const (Go.Value.int Go.IntKind.i64 2)) 3, 4, none⟩,
      ⟨some 4, Go.Op.assign (Go.Operand.tmp 23), 4, none⟩])
    .ret))) :=
  ⟨foll, Tryd.f25, Tryd.func25, by kernel_rfl, by kernel_rfl, by kernel_rfl, by rw [Tryd.ntmps25]; decide⟩

/-- narrator.pattern.suffix -/
theorem fn27 : FnIs Tryd.prog 27 2 [Go.ResultVar.tmp 4] (.seq (.region [⟨some 4, Go.Op.assign (Go.Operand.const (Go.Value.string { data := #[] })), 9, none⟩])
    (.seq (.region [⟨some 6, Go.Op.move (Go.Operand.tmp 0), 3, none⟩,
      ⟨some 7, Go.Op.call { callee := Go.Callee.value (Go.Operand.func 43), args := #[Go.Operand.tmp 6], argTypes := #[3] }, 9, none⟩,
      ⟨some 5, Go.Op.assign (Go.Operand.tmp 7), 9, none⟩])
    (.seq (.block 0
      (.seq (.region [⟨some 9, Go.Op.move (Go.Operand.tmp 0), 3, none⟩,
        ⟨some 10, Go.Op.binOp Go.BinOp.eql 3 (Go.Operand.tmp 9) (Go.Operand.const (Go.Value.int Go.IntKind.i64 0)) 3, 4, none⟩,
        ⟨some 11, Go.Op.move (Go.Operand.tmp 10), 4, none⟩,
        ⟨some 12, Go.Op.move (Go.Operand.tmp 1), 3, (some (11, true))⟩,
        ⟨some 13, Go.Op.binOp Go.BinOp.eql 3 (Go.Operand.tmp 12) (Go.Operand.const (Go.Value.int Go.IntKind.i64 (-1))) 3, 4, (some (11, true))⟩,
        ⟨some 14, Go.Op.pick (Go.Operand.tmp 11) (Go.Operand.tmp 13) (Go.Operand.const (Go.Value.bool false)), 4, none⟩,
        ⟨some 8, Go.Op.assign (Go.Operand.tmp 14), 4, none⟩])
      (.cond (Go.Operand.tmp 8)
        (.seq (.region [⟨some 4, Go.Op.assign (Go.Operand.const (Go.Value.string { data := #[42] })), 9, none⟩])
        .ret)
        (.seq (.region [⟨some 16, Go.Op.move (Go.Operand.tmp 0), 3, none⟩,
          ⟨some 17, Go.Op.binOp Go.BinOp.eql 3 (Go.Operand.tmp 16) (Go.Operand.const (Go.Value.int Go.IntKind.i64 1)) 3, 4, none⟩,
          ⟨some 18, Go.Op.move (Go.Operand.tmp 17), 4, none⟩,
          ⟨some 19, Go.Op.move (Go.Operand.tmp 1), 3, (some (18, true))⟩,
          ⟨some 20, Go.Op.binOp Go.BinOp.eql 3 (Go.Operand.tmp 19) (Go.Operand.const (Go.Value.int Go.IntKind.i64 (-1))) 3, 4, (some (18, true))⟩,
          ⟨some 21, Go.Op.pick (Go.Operand.tmp 18) (Go.Operand.tmp 20) (Go.Operand.const (Go.Value.bool false)), 4, none⟩,
          ⟨some 15, Go.Op.assign (Go.Operand.tmp 21), 4, none⟩])
        (.cond (Go.Operand.tmp 15)
          (.seq (.region [⟨some 4, Go.Op.assign (Go.Operand.const (Go.Value.string { data := #[43] })), 9, none⟩])
          .ret)
          (.seq (.region [⟨some 23, Go.Op.move (Go.Operand.tmp 0), 3, none⟩,
            ⟨some 24, Go.Op.binOp Go.BinOp.eql 3 (Go.Operand.tmp 23) (Go.Operand.const (Go.Value.int Go.IntKind.i64 0)) 3, 4, none⟩,
            ⟨some 25, Go.Op.move (Go.Operand.tmp 24), 4, none⟩,
            ⟨some 26, Go.Op.move (Go.Operand.tmp 1), 3, (some (25, true))⟩,
            ⟨some 27, Go.Op.binOp Go.BinOp.eql 3 (Go.Operand.tmp 26) (Go.Operand.const (Go.Value.int Go.IntKind.i64 1)) 3, 4, (some (25, true))⟩,
            ⟨some 28, Go.Op.pick (Go.Operand.tmp 25) (Go.Operand.tmp 27) (Go.Operand.const (Go.Value.bool false)), 4, none⟩,
            ⟨some 22, Go.Op.assign (Go.Operand.tmp 28), 4, none⟩])
          (.cond (Go.Operand.tmp 22)
            (.seq (.region [⟨some 4, Go.Op.assign (Go.Operand.const (Go.Value.string { data := #[63] })), 9, none⟩])
            .ret)
            (.seq (.region [⟨some 30, Go.Op.move (Go.Operand.tmp 0), 3, none⟩,
              ⟨some 31, Go.Op.move (Go.Operand.tmp 1), 3, none⟩,
              ⟨some 32, Go.Op.binOp Go.BinOp.eql 3 (Go.Operand.tmp 30) (Go.Operand.tmp 31) 3, 4, none⟩,
              ⟨some 29, Go.Op.assign (Go.Operand.tmp 32), 4, none⟩])
            (.cond (Go.Operand.tmp 29)
              (.seq (.region [⟨some 33, Go.Op.move (Go.Operand.tmp 5), 9, none⟩,
                ⟨some 34, Go.Op.binOp Go.BinOp.add 9 (Go.Operand.const (Go.Value.string { data := #[123] })) (Go.Operand.tmp 33) 9, 9, none⟩,
                ⟨some 35, Go.Op.binOp Go.BinOp.add 9 (Go.Operand.tmp 34) (Go.Operand.const (Go.Value.string { data := #[125] })) 9, 9, none⟩,
                ⟨some 4, Go.Op.assign (Go.Operand.tmp 35), 9, none⟩])
              .ret)
              (.seq (.region [⟨some 37, Go.Op.move (Go.Operand.tmp 1), 3, none⟩,
                ⟨some 38, Go.Op.binOp Go.BinOp.eql 3 (Go.Operand.tmp 37) (Go.Operand.const (Go.Value.int Go.IntKind.i64 (-1))) 3, 4, none⟩,
                ⟨some 36, Go.Op.assign (Go.Operand.tmp 38), 4, none⟩])
              (.cond (Go.Operand.tmp 36)
                (.seq (.region [⟨some 39, Go.Op.move (Go.Operand.tmp 5), 9, none⟩,
                  ⟨some 40, Go.Op.binOp Go.BinOp.add 9 (Go.Operand.const (Go.Value.string { data := #[123] })) (Go.Operand.tmp 39) 9, 9, none⟩,
                  ⟨some 41, Go.Op.binOp Go.BinOp.add 9 (Go.Operand.tmp 40) (Go.Operand.const (Go.Value.string { data := #[44, 125] })) 9, 9, none⟩,
                  ⟨some 4, Go.Op.assign (Go.Operand.tmp 41), 9, none⟩])
                .ret)
                .skip)))))))))))
    (.seq (.region [⟨some 42, Go.Op.move (Go.Operand.tmp 5), 9, none⟩,
      ⟨some 43, Go.Op.binOp Go.BinOp.add 9 (Go.Operand.const (Go.Value.string { data := #[123] })) (Go.Operand.tmp 42) 9, 9, none⟩,
      ⟨some 44, Go.Op.binOp Go.BinOp.add 9 (Go.Operand.tmp 43) (Go.Operand.const (Go.Value.string { data := #[44] })) 9, 9, none⟩,
      ⟨some 45, Go.Op.move (Go.Operand.tmp 1), 3, none⟩,
      ⟨some 46, Go.Op.call { callee := Go.Callee.value (Go.Operand.func 43), args := #[Go.Operand.tmp 45], argTypes := #[3] }, 9, none⟩,
      ⟨some 47, Go.Op.binOp Go.BinOp.add 9 (Go.Operand.tmp 44) (Go.Operand.tmp 46) 9, 9, none⟩,
      ⟨some 48, Go.Op.binOp Go.BinOp.add 9 (Go.Operand.tmp 47) (Go.Operand.const (Go.Value.string { data := #[125] })) 9, 9, none⟩,
      ⟨some 4, Go.Op.assign (Go.Operand.tmp 48), 9, none⟩])
    .ret)))) :=
  ⟨foll, Tryd.f27, Tryd.func27, by kernel_rfl, by kernel_rfl, by kernel_rfl, by rw [Tryd.ntmps27]; decide⟩

/-- slices.Equal[[]narrator.api.Range,narrator.api.Range] -/
theorem fn36 : FnIs Tryd.prog 36 2 [Go.ResultVar.tmp 4] (.seq (.region [⟨some 4, Go.Op.assign (Go.Operand.const (Go.Value.bool false)), 4, none⟩])
    (.seq (.seq (.region [⟨some 6, Go.Op.move (Go.Operand.tmp 0), 23, none⟩,
      ⟨some 7, Go.Op.call { callee := Go.Callee.builtin Go.Builtin.len, args := #[Go.Operand.tmp 6], argTypes := #[23] }, 3, none⟩,
      ⟨some 8, Go.Op.move (Go.Operand.tmp 1), 23, none⟩,
      ⟨some 9, Go.Op.call { callee := Go.Callee.builtin Go.Builtin.len, args := #[Go.Operand.tmp 8], argTypes := #[23] }, 3, none⟩,
      ⟨some 10, Go.Op.binOp Go.BinOp.neq 3 (Go.Operand.tmp 7) (Go.Operand.tmp 9) 3, 4, none⟩])
    (.cond (Go.Operand.tmp 10)
      (.seq (.region [⟨some 4, Go.Op.assign (Go.Operand.const (Go.Value.bool false)), 4, none⟩])
      .ret)
      .skip))
    (.seq (.seq (.region [⟨some 11, Go.Op.move (Go.Operand.tmp 0), 23, none⟩,
      ⟨some 12, Go.Op.call { callee := Go.Callee.builtin Go.Builtin.len, args := #[Go.Operand.tmp 11], argTypes := #[23] }, 3, none⟩,
      ⟨some 13, Go.Op.move (Go.Operand.const (Go.Value.int Go.IntKind.i64 0)), 3, none⟩])
    (.block 0
      (.loop
        (.seq (.region [⟨some 14, Go.Op.binOp Go.BinOp.lss 3 (Go.Operand.tmp 13) (Go.Operand.tmp 12) 3, 0, none⟩])
        (.seq (.cond (Go.Operand.tmp 14)
          .skip
          (.exit 0))
        (.seq (.block 1
          (.seq (.region [⟨some 15, Go.Op.move (Go.Operand.tmp 13), 3, none⟩,
            ⟨some 5, Go.Op.assign (Go.Operand.tmp 15), 3, none⟩])
          (.seq (.draw [⟨⟨some 16, Go.Op.move (Go.Operand.tmp 0), 23, none⟩, false, false, false⟩,
            ⟨⟨some 17, Go.Op.move (Go.Operand.tmp 5), 3, none⟩, false, false, false⟩,
            ⟨⟨some 18, Go.Op.indexAddr 23 (Go.Operand.tmp 16) (Go.Operand.tmp 17), 0, none⟩, false, false, false⟩,
            ⟨⟨some 19, Go.Op.load 48 (Go.Operand.tmp 18), 48, none⟩, false, false, false⟩,
            ⟨⟨some 20, Go.Op.move (Go.Operand.tmp 1), 23, none⟩, false, false, false⟩,
            ⟨⟨some 21, Go.Op.move (Go.Operand.tmp 5), 3, none⟩, false, false, false⟩,
            ⟨⟨some 22, Go.Op.indexAddr 23 (Go.Operand.tmp 20) (Go.Operand.tmp 21), 0, none⟩, false, false, false⟩,
            ⟨⟨some 23, Go.Op.load 48 (Go.Operand.tmp 22), 48, none⟩, false, false, false⟩,
            ⟨⟨some 24, Go.Op.binOp Go.BinOp.neq 48 (Go.Operand.tmp 19) (Go.Operand.tmp 23) 48, 4, none⟩, false, false, false⟩])
          (.cond (Go.Operand.tmp 24)
            (.seq (.region [⟨some 4, Go.Op.assign (Go.Operand.const (Go.Value.bool false)), 4, none⟩])
            .ret)
            .skip))))
        (.region [⟨some 25, Go.Op.binOp Go.BinOp.add 3 (Go.Operand.tmp 13) (Go.Operand.const (Go.Value.int Go.IntKind.i64 1)) 3, 3, none⟩,
          ⟨some 13, Go.Op.move (Go.Operand.tmp 25), 3, none⟩])))))))
    (.seq (.region [⟨some 4, Go.Op.assign (Go.Operand.const (Go.Value.bool true)), 4, none⟩])
    .ret)))) :=
  ⟨foll, Tryd.f36, Tryd.func36, by kernel_rfl, by kernel_rfl, by kernel_rfl, by rw [Tryd.ntmps36]; decide⟩

/-- narrator.pattern.items -/
theorem fn38 : FnIs Tryd.prog 38 1 [Go.ResultVar.tmp 2] (.seq (.region [⟨some 2, Go.Op.assign (Go.Operand.const (Go.Value.string { data := #[] })), 9, none⟩])
    (.seq (.region [⟨some 3, Go.Op.assign (Go.Operand.const (Go.Value.string { data := #[] })), 9, none⟩])
    (.seq (.seq (.region [⟨some 6, Go.Op.move (Go.Operand.tmp 0), 23, none⟩,
      ⟨some 7, Go.Op.call { callee := Go.Callee.builtin Go.Builtin.len, args := #[Go.Operand.tmp 6], argTypes := #[23] }, 3, none⟩,
      ⟨some 8, Go.Op.move (Go.Operand.const (Go.Value.int Go.IntKind.i64 0)), 3, none⟩])
    (.block 0
      (.loop
        (.seq (.region [⟨some 9, Go.Op.binOp Go.BinOp.lss 3 (Go.Operand.tmp 8) (Go.Operand.tmp 7) 3, 0, none⟩])
        (.seq (.cond (Go.Operand.tmp 9)
          .skip
          (.exit 0))
        (.seq (.block 1
          (.seq (.region [⟨some 10, Go.Op.indexAddr 23 (Go.Operand.tmp 6) (Go.Operand.tmp 8), 0, none⟩,
            ⟨some 11, Go.Op.load 48 (Go.Operand.tmp 10), 48, none⟩,
            ⟨some 5, Go.Op.alloc 48, 0, none⟩,
            ⟨none, Go.Op.store 48 (Go.Operand.tmp 5) (Go.Operand.tmp 11), 0, none⟩])
          (.seq (.region [⟨some 12, Go.Op.move (Go.Operand.tmp 3), 9, none⟩,
            ⟨some 13, Go.Op.fieldAddr 48 (Go.Operand.tmp 5) 0, 0, none⟩,
            ⟨some 14, Go.Op.load 21 (Go.Operand.tmp 13), 21, none⟩,
            ⟨some 15, Go.Op.call { callee := Go.Callee.value (Go.Operand.func 39), args := #[Go.Operand.tmp 14, Go.Operand.const (Go.Value.string { data := #[92, 93, 94, 45] })], argTypes := #[21, 9] }, 9, none⟩,
            ⟨some 16, Go.Op.binOp Go.BinOp.add 9 (Go.Operand.tmp 12) (Go.Operand.tmp 15) 9, 9, none⟩,
            ⟨some 3, Go.Op.assign (Go.Operand.tmp 16), 9, none⟩])
          (.seq (.region [⟨some 17, Go.Op.fieldAddr 48 (Go.Operand.tmp 5) 1, 0, none⟩,
            ⟨some 18, Go.Op.load 21 (Go.Operand.tmp 17), 21, none⟩,
            ⟨some 19, Go.Op.fieldAddr 48 (Go.Operand.tmp 5) 0, 0, none⟩,
            ⟨some 20, Go.Op.load 21 (Go.Operand.tmp 19), 21, none⟩,
            ⟨some 21, Go.Op.binOp Go.BinOp.gtr 21 (Go.Operand.tmp 18) (Go.Operand.tmp 20) 21, 4, none⟩])
          (.cond (Go.Operand.tmp 21)
            (.region [⟨some 22, Go.Op.move (Go.Operand.tmp 3), 9, none⟩,
              ⟨some 23, Go.Op.fieldAddr 48 (Go.Operand.tmp 5) 1, 0, none⟩,
              ⟨some 24, Go.Op.load 21 (Go.Operand.tmp 23), 21, none⟩,
              ⟨some 25, Go.Op.call { callee := Go.Callee.value (Go.Operand.func 39), args := #[Go.Operand.tmp 24, Go.Operand.const (Go.Value.string { data := #[92, 93, 94, 45] })], argTypes := #[21, 9] }, 9, none⟩,
              ⟨some 26, Go.Op.binOp Go.BinOp.add 9 (Go.Operand.const (Go.Value.string { data := #[45] })) (Go.Operand.tmp 25) 9, 9, none⟩,
              ⟨some 27, Go.Op.binOp Go.BinOp.add 9 (Go.Operand.tmp 22) (Go.Operand.tmp 26) 9, 9, none⟩,
              ⟨some 3, Go.Op.assign (Go.Operand.tmp 27), 9, none⟩])
            .skip)))))
        (.region [⟨some 28, Go.Op.binOp Go.BinOp.add 3 (Go.Operand.tmp 8) (Go.Operand.const (Go.Value.int Go.IntKind.i64 1)) 3, 3, none⟩,
          ⟨some 8, Go.Op.move (Go.Operand.tmp 28), 3, none⟩])))))))
    (.seq (.region [⟨some 29, Go.Op.move (Go.Operand.tmp 3), 9, none⟩,
      ⟨some 2, Go.Op.assign (Go.Operand.tmp 29), 9, none⟩])
    .ret)))) :=
  ⟨foll, Tryd.f38, Tryd.func38, by kernel_rfl, by kernel_rfl, by kernel_rfl, by rw [Tryd.ntmps38]; decide⟩

/-- narrator.pattern.escaped -/
theorem fn39 : FnIs Tryd.prog 39 2 [Go.ResultVar.tmp 4] (.seq (.region [⟨some 4, Go.Op.assign (Go.Operand.const (Go.Value.string { data := #[] })), 9, none⟩])
    (.seq (.seq (.region [⟨some 5, Go.Op.move (Go.Operand.tmp 1), 9, none⟩,
      ⟨some 6, Go.Op.move (Go.Operand.tmp 0), 21, none⟩,
      ⟨some 7, Go.Op.convert 21 9 (Go.Operand.tmp 6), 9, none⟩,
      ⟨some 8, Go.Op.call { callee := Go.Callee.value (Go.Operand.func 48), args := #[Go.Operand.tmp 5, Go.Operand.tmp 7], argTypes := #[9, 9] }, 4, none⟩])
    (.cond (Go.Operand.tmp 8)
      (.seq (.region [⟨some 9, Go.Op.move (Go.Operand.tmp 0), 21, none⟩,
        ⟨some 10, Go.Op.convert 21 9 (Go.Operand.tmp 9), 9, none⟩,
        ⟨some 11, Go.Op.binOp Go.BinOp.add 9 (Go.Operand.const (Go.Value.string { data := #[92] })) (Go.Operand.tmp 10) 9, 9, none⟩,
        ⟨some 4, Go.Op.assign (Go.Operand.tmp 11), 9, none⟩])
      .ret)
      .skip))
    (.seq (.region [⟨some 12, Go.Op.move (Go.Operand.tmp 0), 21, none⟩,
      ⟨some 13, Go.Op.convert 21 9 (Go.Operand.tmp 12), 9, none⟩,
      ⟨some 4, Go.Op.assign (Go.Operand.tmp 13), 9, none⟩])
    .ret))) :=
  ⟨foll, Tryd.f39, Tryd.func39, by kernel_rfl, by kernel_rfl, by kernel_rfl, by rw [Tryd.ntmps39]; decide⟩

end Go.Proofs.YtebejiilpedlmaaDoor
