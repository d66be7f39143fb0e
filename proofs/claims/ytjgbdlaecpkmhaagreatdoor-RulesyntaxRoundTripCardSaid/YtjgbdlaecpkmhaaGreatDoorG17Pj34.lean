/- The prepared code of further functions. Written by a program of mine (gen.py) out of what the loaded dump prints. -/
import Derived.Test.YtjgbdlaecpkmhaaGreatDoorG11Base34
set_option linter.unusedVariables false
set_option maxRecDepth 100000
namespace Go.Proofs.YtjgbdlaecpkmhaaGreatDoor
open Go Nv

/-- narrator.pattern.Parse -/
theorem fn46 : FnIs Tryz.prog 46 1 [Go.ResultVar.cell 2 78, Go.ResultVar.cell 3 24] (.seq (.region [⟨some 2, Go.Op.alloc 78, 0, none⟩,
      ⟨some 3, Go.Op.alloc 24, 0, none⟩])
    (.seq (.seq (.region [⟨some 5, Go.Op.move (Go.Operand.tmp 0), 9, none⟩,
      ⟨some 6, Go.Op.call { callee := Go.Callee.builtin Go.Builtin.len, args := #[Go.Operand.tmp 5], argTypes := #[9] }, 3, none⟩,
      ⟨some 7, Go.Op.binOp Go.BinOp.gtr 3 (Go.Operand.tmp 6) (Go.Operand.const (Go.Value.int Go.IntKind.i64 60)) 3, 4, none⟩])
    (.cond (Go.Operand.tmp 7)
      (.seq (.region [⟨some 8, Go.Op.build 78 #[], 78, none⟩,
        ⟨none, Go.Op.store 78 (Go.Operand.tmp 2) (Go.Operand.tmp 8), 0, none⟩,
        ⟨none, Go.Op.store 24 (Go.Operand.tmp 3) (Go.Operand.const (Go.Value.int Go.IntKind.i64 5)), 0, none⟩])
      .ret)
      .skip))
    (.seq (.seq (.region [⟨some 9, Go.Op.move (Go.Operand.tmp 0), 9, none⟩,
      ⟨some 10, Go.Op.call { callee := Go.Callee.value (Go.Operand.func 63), args := #[Go.Operand.tmp 9], argTypes := #[9] }, 4, none⟩,
      ⟨some 11, Go.Op.unOp Go.UnOp.not 4 (Go.Operand.tmp 10), 4, none⟩])
    (.cond (Go.Operand.tmp 11)
      (.seq (.region [⟨some 12, Go.Op.build 78 #[], 78, none⟩,
        ⟨none, Go.Op.store 78 (Go.Operand.tmp 2) (Go.Operand.tmp 12), 0, none⟩,
        ⟨none, Go.Op.store 24 (Go.Operand.tmp 3) (Go.Operand.const (Go.Value.int Go.IntKind.i64 3)), 0, none⟩])
      .ret)
      .skip))
    (.seq (.region [⟨some 13, Go.Op.makeFunc (Go.Fn.func 64) #[] #[Go.Operand.tmp 2, Go.Operand.tmp 3], 1, none⟩,
      ⟨none, Go.Op.defer { callee := Go.Callee.value (Go.Operand.tmp 13), args := #[], argTypes := #[] }, 0, none⟩])
    (.seq (.region [⟨some 14, Go.Op.move (Go.Operand.tmp 0), 9, none⟩,
      ⟨some 15, Go.Op.convert 9 101 (Go.Operand.tmp 14), 101, none⟩,
      ⟨some 16, Go.Op.build 103 #[(0, Go.Operand.tmp 15)], 103, none⟩,
      ⟨some 17, Go.Op.box 103 (Go.Operand.tmp 16), 100, none⟩,
      ⟨some 4, Go.Op.assign (Go.Operand.tmp 17), 100, none⟩])
    (.seq (.region [⟨some 18, Go.Op.move (Go.Operand.tmp 4), 100, none⟩,
      ⟨some 19, Go.Op.call { callee := Go.Callee.value (Go.Operand.func 65), args := #[Go.Operand.tmp 18], argTypes := #[100] }, 78, none⟩,
      ⟨none, Go.Op.store 78 (Go.Operand.tmp 2) (Go.Operand.tmp 19), 0, none⟩])
    (.seq (.seq (.region [⟨some 20, Go.Op.move (Go.Operand.tmp 4), 100, none⟩,
      ⟨some 21, Go.Op.call { callee := Go.Callee.value (Go.Operand.func 66), args := #[Go.Operand.tmp 20], argTypes := #[100] }, 21, none⟩,
      ⟨some 22, Go.Op.binOp Go.BinOp.geq 21 (Go.Operand.tmp 21) (Go.Operand.const (Go.Value.int Go.IntKind.i32 0)) 21, 4, none⟩])
    (.cond (Go.Operand.tmp 22)
      (.region [⟨some 23, Go.Op.build 98 #[], 98, none⟩,
        ⟨some 24, Go.Op.makeInterface 98 (Go.Operand.tmp 23), 20, none⟩,
        ⟨none, Go.Op.panic (Go.Operand.tmp 24), 0, none⟩])
      .skip))
    (.seq (.region [⟨some 25, Go.Op.load 78 (Go.Operand.tmp 2), 78, none⟩,
      ⟨none, Go.Op.store 78 (Go.Operand.tmp 2) (Go.Operand.tmp 25), 0, none⟩,
      ⟨none, Go.Op.store 24 (Go.Operand.tmp 3) (Go.Operand.const (Go.Value.int Go.IntKind.i64 0)), 0, none⟩])
    .ret)))))))) :=
  ⟨foll, Tryz.f46, Tryz.func46, by kernel_rfl, by kernel_rfl, by kernel_rfl, by rw [Tryz.ntmps46]; decide⟩

/-- narrator.pattern.Parse$1 -/
theorem fn64 : FnIs Tryz.prog 64 2 [] (.seq (.region [⟨some 5, Go.Op.call { callee := Go.Callee.builtin Go.Builtin.recover, args := #[], argTypes := #[] }, 20, none⟩,
      ⟨some 2, Go.Op.assign (Go.Operand.tmp 5), 20, none⟩])
    (.seq (.region [⟨some 6, Go.Op.move (Go.Operand.tmp 2), 20, none⟩,
      ⟨some 7, Go.Op.binOp Go.BinOp.neq 20 (Go.Operand.tmp 6) (Go.Operand.const Go.Value.nilIface) 20, 4, none⟩])
    (.cond (Go.Operand.tmp 7)
      (.seq (.seq (.region [⟨some 9, Go.Op.move (Go.Operand.tmp 2), 20, none⟩,
        ⟨some 10, Go.Op.typeAssert (Go.Operand.tmp 9) 20 98 true, 99, none⟩,
        ⟨some 8, Go.Op.move (Go.Operand.tmp 10), 99, none⟩,
        ⟨some 11, Go.Op.extract (Go.Operand.tmp 8) 0, 98, none⟩,
        ⟨some 12, Go.Op.extract (Go.Operand.tmp 8) 1, 4, none⟩,
        ⟨some 3, Go.Op.alloc 98, 0, none⟩,
        ⟨none, Go.Op.store 98 (Go.Operand.tmp 3) (Go.Operand.tmp 11), 0, none⟩,
        ⟨some 4, Go.Op.assign (Go.Operand.tmp 12), 4, none⟩])
      (.seq (.region [⟨some 13, Go.Op.move (Go.Operand.tmp 4), 4, none⟩,
        ⟨some 14, Go.Op.unOp Go.UnOp.not 4 (Go.Operand.tmp 13), 4, none⟩])
      (.cond (Go.Operand.tmp 14)
        (.region [⟨some 15, Go.Op.move (Go.Operand.tmp 2), 20, none⟩,
          ⟨none, Go.Op.panic (Go.Operand.tmp 15), 0, none⟩])
        .skip)))
      (.region [⟨some 16, Go.Op.build 78 #[], 78, none⟩,
        ⟨none, Go.Op.store 78 (Go.Operand.tmp 0) (Go.Operand.tmp 16), 0, none⟩,
        ⟨none, Go.Op.store 24 (Go.Operand.tmp 1) (Go.Operand.const (Go.Value.int Go.IntKind.i64 3)), 0, none⟩]))
      .skip))) :=
  ⟨foll, Tryz.f64, Tryz.func64, by kernel_rfl, by kernel_rfl, by kernel_rfl, by rw [Tryz.ntmps64]; decide⟩

/-- (*narrator.pattern.parser).choice -/
theorem fn65 : FnIs Tryz.prog 65 1 [Go.ResultVar.cell 2 78] (.seq (.region [⟨some 2, Go.Op.alloc 78, 0, none⟩])
    (.seq (.region [⟨some 4, Go.Op.move (Go.Operand.tmp 0), 100, none⟩,
      ⟨some 5, Go.Op.call { callee := Go.Callee.value (Go.Operand.func 83), args := #[Go.Operand.tmp 4], argTypes := #[100] }, 78, none⟩,
      ⟨some 6, Go.Op.buildSlice 76 1 #[(0, Go.Operand.tmp 5)], 76, none⟩,
      ⟨some 3, Go.Op.assign (Go.Operand.tmp 6), 76, none⟩])
    (.seq (.block 0
      (.loop
        (.seq (.seq (.region [⟨some 7, Go.Op.move (Go.Operand.tmp 0), 100, none⟩,
          ⟨some 8, Go.Op.call { callee := Go.Callee.value (Go.Operand.func 84), args := #[Go.Operand.tmp 7, Go.Operand.const (Go.Value.int Go.IntKind.i32 124)], argTypes := #[100, 21] }, 4, none⟩])
        (.cond (Go.Operand.tmp 8)
          .skip
          (.exit 0)))
        (.block 1
          (.region [⟨some 9, Go.Op.move (Go.Operand.tmp 3), 76, none⟩,
            ⟨some 10, Go.Op.move (Go.Operand.tmp 0), 100, none⟩,
            ⟨some 11, Go.Op.call { callee := Go.Callee.value (Go.Operand.func 83), args := #[Go.Operand.tmp 10], argTypes := #[100] }, 78, none⟩,
            ⟨some 12, Go.Op.buildSlice 76 1 #[(0, Go.Operand.tmp 11)], 76, none⟩,
            ⟨some 13, Go.Op.call { callee := Go.Callee.builtin Go.Builtin.append, args := #[Go.Operand.tmp 9, Go.Operand.tmp 12], argTypes := #[76, 76] }, 76, none⟩,
            ⟨some 3, Go.Op.assign (Go.Operand.tmp 13), 76, none⟩])))))
    (.seq (.seq (.region [⟨some 14, Go.Op.move (Go.Operand.tmp 3), 76, none⟩,
      ⟨some 15, Go.Op.call { callee := Go.Callee.builtin Go.Builtin.len, args := #[Go.Operand.tmp 14], argTypes := #[76] }, 3, none⟩,
      ⟨some 16, Go.Op.binOp Go.BinOp.eql 3 (Go.Operand.tmp 15) (Go.Operand.const (Go.Value.int Go.IntKind.i64 1)) 3, 4, none⟩])
    (.cond (Go.Operand.tmp 16)
      (.seq (.region [⟨some 17, Go.Op.move (Go.Operand.tmp 3), 76, none⟩,
        ⟨some 18, Go.Op.indexAddr 76 (Go.Operand.tmp 17) (Go.Operand.const (Go.Value.int Go.IntKind.i64 0)), 0, none⟩,
        ⟨some 19, Go.Op.load 78 (Go.Operand.tmp 18), 78, none⟩,
        ⟨none, Go.Op.store 78 (Go.Operand.tmp 2) (Go.Operand.tmp 19), 0, none⟩])
      .ret)
      .skip))
    (.seq (.region [⟨some 20, Go.Op.move (Go.Operand.tmp 3), 76, none⟩,
      ⟨some 21, Go.Op.build 78 #[(0, Go.Operand.const (Go.Value.int Go.IntKind.i64 4)), (2, Go.Operand.tmp 20)], 78, none⟩,
      ⟨none, Go.Op.store 78 (Go.Operand.tmp 2) (Go.Operand.tmp 21), 0, none⟩])
    .ret))))) :=
  ⟨foll, Tryz.f65, Tryz.func65, by kernel_rfl, by kernel_rfl, by kernel_rfl, by rw [Tryz.ntmps65]; decide⟩

/-- (*narrator.pattern.parser).peek -/
theorem fn66 : FnIs Tryz.prog 66 1 [Go.ResultVar.tmp 2] (.seq (.region [⟨some 2, Go.Op.assign (Go.Operand.const (Go.Value.int Go.IntKind.i32 0)), 21, none⟩])
    (.seq (.seq (.draw [⟨⟨some 3, Go.Op.move (Go.Operand.tmp 0), 100, none⟩, false, false, false⟩,
      ⟨⟨some 4, Go.Op.nilCheck (Go.Operand.tmp 3), 0, none⟩, false, false, false⟩,
      ⟨⟨some 5, Go.Op.fieldAddr 103 (Go.Operand.tmp 4) 1, 0, none⟩, false, false, false⟩,
      ⟨⟨some 6, Go.Op.load 3 (Go.Operand.tmp 5), 3, none⟩, false, false, false⟩,
      ⟨⟨some 7, Go.Op.move (Go.Operand.tmp 0), 100, none⟩, false, false, false⟩,
      ⟨⟨some 8, Go.Op.nilCheck (Go.Operand.tmp 7), 0, none⟩, false, false, false⟩,
      ⟨⟨some 9, Go.Op.fieldAddr 103 (Go.Operand.tmp 8) 0, 0, none⟩, false, false, false⟩,
      ⟨⟨some 10, Go.Op.load 101 (Go.Operand.tmp 9), 101, none⟩, false, false, false⟩,
      ⟨⟨some 11, Go.Op.call { callee := Go.Callee.builtin Go.Builtin.len, args := #[Go.Operand.tmp 10], argTypes := #[101] }, 3, none⟩, false, false, false⟩,
      ⟨⟨some 12, Go.Op.binOp Go.BinOp.lss 3 (Go.Operand.tmp 6) (Go.Operand.tmp 11) 3, 4, none⟩, false, false, false⟩])
    (.cond (Go.Operand.tmp 12)
      (.seq (.draw [⟨⟨some 13, Go.Op.move (Go.Operand.tmp 0), 100, none⟩, false, false, false⟩,
        ⟨⟨some 14, Go.Op.nilCheck (Go.Operand.tmp 13), 0, none⟩, false, false, false⟩,
        ⟨⟨some 15, Go.Op.fieldAddr 103 (Go.Operand.tmp 14) 0, 0, none⟩, false, false, false⟩,
        ⟨⟨some 16, Go.Op.load 101 (Go.Operand.tmp 15), 101, none⟩, false, false, false⟩,
        ⟨⟨some 17, Go.Op.move (Go.Operand.tmp 0), 100, none⟩, false, false, false⟩,
        ⟨⟨some 18, Go.Op.nilCheck (Go.Operand.tmp 17), 0, none⟩, false, false, false⟩,
        ⟨⟨some 19, Go.Op.fieldAddr 103 (Go.Operand.tmp 18) 1, 0, none⟩, false, false, false⟩,
        ⟨⟨some 20, Go.Op.load 3 (Go.Operand.tmp 19), 3, none⟩, false, false, false⟩,
        ⟨⟨some 21, Go.Op.indexAddr 101 (Go.Operand.tmp 16) (Go.Operand.tmp 20), 0, none⟩, false, false, false⟩,
        ⟨⟨some 22, Go.Op.load 21 (Go.Operand.tmp 21), 21, none⟩, false, false, false⟩,
        ⟨⟨some 2, Go.Op.assign (Go.Operand.tmp 22), 21, none⟩, false, false, false⟩])
      .ret)
      .skip))
    (.seq (.region [⟨some 2, Go.Op.assign (Go.Operand.const (Go.Value.int Go.IntKind.i32 (-1))), 21, none⟩])
    .ret))) :=
  ⟨foll, Tryz.f66, Tryz.func66, by kernel_rfl, by kernel_rfl, by kernel_rfl, by rw [Tryz.ntmps66]; decide⟩

/-- (*narrator.pattern.parser).join -/
theorem fn83 : FnIs Tryz.prog 83 1 [Go.ResultVar.cell 2 78] (.seq (.region [⟨some 2, Go.Op.alloc 78, 0, none⟩])
    (.seq (.region [⟨some 3, Go.Op.assign (Go.Operand.const (Go.Value.slice none 0 0)), 76, none⟩])
    (.seq (.block 0
      (.loop
        (.seq (.seq (.region [⟨some 4, Go.Op.move (Go.Operand.tmp 0), 100, none⟩,
          ⟨some 5, Go.Op.call { callee := Go.Callee.value (Go.Operand.func 66), args := #[Go.Operand.tmp 4], argTypes := #[100] }, 21, none⟩,
          ⟨some 6, Go.Op.binOp Go.BinOp.geq 21 (Go.Operand.tmp 5) (Go.Operand.const (Go.Value.int Go.IntKind.i32 0)) 21, 4, none⟩,
          ⟨some 7, Go.Op.move (Go.Operand.tmp 6), 4, none⟩,
          ⟨some 8, Go.Op.move (Go.Operand.tmp 0), 100, (some (7, true))⟩,
          ⟨some 9, Go.Op.call { callee := Go.Callee.value (Go.Operand.func 66), args := #[Go.Operand.tmp 8], argTypes := #[100] }, 21, (some (7, true))⟩,
          ⟨some 10, Go.Op.binOp Go.BinOp.neq 21 (Go.Operand.tmp 9) (Go.Operand.const (Go.Value.int Go.IntKind.i32 124)) 21, 4, (some (7, true))⟩,
          ⟨some 11, Go.Op.pick (Go.Operand.tmp 7) (Go.Operand.tmp 10) (Go.Operand.const (Go.Value.bool false)), 4, none⟩,
          ⟨some 12, Go.Op.move (Go.Operand.tmp 11), 4, none⟩,
          ⟨some 13, Go.Op.move (Go.Operand.tmp 0), 100, (some (12, true))⟩,
          ⟨some 14, Go.Op.call { callee := Go.Callee.value (Go.Operand.func 66), args := #[Go.Operand.tmp 13], argTypes := #[100] }, 21, (some (12, true))⟩,
          ⟨some 15, Go.Op.binOp Go.BinOp.neq 21 (Go.Operand.tmp 14) (Go.Operand.const (Go.Value.int Go.IntKind.i32 41)) 21, 4, (some (12, true))⟩,
          ⟨some 16, Go.Op.pick (Go.Operand.tmp 12) (Go.Operand.tmp 15) (Go.Operand.const (Go.Value.bool false)), 4, none⟩])
        (.cond (Go.Operand.tmp 16)
          .skip
          (.exit 0)))
        (.block 1
          (.region [⟨some 17, Go.Op.move (Go.Operand.tmp 3), 76, none⟩,
            ⟨some 18, Go.Op.move (Go.Operand.tmp 0), 100, none⟩,
            ⟨some 19, Go.Op.call { callee := Go.Callee.value (Go.Operand.func 97), args := #[Go.Operand.tmp 18], argTypes := #[100] }, 78, none⟩,
            ⟨some 20, Go.Op.buildSlice 76 1 #[(0, Go.Operand.tmp 19)], 76, none⟩,
            ⟨some 21, Go.Op.call { callee := Go.Callee.builtin Go.Builtin.append, args := #[Go.Operand.tmp 17, Go.Operand.tmp 20], argTypes := #[76, 76] }, 76, none⟩,
            ⟨some 3, Go.Op.assign (Go.Operand.tmp 21), 76, none⟩])))))
    (.seq (.seq (.region [⟨some 22, Go.Op.move (Go.Operand.tmp 3), 76, none⟩,
      ⟨some 23, Go.Op.call { callee := Go.Callee.builtin Go.Builtin.len, args := #[Go.Operand.tmp 22], argTypes := #[76] }, 3, none⟩])
    (.block 2
      (.seq (.region [⟨some 25, Go.Op.binOp Go.BinOp.eql 3 (Go.Operand.tmp 23) (Go.Operand.const (Go.Value.int Go.IntKind.i64 0)) 3, 4, none⟩,
        ⟨some 24, Go.Op.assign (Go.Operand.tmp 25), 4, none⟩])
      (.cond (Go.Operand.tmp 24)
        (.seq (.region [⟨some 26, Go.Op.build 78 #[(0, Go.Operand.const (Go.Value.int Go.IntKind.i64 1))], 78, none⟩,
          ⟨none, Go.Op.store 78 (Go.Operand.tmp 2) (Go.Operand.tmp 26), 0, none⟩])
        .ret)
        (.seq (.region [⟨some 28, Go.Op.binOp Go.BinOp.eql 3 (Go.Operand.tmp 23) (Go.Operand.const (Go.Value.int Go.IntKind.i64 1)) 3, 4, none⟩,
          ⟨some 27, Go.Op.assign (Go.Operand.tmp 28), 4, none⟩])
        (.cond (Go.Operand.tmp 27)
          (.seq (.region [⟨some 29, Go.Op.move (Go.Operand.tmp 3), 76, none⟩,
            ⟨some 30, Go.Op.indexAddr 76 (Go.Operand.tmp 29) (Go.Operand.const (Go.Value.int Go.IntKind.i64 0)), 0, none⟩,
            ⟨some 31, Go.Op.load 78 (Go.Operand.tmp 30), 78, none⟩,
            ⟨none, Go.Op.store 78 (Go.Operand.tmp 2) (Go.Operand.tmp 31), 0, none⟩])
          .ret)
          .skip))))))
    (.seq (.region [⟨some 32, Go.Op.move (Go.Operand.tmp 3), 76, none⟩,
      ⟨some 33, Go.Op.build 78 #[(0, Go.Operand.const (Go.Value.int Go.IntKind.i64 3)), (2, Go.Operand.tmp 32)], 78, none⟩,
      ⟨none, Go.Op.store 78 (Go.Operand.tmp 2) (Go.Operand.tmp 33), 0, none⟩])
    .ret))))) :=
  ⟨foll, Tryz.f83, Tryz.func83, by kernel_rfl, by kernel_rfl, by kernel_rfl, by rw [Tryz.ntmps83]; decide⟩

/-- (*narrator.pattern.parser).skip -/
theorem fn84 : FnIs Tryz.prog 84 2 [Go.ResultVar.tmp 4] (.seq (.region [⟨some 4, Go.Op.assign (Go.Operand.const (Go.Value.bool false)), 4, none⟩])
    (.seq (.seq (.region [⟨some 5, Go.Op.move (Go.Operand.tmp 0), 100, none⟩,
      ⟨some 6, Go.Op.call { callee := Go.Callee.value (Go.Operand.func 66), args := #[Go.Operand.tmp 5], argTypes := #[100] }, 21, none⟩,
      ⟨some 7, Go.Op.move (Go.Operand.tmp 1), 21, none⟩,
      ⟨some 8, Go.Op.binOp Go.BinOp.neq 21 (Go.Operand.tmp 6) (Go.Operand.tmp 7) 21, 4, none⟩])
    (.cond (Go.Operand.tmp 8)
      (.seq (.region [⟨some 4, Go.Op.assign (Go.Operand.const (Go.Value.bool false)), 4, none⟩])
      .ret)
      .skip))
    (.seq (.region [⟨some 9, Go.Op.move (Go.Operand.tmp 0), 100, none⟩,
      ⟨some 10, Go.Op.nilCheck (Go.Operand.tmp 9), 0, none⟩,
      ⟨some 11, Go.Op.fieldAddr 103 (Go.Operand.tmp 10) 1, 0, none⟩,
      ⟨some 12, Go.Op.load 3 (Go.Operand.tmp 11), 3, none⟩,
      ⟨some 13, Go.Op.binOp Go.BinOp.add 3 (Go.Operand.tmp 12) (Go.Operand.const (Go.Value.int Go.IntKind.i64 1)) 3, 3, none⟩,
      ⟨some 14, Go.Op.nilCheck (Go.Operand.tmp 9), 0, none⟩,
      ⟨some 15, Go.Op.fieldAddr 103 (Go.Operand.tmp 14) 1, 0, none⟩,
      ⟨none, Go.Op.store 3 (Go.Operand.tmp 15) (Go.Operand.tmp 13), 0, none⟩])
    (.seq (.region [⟨some 4, Go.Op.assign (Go.Operand.const (Go.Value.bool true)), 4, none⟩])
    .ret)))) :=
  ⟨foll, Tryz.f84, Tryz.func84, by kernel_rfl, by kernel_rfl, by kernel_rfl, by rw [Tryz.ntmps84]; decide⟩

/-- (*narrator.pattern.parser).repeat -/
theorem fn97 : FnIs Tryz.prog 97 1 [Go.ResultVar.cell 2 78] (.seq (.region [⟨some 2, Go.Op.alloc 78, 0, none⟩])
    (.seq (.region [⟨some 4, Go.Op.move (Go.Operand.tmp 0), 100, none⟩,
      ⟨some 5, Go.Op.call { callee := Go.Callee.value (Go.Operand.func 108), args := #[Go.Operand.tmp 4], argTypes := #[100] }, 78, none⟩,
      ⟨some 6, Go.Op.buildSlice 76 1 #[(0, Go.Operand.tmp 5)], 76, none⟩,
      ⟨some 7, Go.Op.build 78 #[(0, Go.Operand.const (Go.Value.int Go.IntKind.i64 5)), (2, Go.Operand.tmp 6), (4, Go.Operand.const (Go.Value.int Go.IntKind.i64 (-1)))], 78, none⟩,
      ⟨some 3, Go.Op.alloc 78, 0, none⟩,
      ⟨none, Go.Op.store 78 (Go.Operand.tmp 3) (Go.Operand.tmp 7), 0, none⟩])
    (.seq (.block 0
      (.seq (.region [⟨some 13, Go.Op.move (Go.Operand.tmp 0), 100, none⟩,
        ⟨some 14, Go.Op.call { callee := Go.Callee.value (Go.Operand.func 84), args := #[Go.Operand.tmp 13, Go.Operand.const (Go.Value.int Go.IntKind.i32 42)], argTypes := #[100, 21] }, 4, none⟩,
        ⟨some 12, Go.Op.assign (Go.Operand.tmp 14), 4, none⟩])
      (.cond (Go.Operand.tmp 12)
        .skip
        (.seq (.region [⟨some 16, Go.Op.move (Go.Operand.tmp 0), 100, none⟩,
          ⟨some 17, Go.Op.call { callee := Go.Callee.value (Go.Operand.func 84), args := #[Go.Operand.tmp 16, Go.Operand.const (Go.Value.int Go.IntKind.i32 43)], argTypes := #[100, 21] }, 4, none⟩,
          ⟨some 15, Go.Op.assign (Go.Operand.tmp 17), 4, none⟩])
        (.cond (Go.Operand.tmp 15)
          (.region [⟨some 18, Go.Op.fieldAddr 78 (Go.Operand.tmp 3) 3, 0, none⟩,
            ⟨none, Go.Op.store 3 (Go.Operand.tmp 18) (Go.Operand.const (Go.Value.int Go.IntKind.i64 1)), 0, none⟩])
          (.seq (.region [⟨some 20, Go.Op.move (Go.Operand.tmp 0), 100, none⟩,
            ⟨some 21, Go.Op.call { callee := Go.Callee.value (Go.Operand.func 84), args := #[Go.Operand.tmp 20, Go.Operand.const (Go.Value.int Go.IntKind.i32 63)], argTypes := #[100, 21] }, 4, none⟩,
            ⟨some 19, Go.Op.assign (Go.Operand.tmp 21), 4, none⟩])
          (.cond (Go.Operand.tmp 19)
            (.region [⟨some 22, Go.Op.fieldAddr 78 (Go.Operand.tmp 3) 4, 0, none⟩,
              ⟨none, Go.Op.store 3 (Go.Operand.tmp 22) (Go.Operand.const (Go.Value.int Go.IntKind.i64 1)), 0, none⟩])
            (.seq (.region [⟨some 24, Go.Op.move (Go.Operand.tmp 0), 100, none⟩,
              ⟨some 25, Go.Op.call { callee := Go.Callee.value (Go.Operand.func 84), args := #[Go.Operand.tmp 24, Go.Operand.const (Go.Value.int Go.IntKind.i32 123)], argTypes := #[100, 21] }, 4, none⟩,
              ⟨some 23, Go.Op.assign (Go.Operand.tmp 25), 4, none⟩])
            (.cond (Go.Operand.tmp 23)
              (.seq (.region [⟨some 26, Go.Op.move (Go.Operand.tmp 0), 100, none⟩,
                ⟨some 27, Go.Op.call { callee := Go.Callee.value (Go.Operand.func 109), args := #[Go.Operand.tmp 26], argTypes := #[100] }, 3, none⟩,
                ⟨some 28, Go.Op.fieldAddr 78 (Go.Operand.tmp 3) 3, 0, none⟩,
                ⟨none, Go.Op.store 3 (Go.Operand.tmp 28) (Go.Operand.tmp 27), 0, none⟩])
              (.seq (.region [⟨some 29, Go.Op.fieldAddr 78 (Go.Operand.tmp 3) 3, 0, none⟩,
                ⟨some 30, Go.Op.load 3 (Go.Operand.tmp 29), 3, none⟩,
                ⟨some 31, Go.Op.fieldAddr 78 (Go.Operand.tmp 3) 4, 0, none⟩,
                ⟨none, Go.Op.store 3 (Go.Operand.tmp 31) (Go.Operand.tmp 30), 0, none⟩])
              (.seq (.seq (.region [⟨some 32, Go.Op.move (Go.Operand.tmp 0), 100, none⟩,
                ⟨some 33, Go.Op.call { callee := Go.Callee.value (Go.Operand.func 84), args := #[Go.Operand.tmp 32, Go.Operand.const (Go.Value.int Go.IntKind.i32 44)], argTypes := #[100, 21] }, 4, none⟩])
              (.cond (Go.Operand.tmp 33)
                (.seq (.region [⟨some 34, Go.Op.fieldAddr 78 (Go.Operand.tmp 3) 4, 0, none⟩,
                  ⟨none, Go.Op.store 3 (Go.Operand.tmp 34) (Go.Operand.const (Go.Value.int Go.IntKind.i64 (-1))), 0, none⟩])
                (.seq (.region [⟨some 35, Go.Op.move (Go.Operand.tmp 0), 100, none⟩,
                  ⟨some 36, Go.Op.call { callee := Go.Callee.value (Go.Operand.func 66), args := #[Go.Operand.tmp 35], argTypes := #[100] }, 21, none⟩,
                  ⟨some 37, Go.Op.binOp Go.BinOp.neq 21 (Go.Operand.tmp 36) (Go.Operand.const (Go.Value.int Go.IntKind.i32 125)) 21, 4, none⟩])
                (.cond (Go.Operand.tmp 37)
                  (.region [⟨some 38, Go.Op.move (Go.Operand.tmp 0), 100, none⟩,
                    ⟨some 39, Go.Op.call { callee := Go.Callee.value (Go.Operand.func 109), args := #[Go.Operand.tmp 38], argTypes := #[100] }, 3, none⟩,
                    ⟨some 40, Go.Op.fieldAddr 78 (Go.Operand.tmp 3) 4, 0, none⟩,
                    ⟨none, Go.Op.store 3 (Go.Operand.tmp 40) (Go.Operand.tmp 39), 0, none⟩])
                  .skip)))
                .skip))
              (.seq (.region [⟨some 41, Go.Op.move (Go.Operand.tmp 0), 100, none⟩,
                ⟨some 42, Go.Op.call { callee := Go.Callee.value (Go.Operand.func 110), args := #[Go.Operand.tmp 41, Go.Operand.const (Go.Value.int Go.IntKind.i32 125)], argTypes := #[100, 21] }, 0, none⟩])
              (.seq (.region [⟨some 43, Go.Op.fieldAddr 78 (Go.Operand.tmp 3) 4, 0, none⟩,
                ⟨some 44, Go.Op.load 3 (Go.Operand.tmp 43), 3, none⟩,
                ⟨some 45, Go.Op.binOp Go.BinOp.geq 3 (Go.Operand.tmp 44) (Go.Operand.const (Go.Value.int Go.IntKind.i64 0)) 3, 4, none⟩,
                ⟨some 46, Go.Op.move (Go.Operand.tmp 45), 4, none⟩,
                ⟨some 47, Go.Op.fieldAddr 78 (Go.Operand.tmp 3) 4, 0, (some (46, true))⟩,
                ⟨some 48, Go.Op.load 3 (Go.Operand.tmp 47), 3, (some (46, true))⟩,
                ⟨some 49, Go.Op.fieldAddr 78 (Go.Operand.tmp 3) 3, 0, (some (46, true))⟩,
                ⟨some 50, Go.Op.load 3 (Go.Operand.tmp 49), 3, (some (46, true))⟩,
                ⟨some 51, Go.Op.binOp Go.BinOp.lss 3 (Go.Operand.tmp 48) (Go.Operand.tmp 50) 3, 4, (some (46, true))⟩,
                ⟨some 52, Go.Op.pick (Go.Operand.tmp 46) (Go.Operand.tmp 51) (Go.Operand.const (Go.Value.bool false)), 4, none⟩])
              (.cond (Go.Operand.tmp 52)
                (.region [⟨some 53, Go.Op.build 98 #[], 98, none⟩,
                  ⟨some 54, Go.Op.makeInterface 98 (Go.Operand.tmp 53), 20, none⟩,
                  ⟨none, Go.Op.panic (Go.Operand.tmp 54), 0, none⟩])
                .skip))))))
              (.seq (.region [⟨some 8, Go.Op.fieldAddr 78 (Go.Operand.tmp 3) 2, 0, none⟩,
                ⟨some 9, Go.Op.load 76 (Go.Operand.tmp 8), 76, none⟩,
                ⟨some 10, Go.Op.indexAddr 76 (Go.Operand.tmp 9) (Go.Operand.const (Go.Value.int Go.IntKind.i64 0)), 0, none⟩,
                ⟨some 11, Go.Op.load 78 (Go.Operand.tmp 10), 78, none⟩,
                ⟨none, Go.Op.store 78 (Go.Operand.tmp 2) (Go.Operand.tmp 11), 0, none⟩])
              .ret))))))))))
    (.seq (.region [⟨some 55, Go.Op.load 78 (Go.Operand.tmp 3), 78, none⟩,
      ⟨none, Go.Op.store 78 (Go.Operand.tmp 2) (Go.Operand.tmp 55), 0, none⟩])
    .ret)))) :=
  ⟨foll, Tryz.f97, Tryz.func97, by kernel_rfl, by kernel_rfl, by kernel_rfl, by rw [Tryz.ntmps97]; decide⟩

/-- (*narrator.pattern.parser).atom -/
theorem fn108 : FnIs Tryz.prog 108 1 [Go.ResultVar.cell 2 78] (.seq (.region [⟨some 2, Go.Op.alloc 78, 0, none⟩])
    (.seq (.region [⟨some 5, Go.Op.move (Go.Operand.tmp 0), 100, none⟩,
      ⟨some 6, Go.Op.call { callee := Go.Callee.value (Go.Operand.func 115), args := #[Go.Operand.tmp 5], argTypes := #[100] }, 21, none⟩,
      ⟨some 3, Go.Op.assign (Go.Operand.tmp 6), 21, none⟩])
    (.seq (.block 0
      (.seq (.region [⟨some 8, Go.Op.move (Go.Operand.tmp 3), 21, none⟩,
        ⟨some 9, Go.Op.binOp Go.BinOp.eql 21 (Go.Operand.tmp 8) (Go.Operand.const (Go.Value.int Go.IntKind.i32 40)) 21, 4, none⟩,
        ⟨some 7, Go.Op.assign (Go.Operand.tmp 9), 4, none⟩])
      (.cond (Go.Operand.tmp 7)
        (.seq (.region [⟨some 10, Go.Op.move (Go.Operand.tmp 0), 100, none⟩,
          ⟨some 11, Go.Op.call { callee := Go.Callee.value (Go.Operand.func 65), args := #[Go.Operand.tmp 10], argTypes := #[100] }, 78, none⟩,
          ⟨some 4, Go.Op.alloc 78, 0, none⟩,
          ⟨none, Go.Op.store 78 (Go.Operand.tmp 4) (Go.Operand.tmp 11), 0, none⟩])
        (.seq (.region [⟨some 12, Go.Op.move (Go.Operand.tmp 0), 100, none⟩,
          ⟨some 13, Go.Op.call { callee := Go.Callee.value (Go.Operand.func 110), args := #[Go.Operand.tmp 12, Go.Operand.const (Go.Value.int Go.IntKind.i32 41)], argTypes := #[100, 21] }, 0, none⟩])
        (.seq (.region [⟨some 14, Go.Op.load 78 (Go.Operand.tmp 4), 78, none⟩,
          ⟨none, Go.Op.store 78 (Go.Operand.tmp 2) (Go.Operand.tmp 14), 0, none⟩])
        .ret)))
        (.seq (.region [⟨some 16, Go.Op.move (Go.Operand.tmp 3), 21, none⟩,
          ⟨some 17, Go.Op.binOp Go.BinOp.eql 21 (Go.Operand.tmp 16) (Go.Operand.const (Go.Value.int Go.IntKind.i32 46)) 21, 4, none⟩,
          ⟨some 15, Go.Op.assign (Go.Operand.tmp 17), 4, none⟩])
        (.cond (Go.Operand.tmp 15)
          (.seq (.region [⟨some 18, Go.Op.call { callee := Go.Callee.value (Go.Operand.func 116), args := #[], argTypes := #[] }, 75, none⟩,
            ⟨some 19, Go.Op.build 78 #[(0, Go.Operand.const (Go.Value.int Go.IntKind.i64 2)), (1, Go.Operand.tmp 18)], 78, none⟩,
            ⟨none, Go.Op.store 78 (Go.Operand.tmp 2) (Go.Operand.tmp 19), 0, none⟩])
          .ret)
          (.seq (.region [⟨some 21, Go.Op.move (Go.Operand.tmp 3), 21, none⟩,
            ⟨some 22, Go.Op.binOp Go.BinOp.eql 21 (Go.Operand.tmp 21) (Go.Operand.const (Go.Value.int Go.IntKind.i32 91)) 21, 4, none⟩,
            ⟨some 20, Go.Op.assign (Go.Operand.tmp 22), 4, none⟩])
          (.cond (Go.Operand.tmp 20)
            (.seq (.region [⟨some 23, Go.Op.move (Go.Operand.tmp 0), 100, none⟩,
              ⟨some 24, Go.Op.call { callee := Go.Callee.value (Go.Operand.func 117), args := #[Go.Operand.tmp 23], argTypes := #[100] }, 75, none⟩,
              ⟨some 25, Go.Op.build 78 #[(0, Go.Operand.const (Go.Value.int Go.IntKind.i64 2)), (1, Go.Operand.tmp 24)], 78, none⟩,
              ⟨none, Go.Op.store 78 (Go.Operand.tmp 2) (Go.Operand.tmp 25), 0, none⟩])
            .ret)
            (.seq (.region [⟨some 27, Go.Op.move (Go.Operand.tmp 3), 21, none⟩,
              ⟨some 28, Go.Op.binOp Go.BinOp.eql 21 (Go.Operand.tmp 27) (Go.Operand.const (Go.Value.int Go.IntKind.i32 92)) 21, 4, none⟩,
              ⟨some 26, Go.Op.assign (Go.Operand.tmp 28), 4, none⟩])
            (.cond (Go.Operand.tmp 26)
              (.region [⟨some 29, Go.Op.move (Go.Operand.tmp 0), 100, none⟩,
                ⟨some 30, Go.Op.call { callee := Go.Callee.value (Go.Operand.func 115), args := #[Go.Operand.tmp 29], argTypes := #[100] }, 21, none⟩,
                ⟨some 3, Go.Op.assign (Go.Operand.tmp 30), 21, none⟩])
              (.seq (.region [⟨some 32, Go.Op.move (Go.Operand.tmp 3), 21, none⟩,
                ⟨some 33, Go.Op.convert 21 9 (Go.Operand.tmp 32), 9, none⟩,
                ⟨some 34, Go.Op.call { callee := Go.Callee.value (Go.Operand.func 14), args := #[Go.Operand.const (Go.Value.string { data := #[92, 40, 41, 91, 93, 123, 125, 124, 42, 43, 63, 46] }), Go.Operand.tmp 33], argTypes := #[9, 9] }, 4, none⟩,
                ⟨some 31, Go.Op.assign (Go.Operand.tmp 34), 4, none⟩])
              (.cond (Go.Operand.tmp 31)
                (.region [⟨some 35, Go.Op.build 98 #[], 98, none⟩,
                  ⟨some 36, Go.Op.makeInterface 98 (Go.Operand.tmp 35), 20, none⟩,
                  ⟨none, Go.Op.panic (Go.Operand.tmp 36), 0, none⟩])
                .skip)))))))))))
    (.seq (.region [⟨some 37, Go.Op.move (Go.Operand.tmp 3), 21, none⟩,
      ⟨some 38, Go.Op.move (Go.Operand.tmp 3), 21, none⟩,
      ⟨some 39, Go.Op.build 154 #[(0, Go.Operand.tmp 37), (1, Go.Operand.tmp 38)], 154, none⟩,
      ⟨some 40, Go.Op.buildSlice 75 1 #[(0, Go.Operand.tmp 39)], 75, none⟩,
      ⟨some 41, Go.Op.build 78 #[(0, Go.Operand.const (Go.Value.int Go.IntKind.i64 2)), (1, Go.Operand.tmp 40)], 78, none⟩,
      ⟨none, Go.Op.store 78 (Go.Operand.tmp 2) (Go.Operand.tmp 41), 0, none⟩])
    .ret)))) :=
  ⟨foll, Tryz.f108, Tryz.func108, by kernel_rfl, by kernel_rfl, by kernel_rfl, by rw [Tryz.ntmps108]; decide⟩

/-- (*narrator.pattern.parser).number -/
theorem fn109 : FnIs Tryz.prog 109 1 [Go.ResultVar.tmp 2] (.seq (.region [⟨some 2, Go.Op.assign (Go.Operand.const (Go.Value.int Go.IntKind.i64 0)), 3, none⟩])
    (.seq (.region [⟨some 5, Go.Op.move (Go.Operand.tmp 0), 100, none⟩,
      ⟨some 6, Go.Op.nilCheck (Go.Operand.tmp 5), 0, none⟩,
      ⟨some 7, Go.Op.fieldAddr 103 (Go.Operand.tmp 6) 1, 0, none⟩,
      ⟨some 8, Go.Op.load 3 (Go.Operand.tmp 7), 3, none⟩,
      ⟨some 3, Go.Op.assign (Go.Operand.tmp 8), 3, none⟩,
      ⟨some 4, Go.Op.assign (Go.Operand.const (Go.Value.int Go.IntKind.i64 0)), 3, none⟩])
    (.seq (.block 0
      (.loop
        (.seq (.seq (.region [⟨some 9, Go.Op.move (Go.Operand.tmp 0), 100, none⟩,
          ⟨some 10, Go.Op.call { callee := Go.Callee.value (Go.Operand.func 66), args := #[Go.Operand.tmp 9], argTypes := #[100] }, 21, none⟩,
          ⟨some 11, Go.Op.binOp Go.BinOp.geq 21 (Go.Operand.tmp 10) (Go.Operand.const (Go.Value.int Go.IntKind.i32 48)) 21, 4, none⟩,
          ⟨some 12, Go.Op.move (Go.Operand.tmp 11), 4, none⟩,
          ⟨some 13, Go.Op.move (Go.Operand.tmp 0), 100, (some (12, true))⟩,
          ⟨some 14, Go.Op.call { callee := Go.Callee.value (Go.Operand.func 66), args := #[Go.Operand.tmp 13], argTypes := #[100] }, 21, (some (12, true))⟩,
          ⟨some 15, Go.Op.binOp Go.BinOp.leq 21 (Go.Operand.tmp 14) (Go.Operand.const (Go.Value.int Go.IntKind.i32 57)) 21, 4, (some (12, true))⟩,
          ⟨some 16, Go.Op.pick (Go.Operand.tmp 12) (Go.Operand.tmp 15) (Go.Operand.const (Go.Value.bool false)), 4, none⟩])
        (.cond (Go.Operand.tmp 16)
          .skip
          (.exit 0)))
        (.block 1
          (.region [⟨some 17, Go.Op.move (Go.Operand.tmp 4), 3, none⟩,
            ⟨some 18, Go.Op.binOp Go.BinOp.mul 3 (Go.Operand.const (Go.Value.int Go.IntKind.i64 10)) (Go.Operand.tmp 17) 3, 3, none⟩,
            ⟨some 19, Go.Op.move (Go.Operand.tmp 0), 100, none⟩,
            ⟨some 20, Go.Op.call { callee := Go.Callee.value (Go.Operand.func 115), args := #[Go.Operand.tmp 19], argTypes := #[100] }, 21, none⟩,
            ⟨some 21, Go.Op.binOp Go.BinOp.sub 21 (Go.Operand.tmp 20) (Go.Operand.const (Go.Value.int Go.IntKind.i32 48)) 21, 21, none⟩,
            ⟨some 22, Go.Op.convert 21 3 (Go.Operand.tmp 21), 3, none⟩,
            ⟨some 23, Go.Op.binOp Go.BinOp.add 3 (Go.Operand.tmp 18) (Go.Operand.tmp 22) 3, 3, none⟩,
            ⟨some 24, Go.Op.call { callee := Go.Callee.builtin Go.Builtin.min, args := #[Go.Operand.tmp 23, Go.Operand.const (Go.Value.int Go.IntKind.i64 1000)], argTypes := #[3, 3] }, 3, none⟩,
            ⟨some 4, Go.Op.assign (Go.Operand.tmp 24), 3, none⟩])))))
    (.seq (.seq (.region [⟨some 25, Go.Op.move (Go.Operand.tmp 0), 100, none⟩,
      ⟨some 26, Go.Op.nilCheck (Go.Operand.tmp 25), 0, none⟩,
      ⟨some 27, Go.Op.fieldAddr 103 (Go.Operand.tmp 26) 1, 0, none⟩,
      ⟨some 28, Go.Op.load 3 (Go.Operand.tmp 27), 3, none⟩,
      ⟨some 29, Go.Op.move (Go.Operand.tmp 3), 3, none⟩,
      ⟨some 30, Go.Op.binOp Go.BinOp.eql 3 (Go.Operand.tmp 28) (Go.Operand.tmp 29) 3, 4, none⟩,
      ⟨some 31, Go.Op.move (Go.Operand.tmp 30), 4, none⟩,
      ⟨some 32, Go.Op.move (Go.Operand.tmp 0), 100, (some (31, false))⟩,
      ⟨some 33, Go.Op.nilCheck (Go.Operand.tmp 32), 0, (some (31, false))⟩,
      ⟨some 34, Go.Op.fieldAddr 103 (Go.Operand.tmp 33) 0, 0, (some (31, false))⟩,
      ⟨some 35, Go.Op.load 101 (Go.Operand.tmp 34), 101, (some (31, false))⟩,
      ⟨some 36, Go.Op.move (Go.Operand.tmp 3), 3, (some (31, false))⟩,
      ⟨some 37, Go.Op.indexAddr 101 (Go.Operand.tmp 35) (Go.Operand.tmp 36), 0, (some (31, false))⟩,
      ⟨some 38, Go.Op.load 21 (Go.Operand.tmp 37), 21, (some (31, false))⟩,
      ⟨some 39, Go.Op.binOp Go.BinOp.eql 21 (Go.Operand.tmp 38) (Go.Operand.const (Go.Value.int Go.IntKind.i32 48)) 21, 4, (some (31, false))⟩,
      ⟨some 40, Go.Op.move (Go.Operand.tmp 39), 4, (some (31, false))⟩,
      ⟨some 41, Go.Op.move (Go.Operand.tmp 0), 100, (some (40, true))⟩,
      ⟨some 42, Go.Op.nilCheck (Go.Operand.tmp 41), 0, (some (40, true))⟩,
      ⟨some 43, Go.Op.fieldAddr 103 (Go.Operand.tmp 42) 1, 0, (some (40, true))⟩,
      ⟨some 44, Go.Op.load 3 (Go.Operand.tmp 43), 3, (some (40, true))⟩,
      ⟨some 45, Go.Op.move (Go.Operand.tmp 3), 3, (some (40, true))⟩,
      ⟨some 46, Go.Op.binOp Go.BinOp.add 3 (Go.Operand.tmp 45) (Go.Operand.const (Go.Value.int Go.IntKind.i64 1)) 3, 3, (some (40, true))⟩,
      ⟨some 47, Go.Op.binOp Go.BinOp.gtr 3 (Go.Operand.tmp 44) (Go.Operand.tmp 46) 3, 4, (some (40, true))⟩,
      ⟨some 48, Go.Op.pick (Go.Operand.tmp 40) (Go.Operand.tmp 47) (Go.Operand.const (Go.Value.bool false)), 4, (some (31, false))⟩,
      ⟨some 49, Go.Op.pick (Go.Operand.tmp 31) (Go.Operand.const (Go.Value.bool true)) (Go.Operand.tmp 48), 4, none⟩,
      ⟨some 50, Go.Op.move (Go.Operand.tmp 49), 4, none⟩,
      ⟨some 51, Go.Op.move (Go.Operand.tmp 4), 3, (some (50, false))⟩,
      ⟨some 52, Go.Op.binOp Go.BinOp.gtr 3 (Go.Operand.tmp 51) (Go.Operand.const (Go.Value.int Go.IntKind.i64 20)) 3, 4, (some (50, false))⟩,
      ⟨some 53, Go.Op.pick (Go.Operand.tmp 50) (Go.Operand.const (Go.Value.bool true)) (Go.Operand.tmp 52), 4, none⟩])
    (.cond (Go.Operand.tmp 53)
      (.region [⟨some 54, Go.Op.build 98 #[], 98, none⟩,
        ⟨some 55, Go.Op.makeInterface 98 (Go.Operand.tmp 54), 20, none⟩,
        ⟨none, Go.Op.panic (Go.Operand.tmp 55), 0, none⟩])
      .skip))
    (.seq (.region [⟨some 56, Go.Op.move (Go.Operand.tmp 4), 3, none⟩,
      ⟨some 2, Go.Op.assign (Go.Operand.tmp 56), 3, none⟩])
    .ret))))) :=
  ⟨foll, Tryz.f109, Tryz.func109, by kernel_rfl, by kernel_rfl, by kernel_rfl, by rw [Tryz.ntmps109]; decide⟩

/-- (*narrator.pattern.parser).must -/
theorem fn110 : FnIs Tryz.prog 110 2 [] (.seq (.region [⟨some 4, Go.Op.move (Go.Operand.tmp 0), 100, none⟩,
      ⟨some 5, Go.Op.move (Go.Operand.tmp 1), 21, none⟩,
      ⟨some 6, Go.Op.call { callee := Go.Callee.value (Go.Operand.func 84), args := #[Go.Operand.tmp 4, Go.Operand.tmp 5], argTypes := #[100, 21] }, 4, none⟩,
      ⟨some 7, Go.Op.unOp Go.UnOp.not 4 (Go.Operand.tmp 6), 4, none⟩])
    (.cond (Go.Operand.tmp 7)
      (.region [⟨some 8, Go.Op.build 98 #[], 98, none⟩,
        ⟨some 9, Go.Op.makeInterface 98 (Go.Operand.tmp 8), 20, none⟩,
        ⟨none, Go.Op.panic (Go.Operand.tmp 9), 0, none⟩])
      .skip)) :=
  ⟨foll, Tryz.f110, Tryz.func110, by kernel_rfl, by kernel_rfl, by kernel_rfl, by rw [Tryz.ntmps110]; decide⟩

/-- (*narrator.pattern.parser).next -/
theorem fn115 : FnIs Tryz.prog 115 1 [Go.ResultVar.tmp 2] (.seq (.region [⟨some 2, Go.Op.assign (Go.Operand.const (Go.Value.int Go.IntKind.i32 0)), 21, none⟩])
    (.seq (.region [⟨some 4, Go.Op.move (Go.Operand.tmp 0), 100, none⟩,
      ⟨some 5, Go.Op.call { callee := Go.Callee.value (Go.Operand.func 66), args := #[Go.Operand.tmp 4], argTypes := #[100] }, 21, none⟩,
      ⟨some 3, Go.Op.assign (Go.Operand.tmp 5), 21, none⟩])
    (.seq (.seq (.region [⟨some 6, Go.Op.move (Go.Operand.tmp 3), 21, none⟩,
      ⟨some 7, Go.Op.binOp Go.BinOp.lss 21 (Go.Operand.tmp 6) (Go.Operand.const (Go.Value.int Go.IntKind.i32 0)) 21, 4, none⟩])
    (.cond (Go.Operand.tmp 7)
      (.region [⟨some 8, Go.Op.build 98 #[], 98, none⟩,
        ⟨some 9, Go.Op.makeInterface 98 (Go.Operand.tmp 8), 20, none⟩,
        ⟨none, Go.Op.panic (Go.Operand.tmp 9), 0, none⟩])
      .skip))
    (.seq (.region [⟨some 10, Go.Op.move (Go.Operand.tmp 0), 100, none⟩,
      ⟨some 11, Go.Op.nilCheck (Go.Operand.tmp 10), 0, none⟩,
      ⟨some 12, Go.Op.fieldAddr 103 (Go.Operand.tmp 11) 1, 0, none⟩,
      ⟨some 13, Go.Op.load 3 (Go.Operand.tmp 12), 3, none⟩,
      ⟨some 14, Go.Op.binOp Go.BinOp.add 3 (Go.Operand.tmp 13) (Go.Operand.const (Go.Value.int Go.IntKind.i64 1)) 3, 3, none⟩,
      ⟨some 15, Go.Op.nilCheck (Go.Operand.tmp 10), 0, none⟩,
      ⟨some 16, Go.Op.fieldAddr 103 (Go.Operand.tmp 15) 1, 0, none⟩,
      ⟨none, Go.Op.store 3 (Go.Operand.tmp 16) (Go.Operand.tmp 14), 0, none⟩])
    (.seq (.region [⟨some 17, Go.Op.move (Go.Operand.tmp 3), 21, none⟩,
      ⟨some 2, Go.Op.assign (Go.Operand.tmp 17), 21, none⟩])
    .ret))))) :=
  ⟨foll, Tryz.f115, Tryz.func115, by kernel_rfl, by kernel_rfl, by kernel_rfl, by rw [Tryz.ntmps115]; decide⟩

/-- narrator.pattern.all -/
theorem fn116 : FnIs Tryz.prog 116 0 [Go.ResultVar.tmp 0] (.seq (.region [⟨some 0, Go.Op.assign (Go.Operand.const (Go.Value.slice none 0 0)), 75, none⟩])
    (.seq (.region [⟨some 1, Go.Op.build 154 #[(0, Go.Operand.const (Go.Value.int Go.IntKind.i32 0)), (1, Go.Operand.const (Go.Value.int Go.IntKind.i32 55295))], 154, none⟩,
      ⟨some 2, Go.Op.build 154 #[(0, Go.Operand.const (Go.Value.int Go.IntKind.i32 57344)), (1, Go.Operand.const (Go.Value.int Go.IntKind.i32 1114111))], 154, none⟩,
      ⟨some 3, Go.Op.buildSlice 75 2 #[(0, Go.Operand.tmp 1), (1, Go.Operand.tmp 2)], 75, none⟩,
      ⟨some 0, Go.Op.assign (Go.Operand.tmp 3), 75, none⟩])
    .ret)) :=
  ⟨foll, Tryz.f116, Tryz.func116, by kernel_rfl, by kernel_rfl, by kernel_rfl, by rw [Tryz.ntmps116]; decide⟩

/-- (*narrator.pattern.parser).class -/
theorem fn117 : FnIs Tryz.prog 117 1 [Go.ResultVar.tmp 2] (.seq (.region [⟨some 2, Go.Op.assign (Go.Operand.const (Go.Value.slice none 0 0)), 75, none⟩])
    (.seq (.region [⟨some 7, Go.Op.move (Go.Operand.tmp 0), 100, none⟩,
      ⟨some 8, Go.Op.call { callee := Go.Callee.value (Go.Operand.func 84), args := #[Go.Operand.tmp 7, Go.Operand.const (Go.Value.int Go.IntKind.i32 94)], argTypes := #[100, 21] }, 4, none⟩,
      ⟨some 3, Go.Op.assign (Go.Operand.tmp 8), 4, none⟩])
    (.seq (.region [⟨some 4, Go.Op.assign (Go.Operand.const (Go.Value.slice none 0 0)), 75, none⟩])
    (.seq (.block 0
      (.loop
        (.seq (.seq (.region [⟨some 9, Go.Op.move (Go.Operand.tmp 4), 75, none⟩,
          ⟨some 10, Go.Op.call { callee := Go.Callee.builtin Go.Builtin.len, args := #[Go.Operand.tmp 9], argTypes := #[75] }, 3, none⟩,
          ⟨some 11, Go.Op.binOp Go.BinOp.eql 3 (Go.Operand.tmp 10) (Go.Operand.const (Go.Value.int Go.IntKind.i64 0)) 3, 4, none⟩,
          ⟨some 12, Go.Op.move (Go.Operand.tmp 11), 4, none⟩,
          ⟨some 13, Go.Op.move (Go.Operand.tmp 0), 100, (some (12, false))⟩,
          ⟨some 14, Go.Op.call { callee := Go.Callee.value (Go.Operand.func 84), args := #[Go.Operand.tmp 13, Go.Operand.const (Go.Value.int Go.IntKind.i32 93)], argTypes := #[100, 21] }, 4, (some (12, false))⟩,
          ⟨some 15, Go.Op.unOp Go.UnOp.not 4 (Go.Operand.tmp 14), 4, (some (12, false))⟩,
          ⟨some 16, Go.Op.pick (Go.Operand.tmp 12) (Go.Operand.const (Go.Value.bool true)) (Go.Operand.tmp 15), 4, none⟩])
        (.cond (Go.Operand.tmp 16)
          .skip
          (.exit 0)))
        (.block 1
          (.seq (.region [⟨some 17, Go.Op.move (Go.Operand.tmp 0), 100, none⟩,
            ⟨some 18, Go.Op.call { callee := Go.Callee.value (Go.Operand.func 118), args := #[Go.Operand.tmp 17], argTypes := #[100] }, 21, none⟩,
            ⟨some 5, Go.Op.assign (Go.Operand.tmp 18), 21, none⟩])
          (.seq (.region [⟨some 19, Go.Op.move (Go.Operand.tmp 5), 21, none⟩,
            ⟨some 6, Go.Op.assign (Go.Operand.tmp 19), 21, none⟩])
          (.seq (.seq (.region [⟨some 20, Go.Op.move (Go.Operand.tmp 0), 100, none⟩,
            ⟨some 21, Go.Op.call { callee := Go.Callee.value (Go.Operand.func 84), args := #[Go.Operand.tmp 20, Go.Operand.const (Go.Value.int Go.IntKind.i32 45)], argTypes := #[100, 21] }, 4, none⟩])
          (.cond (Go.Operand.tmp 21)
            (.region [⟨some 22, Go.Op.move (Go.Operand.tmp 0), 100, none⟩,
              ⟨some 23, Go.Op.call { callee := Go.Callee.value (Go.Operand.func 118), args := #[Go.Operand.tmp 22], argTypes := #[100] }, 21, none⟩,
              ⟨some 6, Go.Op.assign (Go.Operand.tmp 23), 21, none⟩])
            .skip))
          (.seq (.seq (.region [⟨some 24, Go.Op.move (Go.Operand.tmp 6), 21, none⟩,
            ⟨some 25, Go.Op.move (Go.Operand.tmp 5), 21, none⟩,
            ⟨some 26, Go.Op.binOp Go.BinOp.lss 21 (Go.Operand.tmp 24) (Go.Operand.tmp 25) 21, 4, none⟩])
          (.cond (Go.Operand.tmp 26)
            (.region [⟨some 27, Go.Op.build 98 #[], 98, none⟩,
              ⟨some 28, Go.Op.makeInterface 98 (Go.Operand.tmp 27), 20, none⟩,
              ⟨none, Go.Op.panic (Go.Operand.tmp 28), 0, none⟩])
            .skip))
          (.region [⟨some 29, Go.Op.move (Go.Operand.tmp 4), 75, none⟩,
            ⟨some 30, Go.Op.move (Go.Operand.tmp 5), 21, none⟩,
            ⟨some 31, Go.Op.move (Go.Operand.tmp 6), 21, none⟩,
            ⟨some 32, Go.Op.call { callee := Go.Callee.value (Go.Operand.func 119), args := #[Go.Operand.tmp 30, Go.Operand.tmp 31], argTypes := #[21, 21] }, 75, none⟩,
            ⟨some 33, Go.Op.call { callee := Go.Callee.builtin Go.Builtin.append, args := #[Go.Operand.tmp 29, Go.Operand.tmp 32], argTypes := #[75, 75] }, 75, none⟩,
            ⟨some 4, Go.Op.assign (Go.Operand.tmp 33), 75, none⟩])))))))))
    (.seq (.region [⟨some 34, Go.Op.move (Go.Operand.tmp 4), 75, none⟩,
      ⟨some 35, Go.Op.call { callee := Go.Callee.value (Go.Operand.func 120), args := #[Go.Operand.tmp 34], argTypes := #[75] }, 75, none⟩,
      ⟨some 4, Go.Op.assign (Go.Operand.tmp 35), 75, none⟩])
    (.seq (.seq (.region [⟨some 36, Go.Op.move (Go.Operand.tmp 3), 4, none⟩])
    (.cond (Go.Operand.tmp 36)
      (.region [⟨some 37, Go.Op.move (Go.Operand.tmp 4), 75, none⟩,
        ⟨some 38, Go.Op.call { callee := Go.Callee.value (Go.Operand.func 121), args := #[Go.Operand.tmp 37], argTypes := #[75] }, 75, none⟩,
        ⟨some 4, Go.Op.assign (Go.Operand.tmp 38), 75, none⟩])
      .skip))
    (.seq (.region [⟨some 39, Go.Op.move (Go.Operand.tmp 4), 75, none⟩,
      ⟨some 2, Go.Op.assign (Go.Operand.tmp 39), 75, none⟩])
    .ret))))))) :=
  ⟨foll, Tryz.f117, Tryz.func117, by kernel_rfl, by kernel_rfl, by kernel_rfl, by rw [Tryz.ntmps117]; decide⟩

/-- (*narrator.pattern.parser).letter -/
theorem fn118 : FnIs Tryz.prog 118 1 [Go.ResultVar.tmp 2] (.seq (.region [⟨some 2, Go.Op.assign (Go.Operand.const (Go.Value.int Go.IntKind.i32 0)), 21, none⟩])
    (.seq (.region [⟨some 4, Go.Op.move (Go.Operand.tmp 0), 100, none⟩,
      ⟨some 5, Go.Op.call { callee := Go.Callee.value (Go.Operand.func 115), args := #[Go.Operand.tmp 4], argTypes := #[100] }, 21, none⟩,
      ⟨some 3, Go.Op.assign (Go.Operand.tmp 5), 21, none⟩])
    (.seq (.seq (.region [⟨some 6, Go.Op.move (Go.Operand.tmp 3), 21, none⟩])
    (.block 0
      (.seq (.region [⟨some 8, Go.Op.binOp Go.BinOp.eql 21 (Go.Operand.tmp 6) (Go.Operand.const (Go.Value.int Go.IntKind.i32 92)) 21, 4, none⟩,
        ⟨some 7, Go.Op.assign (Go.Operand.tmp 8), 4, none⟩])
      (.cond (Go.Operand.tmp 7)
        (.seq (.region [⟨some 9, Go.Op.move (Go.Operand.tmp 0), 100, none⟩,
          ⟨some 10, Go.Op.call { callee := Go.Callee.value (Go.Operand.func 115), args := #[Go.Operand.tmp 9], argTypes := #[100] }, 21, none⟩,
          ⟨some 2, Go.Op.assign (Go.Operand.tmp 10), 21, none⟩])
        .ret)
        (.seq (.seq (.region [⟨some 12, Go.Op.binOp Go.BinOp.eql 21 (Go.Operand.tmp 6) (Go.Operand.const (Go.Value.int Go.IntKind.i32 93)) 21, 4, none⟩,
          ⟨some 11, Go.Op.assign (Go.Operand.tmp 12), 4, none⟩])
        (.cond (Go.Operand.tmp 11)
          .skip
          (.seq (.region [⟨some 13, Go.Op.binOp Go.BinOp.eql 21 (Go.Operand.tmp 6) (Go.Operand.const (Go.Value.int Go.IntKind.i32 94)) 21, 4, none⟩,
            ⟨some 11, Go.Op.assign (Go.Operand.tmp 13), 4, none⟩])
          (.cond (Go.Operand.tmp 11)
            .skip
            (.region [⟨some 14, Go.Op.binOp Go.BinOp.eql 21 (Go.Operand.tmp 6) (Go.Operand.const (Go.Value.int Go.IntKind.i32 45)) 21, 4, none⟩,
              ⟨some 11, Go.Op.assign (Go.Operand.tmp 14), 4, none⟩])))))
        (.cond (Go.Operand.tmp 11)
          (.region [⟨some 15, Go.Op.build 98 #[], 98, none⟩,
            ⟨some 16, Go.Op.makeInterface 98 (Go.Operand.tmp 15), 20, none⟩,
            ⟨none, Go.Op.panic (Go.Operand.tmp 16), 0, none⟩])
          .skip))))))
    (.seq (.region [⟨some 17, Go.Op.move (Go.Operand.tmp 3), 21, none⟩,
      ⟨some 2, Go.Op.assign (Go.Operand.tmp 17), 21, none⟩])
    .ret)))) :=
  ⟨foll, Tryz.f118, Tryz.func118, by kernel_rfl, by kernel_rfl, by kernel_rfl, by rw [Tryz.ntmps118]; decide⟩

/-- narrator.pattern.normal -/
theorem fn120 : FnIs Tryz.prog 120 1 [Go.ResultVar.tmp 2] (.seq (.region [⟨some 2, Go.Op.assign (Go.Operand.const (Go.Value.slice none 0 0)), 75, none⟩])
    (.seq (.region [⟨some 7, Go.Op.move (Go.Operand.tmp 0), 75, none⟩,
      ⟨some 8, Go.Op.call { callee := Go.Callee.value (Go.Operand.func 122), args := #[Go.Operand.tmp 7, Go.Operand.func 123], argTypes := #[75, 161] }, 0, none⟩])
    (.seq (.region [⟨some 3, Go.Op.assign (Go.Operand.const (Go.Value.slice none 0 0)), 75, none⟩])
    (.seq (.seq (.region [⟨some 9, Go.Op.move (Go.Operand.tmp 0), 75, none⟩,
      ⟨some 10, Go.Op.call { callee := Go.Callee.builtin Go.Builtin.len, args := #[Go.Operand.tmp 9], argTypes := #[75] }, 3, none⟩,
      ⟨some 11, Go.Op.move (Go.Operand.const (Go.Value.int Go.IntKind.i64 0)), 3, none⟩])
    (.block 0
      (.loop
        (.seq (.region [⟨some 12, Go.Op.binOp Go.BinOp.lss 3 (Go.Operand.tmp 11) (Go.Operand.tmp 10) 3, 0, none⟩])
        (.seq (.cond (Go.Operand.tmp 12)
          .skip
          (.exit 0))
        (.seq (.block 1
          (.seq (.region [⟨some 13, Go.Op.indexAddr 75 (Go.Operand.tmp 9) (Go.Operand.tmp 11), 0, none⟩,
            ⟨some 14, Go.Op.load 154 (Go.Operand.tmp 13), 154, none⟩,
            ⟨some 5, Go.Op.alloc 154, 0, none⟩,
            ⟨none, Go.Op.store 154 (Go.Operand.tmp 5) (Go.Operand.tmp 14), 0, none⟩])
          (.seq (.region [⟨some 15, Go.Op.move (Go.Operand.tmp 3), 75, none⟩,
            ⟨some 16, Go.Op.call { callee := Go.Callee.builtin Go.Builtin.len, args := #[Go.Operand.tmp 15], argTypes := #[75] }, 3, none⟩,
            ⟨some 6, Go.Op.assign (Go.Operand.tmp 16), 3, none⟩])
          (.seq (.draw [⟨⟨some 17, Go.Op.move (Go.Operand.tmp 6), 3, none⟩, false, false, false⟩,
            ⟨⟨some 18, Go.Op.binOp Go.BinOp.gtr 3 (Go.Operand.tmp 17) (Go.Operand.const (Go.Value.int Go.IntKind.i64 0)) 3, 4, none⟩, false, false, false⟩,
            ⟨⟨some 19, Go.Op.move (Go.Operand.tmp 18), 4, none⟩, false, false, false⟩,
            ⟨⟨some 20, Go.Op.fieldAddr 154 (Go.Operand.tmp 5) 0, 0, (some (19, true))⟩, false, false, false⟩,
            ⟨⟨some 21, Go.Op.load 21 (Go.Operand.tmp 20), 21, (some (19, true))⟩, false, false, false⟩,
            ⟨⟨some 22, Go.Op.move (Go.Operand.tmp 3), 75, (some (19, true))⟩, false, false, false⟩,
            ⟨⟨some 23, Go.Op.move (Go.Operand.tmp 6), 3, (some (19, true))⟩, false, false, false⟩,
            ⟨⟨some 24, Go.Op.binOp Go.BinOp.sub 3 (Go.Operand.tmp 23) (Go.Operand.const (Go.Value.int Go.IntKind.i64 1)) 3, 3, (some (19, true))⟩, false, false, false⟩,
            ⟨⟨some 25, Go.Op.indexAddr 75 (Go.Operand.tmp 22) (Go.Operand.tmp 24), 0, (some (19, true))⟩, false, false, false⟩,
            ⟨⟨some 26, Go.Op.fieldAddr 154 (Go.Operand.tmp 25) 1, 0, (some (19, true))⟩, false, false, false⟩,
            ⟨⟨some 27, Go.Op.load 21 (Go.Operand.tmp 26), 21, (some (19, true))⟩, false, false, false⟩,
            ⟨⟨some 28, Go.Op.binOp Go.BinOp.add 21 (Go.Operand.tmp 27) (Go.Operand.const (Go.Value.int Go.IntKind.i32 1)) 21, 21, (some (19, true))⟩, false, false, false⟩,
            ⟨⟨some 29, Go.Op.binOp Go.BinOp.leq 21 (Go.Operand.tmp 21) (Go.Operand.tmp 28) 21, 4, (some (19, true))⟩, false, false, false⟩,
            ⟨⟨some 30, Go.Op.pick (Go.Operand.tmp 19) (Go.Operand.tmp 29) (Go.Operand.const (Go.Value.bool false)), 4, none⟩, false, false, false⟩])
          (.cond (Go.Operand.tmp 30)
            (.draw [⟨⟨some 31, Go.Op.move (Go.Operand.tmp 3), 75, none⟩, false, false, false⟩,
              ⟨⟨some 32, Go.Op.move (Go.Operand.tmp 6), 3, none⟩, false, false, false⟩,
              ⟨⟨some 33, Go.Op.binOp Go.BinOp.sub 3 (Go.Operand.tmp 32) (Go.Operand.const (Go.Value.int Go.IntKind.i64 1)) 3, 3, none⟩, false, false, false⟩,
              ⟨⟨some 34, Go.Op.move (Go.Operand.tmp 3), 75, none⟩, false, false, false⟩,
              ⟨⟨some 35, Go.Op.move (Go.Operand.tmp 6), 3, none⟩, false, false, false⟩,
              ⟨⟨some 36, Go.Op.binOp Go.BinOp.sub 3 (Go.Operand.tmp 35) (Go.Operand.const (Go.Value.int Go.IntKind.i64 1)) 3, 3, none⟩, false, false, false⟩,
              ⟨⟨some 37, Go.Op.indexAddr 75 (Go.Operand.tmp 34) (Go.Operand.tmp 36), 0, none⟩, false, false, false⟩,
              ⟨⟨some 38, Go.Op.fieldAddr 154 (Go.Operand.tmp 37) 1, 0, none⟩, false, false, false⟩,
              ⟨⟨some 39, Go.Op.load 21 (Go.Operand.tmp 38), 21, none⟩, false, false, false⟩,
              ⟨⟨some 40, Go.Op.fieldAddr 154 (Go.Operand.tmp 5) 1, 0, none⟩, false, false, false⟩,
              ⟨⟨some 41, Go.Op.load 21 (Go.Operand.tmp 40), 21, none⟩, false, false, false⟩,
              ⟨⟨some 42, Go.Op.call { callee := Go.Callee.builtin Go.Builtin.max, args := #[Go.Operand.tmp 39, Go.Operand.tmp 41], argTypes := #[21, 21] }, 21, none⟩, false, false, false⟩,
              ⟨⟨some 43, Go.Op.indexAddr 75 (Go.Operand.tmp 31) (Go.Operand.tmp 33), 0, none⟩, false, false, false⟩,
              ⟨⟨some 44, Go.Op.fieldAddr 154 (Go.Operand.tmp 43) 1, 0, none⟩, false, false, false⟩,
              ⟨⟨none, Go.Op.store 21 (Go.Operand.tmp 44) (Go.Operand.tmp 42), 0, none⟩, true, false, false⟩])
            (.region [⟨some 45, Go.Op.move (Go.Operand.tmp 3), 75, none⟩,
              ⟨some 46, Go.Op.load 154 (Go.Operand.tmp 5), 154, none⟩,
              ⟨some 47, Go.Op.buildSlice 75 1 #[(0, Go.Operand.tmp 46)], 75, none⟩,
              ⟨some 48, Go.Op.call { callee := Go.Callee.builtin Go.Builtin.append, args := #[Go.Operand.tmp 45, Go.Operand.tmp 47], argTypes := #[75, 75] }, 75, none⟩,
              ⟨some 3, Go.Op.assign (Go.Operand.tmp 48), 75, none⟩]))))))
        (.region [⟨some 49, Go.Op.binOp Go.BinOp.add 3 (Go.Operand.tmp 11) (Go.Operand.const (Go.Value.int Go.IntKind.i64 1)) 3, 3, none⟩,
          ⟨some 11, Go.Op.move (Go.Operand.tmp 49), 3, none⟩])))))))
    (.seq (.region [⟨some 50, Go.Op.move (Go.Operand.tmp 3), 75, none⟩,
      ⟨some 2, Go.Op.assign (Go.Operand.tmp 50), 75, none⟩])
    .ret))))) :=
  ⟨foll, Tryz.f120, Tryz.func120, by kernel_rfl, by kernel_rfl, by kernel_rfl, by rw [Tryz.ntmps120]; decide⟩

/-- narrator.pattern.complement -/
theorem fn121 : FnIs Tryz.prog 121 1 [Go.ResultVar.tmp 2] (.seq (.region [⟨some 2, Go.Op.assign (Go.Operand.const (Go.Value.slice none 0 0)), 75, none⟩])
    (.seq (.region [⟨some 3, Go.Op.assign (Go.Operand.const (Go.Value.slice none 0 0)), 75, none⟩])
    (.seq (.region [⟨some 4, Go.Op.assign (Go.Operand.const (Go.Value.int Go.IntKind.i32 0)), 21, none⟩])
    (.seq (.seq (.region [⟨some 7, Go.Op.move (Go.Operand.tmp 0), 75, none⟩,
      ⟨some 8, Go.Op.call { callee := Go.Callee.builtin Go.Builtin.len, args := #[Go.Operand.tmp 7], argTypes := #[75] }, 3, none⟩,
      ⟨some 9, Go.Op.move (Go.Operand.const (Go.Value.int Go.IntKind.i64 0)), 3, none⟩])
    (.block 0
      (.loop
        (.seq (.region [⟨some 10, Go.Op.binOp Go.BinOp.lss 3 (Go.Operand.tmp 9) (Go.Operand.tmp 8) 3, 0, none⟩])
        (.seq (.cond (Go.Operand.tmp 10)
          .skip
          (.exit 0))
        (.seq (.block 1
          (.seq (.region [⟨some 11, Go.Op.indexAddr 75 (Go.Operand.tmp 7) (Go.Operand.tmp 9), 0, none⟩,
            ⟨some 12, Go.Op.load 154 (Go.Operand.tmp 11), 154, none⟩,
            ⟨some 6, Go.Op.alloc 154, 0, none⟩,
            ⟨none, Go.Op.store 154 (Go.Operand.tmp 6) (Go.Operand.tmp 12), 0, none⟩])
          (.seq (.region [⟨some 13, Go.Op.move (Go.Operand.tmp 3), 75, none⟩,
            ⟨some 14, Go.Op.move (Go.Operand.tmp 4), 21, none⟩,
            ⟨some 15, Go.Op.fieldAddr 154 (Go.Operand.tmp 6) 0, 0, none⟩,
            ⟨some 16, Go.Op.load 21 (Go.Operand.tmp 15), 21, none⟩,
            ⟨some 17, Go.Op.binOp Go.BinOp.sub 21 (Go.Operand.tmp 16) (Go.Operand.const (Go.Value.int Go.IntKind.i32 1)) 21, 21, none⟩,
            ⟨some 18, Go.Op.call { callee := Go.Callee.value (Go.Operand.func 119), args := #[Go.Operand.tmp 14, Go.Operand.tmp 17], argTypes := #[21, 21] }, 75, none⟩,
            ⟨some 19, Go.Op.call { callee := Go.Callee.builtin Go.Builtin.append, args := #[Go.Operand.tmp 13, Go.Operand.tmp 18], argTypes := #[75, 75] }, 75, none⟩,
            ⟨some 3, Go.Op.assign (Go.Operand.tmp 19), 75, none⟩])
          (.region [⟨some 20, Go.Op.fieldAddr 154 (Go.Operand.tmp 6) 1, 0, none⟩,
            ⟨some 21, Go.Op.load 21 (Go.Operand.tmp 20), 21, none⟩,
            ⟨some 22, Go.Op.binOp Go.BinOp.add 21 (Go.Operand.tmp 21) (Go.Operand.const (Go.Value.int Go.IntKind.i32 1)) 21, 21, none⟩,
            ⟨some 4, Go.Op.assign (Go.Operand.tmp 22), 21, none⟩]))))
        (.region [⟨some 23, Go.Op.binOp Go.BinOp.add 3 (Go.Operand.tmp 9) (Go.Operand.const (Go.Value.int Go.IntKind.i64 1)) 3, 3, none⟩,
          ⟨some 9, Go.Op.move (Go.Operand.tmp 23), 3, none⟩])))))))
    (.seq (.region [⟨some 24, Go.Op.move (Go.Operand.tmp 3), 75, none⟩,
      ⟨some 25, Go.Op.move (Go.Operand.tmp 4), 21, none⟩,
      ⟨some 26, Go.Op.call { callee := Go.Callee.value (Go.Operand.func 119), args := #[Go.Operand.tmp 25, Go.Operand.const (Go.Value.int Go.IntKind.i32 1114111)], argTypes := #[21, 21] }, 75, none⟩,
      ⟨some 27, Go.Op.call { callee := Go.Callee.builtin Go.Builtin.append, args := #[Go.Operand.tmp 24, Go.Operand.tmp 26], argTypes := #[75, 75] }, 75, none⟩,
      ⟨some 2, Go.Op.assign (Go.Operand.tmp 27), 75, none⟩])
    .ret))))) :=
  ⟨foll, Tryz.f121, Tryz.func121, by kernel_rfl, by kernel_rfl, by kernel_rfl, by rw [Tryz.ntmps121]; decide⟩

/-- narrator.pattern.normal$1 -/
theorem fn123 : FnIs Tryz.prog 123 2 [Go.ResultVar.tmp 4] (.seq (.region [⟨some 2, Go.Op.box 154 (Go.Operand.tmp 0), 0, none⟩,
      ⟨some 3, Go.Op.box 154 (Go.Operand.tmp 1), 0, none⟩,
      ⟨some 4, Go.Op.assign (Go.Operand.const (Go.Value.int Go.IntKind.i64 0)), 3, none⟩])
    (.seq (.region [⟨some 5, Go.Op.fieldAddr 154 (Go.Operand.tmp 2) 0, 0, none⟩,
      ⟨some 6, Go.Op.load 21 (Go.Operand.tmp 5), 21, none⟩,
      ⟨some 7, Go.Op.fieldAddr 154 (Go.Operand.tmp 3) 0, 0, none⟩,
      ⟨some 8, Go.Op.load 21 (Go.Operand.tmp 7), 21, none⟩,
      ⟨some 9, Go.Op.call { callee := Go.Callee.value (Go.Operand.func 124), args := #[Go.Operand.tmp 6, Go.Operand.tmp 8], argTypes := #[21, 21] }, 3, none⟩,
      ⟨some 4, Go.Op.assign (Go.Operand.tmp 9), 3, none⟩])
    .ret)) :=
  ⟨foll, Tryz.f123, Tryz.func123, by kernel_rfl, by kernel_rfl, by kernel_rfl, by rw [Tryz.ntmps123]; decide⟩

/-- cmp.Compare[rune] -/
theorem fn124 : FnIs Tryz.prog 124 2 [Go.ResultVar.tmp 4] (.seq (.region [⟨some 4, Go.Op.assign (Go.Operand.const (Go.Value.int Go.IntKind.i64 0)), 3, none⟩])
    (.seq (.region [⟨some 7, Go.Op.move (Go.Operand.tmp 0), 21, none⟩,
      ⟨some 8, Go.Op.call { callee := Go.Callee.value (Go.Operand.func 127), args := #[Go.Operand.tmp 7], argTypes := #[21] }, 4, none⟩,
      ⟨some 5, Go.Op.assign (Go.Operand.tmp 8), 4, none⟩])
    (.seq (.region [⟨some 9, Go.Op.move (Go.Operand.tmp 1), 21, none⟩,
      ⟨some 10, Go.Op.call { callee := Go.Callee.value (Go.Operand.func 127), args := #[Go.Operand.tmp 9], argTypes := #[21] }, 4, none⟩,
      ⟨some 6, Go.Op.assign (Go.Operand.tmp 10), 4, none⟩])
    (.seq (.seq (.region [⟨some 11, Go.Op.move (Go.Operand.tmp 5), 4, none⟩])
    (.cond (Go.Operand.tmp 11)
      (.seq (.seq (.region [⟨some 12, Go.Op.move (Go.Operand.tmp 6), 4, none⟩])
      (.cond (Go.Operand.tmp 12)
        (.seq (.region [⟨some 4, Go.Op.assign (Go.Operand.const (Go.Value.int Go.IntKind.i64 0)), 3, none⟩])
        .ret)
        .skip))
      (.seq (.region [⟨some 4, Go.Op.assign (Go.Operand.const (Go.Value.int Go.IntKind.i64 (-1))), 3, none⟩])
      .ret))
      .skip))
    (.seq (.seq (.region [⟨some 13, Go.Op.move (Go.Operand.tmp 6), 4, none⟩])
    (.cond (Go.Operand.tmp 13)
      (.seq (.region [⟨some 4, Go.Op.assign (Go.Operand.const (Go.Value.int Go.IntKind.i64 1)), 3, none⟩])
      .ret)
      .skip))
    (.seq (.seq (.region [⟨some 14, Go.Op.move (Go.Operand.tmp 0), 21, none⟩,
      ⟨some 15, Go.Op.move (Go.Operand.tmp 1), 21, none⟩,
      ⟨some 16, Go.Op.binOp Go.BinOp.lss 21 (Go.Operand.tmp 14) (Go.Operand.tmp 15) 21, 4, none⟩])
    (.cond (Go.Operand.tmp 16)
      (.seq (.region [⟨some 4, Go.Op.assign (Go.Operand.const (Go.Value.int Go.IntKind.i64 (-1))), 3, none⟩])
      .ret)
      .skip))
    (.seq (.seq (.region [⟨some 17, Go.Op.move (Go.Operand.tmp 0), 21, none⟩,
      ⟨some 18, Go.Op.move (Go.Operand.tmp 1), 21, none⟩,
      ⟨some 19, Go.Op.binOp Go.BinOp.gtr 21 (Go.Operand.tmp 17) (Go.Operand.tmp 18) 21, 4, none⟩])
    (.cond (Go.Operand.tmp 19)
      (.seq (.region [⟨some 4, Go.Op.assign (Go.Operand.const (Go.Value.int Go.IntKind.i64 1)), 3, none⟩])
      .ret)
      .skip))
    (.seq (.region [⟨some 4, Go.Op.assign (Go.Operand.const (Go.Value.int Go.IntKind.i64 0)), 3, none⟩])
    .ret)))))))) :=
  ⟨foll, Tryz.f124, Tryz.func124, by kernel_rfl, by kernel_rfl, by kernel_rfl, by rw [Tryz.ntmps124]; decide⟩

/-- cmp.isNaN[rune] -/
theorem fn127 : FnIs Tryz.prog 127 1 [Go.ResultVar.tmp 2] (.seq (.region [⟨some 2, Go.Op.assign (Go.Operand.const (Go.Value.bool false)), 4, none⟩])
    (.seq (.region [⟨some 3, Go.Op.move (Go.Operand.tmp 0), 21, none⟩,
      ⟨some 4, Go.Op.move (Go.Operand.tmp 0), 21, none⟩,
      ⟨some 5, Go.Op.binOp Go.BinOp.neq 21 (Go.Operand.tmp 3) (Go.Operand.tmp 4) 21, 4, none⟩,
      ⟨some 2, Go.Op.assign (Go.Operand.tmp 5), 4, none⟩])
    .ret)) :=
  ⟨foll, Tryz.f127, Tryz.func127, by kernel_rfl, by kernel_rfl, by kernel_rfl, by rw [Tryz.ntmps127]; decide⟩

end Go.Proofs.YtjgbdlaecpkmhaaGreatDoor
