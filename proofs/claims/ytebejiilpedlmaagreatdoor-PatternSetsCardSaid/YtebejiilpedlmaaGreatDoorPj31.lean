/- The prepared code of further functions. Written by a program of mine (gen.py) out of what the loaded dump prints. -/
import Derived.Test.YtebejiilpedlmaaGreatDoorBase31
set_option linter.unusedVariables false
set_option maxRecDepth 100000
namespace Go.Proofs.YtebejiilpedlmaaGreatDoor
open Go Nv

/-- narrator.pattern.Parse -/
theorem fn14 : FnIs Tryz.prog 14 1 [Go.ResultVar.cell 2 25, Go.ResultVar.cell 3 28] (.seq (.region [⟨some 2, Go.Op.alloc 25, 0, none⟩,
      ⟨some 3, Go.Op.alloc 28, 0, none⟩])
    (.seq (.seq (.region [⟨some 5, Go.Op.move (Go.Operand.tmp 0), 9, none⟩,
      ⟨some 6, Go.Op.call { callee := Go.Callee.builtin Go.Builtin.len, args := #[Go.Operand.tmp 5], argTypes := #[9] }, 3, none⟩,
      ⟨some 7, Go.Op.binOp Go.BinOp.gtr 3 (Go.Operand.tmp 6) (Go.Operand.const (Go.Value.int Go.IntKind.i64 60)) 3, 4, none⟩])
    (.cond (Go.Operand.tmp 7)
      (.seq (.region [⟨some 8, Go.Op.build 25 #[], 25, none⟩,
        ⟨none, Go.Op.store 25 (Go.Operand.tmp 2) (Go.Operand.tmp 8), 0, none⟩,
        ⟨none, Go.Op.store 28 (Go.Operand.tmp 3) (Go.Operand.const (Go.Value.int Go.IntKind.i64 5)), 0, none⟩])
      .ret)
      .skip))
    (.seq (.seq (.region [⟨some 9, Go.Op.move (Go.Operand.tmp 0), 9, none⟩,
      ⟨some 10, Go.Op.call { callee := Go.Callee.value (Go.Operand.func 18), args := #[Go.Operand.tmp 9], argTypes := #[9] }, 4, none⟩,
      ⟨some 11, Go.Op.unOp Go.UnOp.not 4 (Go.Operand.tmp 10), 4, none⟩])
    (.cond (Go.Operand.tmp 11)
      (.seq (.region [⟨some 12, Go.Op.build 25 #[], 25, none⟩,
        ⟨none, Go.Op.store 25 (Go.Operand.tmp 2) (Go.Operand.tmp 12), 0, none⟩,
        ⟨none, Go.Op.store 28 (Go.Operand.tmp 3) (Go.Operand.const (Go.Value.int Go.IntKind.i64 3)), 0, none⟩])
      .ret)
      .skip))
    (.seq (.region [⟨some 13, Go.Op.makeFunc (Go.Fn.func 27) #[] #[Go.Operand.tmp 2, Go.Operand.tmp 3], 1, none⟩,
      ⟨none, Go.Op.defer { callee := Go.Callee.value (Go.Operand.tmp 13), args := #[], argTypes := #[] }, 0, none⟩])
    (.seq (.region [⟨some 14, Go.Op.move (Go.Operand.tmp 0), 9, none⟩,
      ⟨some 15, Go.Op.convert 9 42 (Go.Operand.tmp 14), 42, none⟩,
      ⟨some 16, Go.Op.build 53 #[(0, Go.Operand.tmp 15)], 53, none⟩,
      ⟨some 17, Go.Op.box 53 (Go.Operand.tmp 16), 51, none⟩,
      ⟨some 4, Go.Op.assign (Go.Operand.tmp 17), 51, none⟩])
    (.seq (.region [⟨some 18, Go.Op.move (Go.Operand.tmp 4), 51, none⟩,
      ⟨some 19, Go.Op.call { callee := Go.Callee.value (Go.Operand.func 28), args := #[Go.Operand.tmp 18], argTypes := #[51] }, 25, none⟩,
      ⟨none, Go.Op.store 25 (Go.Operand.tmp 2) (Go.Operand.tmp 19), 0, none⟩])
    (.seq (.seq (.region [⟨some 20, Go.Op.move (Go.Operand.tmp 4), 51, none⟩,
      ⟨some 21, Go.Op.call { callee := Go.Callee.value (Go.Operand.func 29), args := #[Go.Operand.tmp 20], argTypes := #[51] }, 21, none⟩,
      ⟨some 22, Go.Op.binOp Go.BinOp.geq 21 (Go.Operand.tmp 21) (Go.Operand.const (Go.Value.int Go.IntKind.i32 0)) 21, 4, none⟩])
    (.cond (Go.Operand.tmp 22)
      (.region [⟨some 23, Go.Op.build 49 #[], 49, none⟩,
        ⟨some 24, Go.Op.makeInterface 49 (Go.Operand.tmp 23), 20, none⟩,
        ⟨none, Go.Op.panic (Go.Operand.tmp 24), 0, none⟩])
      .skip))
    (.seq (.region [⟨some 25, Go.Op.load 25 (Go.Operand.tmp 2), 25, none⟩,
      ⟨none, Go.Op.store 25 (Go.Operand.tmp 2) (Go.Operand.tmp 25), 0, none⟩,
      ⟨none, Go.Op.store 28 (Go.Operand.tmp 3) (Go.Operand.const (Go.Value.int Go.IntKind.i64 0)), 0, none⟩])
    .ret)))))))) :=
  ⟨foll, Tryz.f14, Tryz.func14, by kernel_rfl, by kernel_rfl, by kernel_rfl, by rw [Tryz.ntmps14]; decide⟩

/-- narrator.pattern.Parse$1 -/
theorem fn27 : FnIs Tryz.prog 27 2 [] (.seq (.region [⟨some 5, Go.Op.call { callee := Go.Callee.builtin Go.Builtin.recover, args := #[], argTypes := #[] }, 20, none⟩,
      ⟨some 2, Go.Op.assign (Go.Operand.tmp 5), 20, none⟩])
    (.seq (.region [⟨some 6, Go.Op.move (Go.Operand.tmp 2), 20, none⟩,
      ⟨some 7, Go.Op.binOp Go.BinOp.neq 20 (Go.Operand.tmp 6) (Go.Operand.const Go.Value.nilIface) 20, 4, none⟩])
    (.cond (Go.Operand.tmp 7)
      (.seq (.seq (.region [⟨some 9, Go.Op.move (Go.Operand.tmp 2), 20, none⟩,
        ⟨some 10, Go.Op.typeAssert (Go.Operand.tmp 9) 20 49 true, 50, none⟩,
        ⟨some 8, Go.Op.move (Go.Operand.tmp 10), 50, none⟩,
        ⟨some 11, Go.Op.extract (Go.Operand.tmp 8) 0, 49, none⟩,
        ⟨some 12, Go.Op.extract (Go.Operand.tmp 8) 1, 4, none⟩,
        ⟨some 3, Go.Op.alloc 49, 0, none⟩,
        ⟨none, Go.Op.store 49 (Go.Operand.tmp 3) (Go.Operand.tmp 11), 0, none⟩,
        ⟨some 4, Go.Op.assign (Go.Operand.tmp 12), 4, none⟩])
      (.seq (.region [⟨some 13, Go.Op.move (Go.Operand.tmp 4), 4, none⟩,
        ⟨some 14, Go.Op.unOp Go.UnOp.not 4 (Go.Operand.tmp 13), 4, none⟩])
      (.cond (Go.Operand.tmp 14)
        (.region [⟨some 15, Go.Op.move (Go.Operand.tmp 2), 20, none⟩,
          ⟨none, Go.Op.panic (Go.Operand.tmp 15), 0, none⟩])
        .skip)))
      (.region [⟨some 16, Go.Op.build 25 #[], 25, none⟩,
        ⟨none, Go.Op.store 25 (Go.Operand.tmp 0) (Go.Operand.tmp 16), 0, none⟩,
        ⟨none, Go.Op.store 28 (Go.Operand.tmp 1) (Go.Operand.const (Go.Value.int Go.IntKind.i64 3)), 0, none⟩]))
      .skip))) :=
  ⟨foll, Tryz.f27, Tryz.func27, by kernel_rfl, by kernel_rfl, by kernel_rfl, by rw [Tryz.ntmps27]; decide⟩

/-- (*narrator.pattern.parser).choice -/
theorem fn28 : FnIs Tryz.prog 28 1 [Go.ResultVar.cell 2 25] (.seq (.region [⟨some 2, Go.Op.alloc 25, 0, none⟩])
    (.seq (.region [⟨some 4, Go.Op.move (Go.Operand.tmp 0), 51, none⟩,
      ⟨some 5, Go.Op.call { callee := Go.Callee.value (Go.Operand.func 44), args := #[Go.Operand.tmp 4], argTypes := #[51] }, 25, none⟩,
      ⟨some 6, Go.Op.buildSlice 23 1 #[(0, Go.Operand.tmp 5)], 23, none⟩,
      ⟨some 3, Go.Op.assign (Go.Operand.tmp 6), 23, none⟩])
    (.seq (.block 0
      (.loop
        (.seq (.seq (.region [⟨some 7, Go.Op.move (Go.Operand.tmp 0), 51, none⟩,
          ⟨some 8, Go.Op.call { callee := Go.Callee.value (Go.Operand.func 45), args := #[Go.Operand.tmp 7, Go.Operand.const (Go.Value.int Go.IntKind.i32 124)], argTypes := #[51, 21] }, 4, none⟩])
        (.cond (Go.Operand.tmp 8)
          .skip
          (.exit 0)))
        (.block 1
          (.region [⟨some 9, Go.Op.move (Go.Operand.tmp 3), 23, none⟩,
            ⟨some 10, Go.Op.move (Go.Operand.tmp 0), 51, none⟩,
            ⟨some 11, Go.Op.call { callee := Go.Callee.value (Go.Operand.func 44), args := #[Go.Operand.tmp 10], argTypes := #[51] }, 25, none⟩,
            ⟨some 12, Go.Op.buildSlice 23 1 #[(0, Go.Operand.tmp 11)], 23, none⟩,
            ⟨some 13, Go.Op.call { callee := Go.Callee.builtin Go.Builtin.append, args := #[Go.Operand.tmp 9, Go.Operand.tmp 12], argTypes := #[23, 23] }, 23, none⟩,
            ⟨some 3, Go.Op.assign (Go.Operand.tmp 13), 23, none⟩])))))
    (.seq (.seq (.region [⟨some 14, Go.Op.move (Go.Operand.tmp 3), 23, none⟩,
      ⟨some 15, Go.Op.call { callee := Go.Callee.builtin Go.Builtin.len, args := #[Go.Operand.tmp 14], argTypes := #[23] }, 3, none⟩,
      ⟨some 16, Go.Op.binOp Go.BinOp.eql 3 (Go.Operand.tmp 15) (Go.Operand.const (Go.Value.int Go.IntKind.i64 1)) 3, 4, none⟩])
    (.cond (Go.Operand.tmp 16)
      (.seq (.region [⟨some 17, Go.Op.move (Go.Operand.tmp 3), 23, none⟩,
        ⟨some 18, Go.Op.indexAddr 23 (Go.Operand.tmp 17) (Go.Operand.const (Go.Value.int Go.IntKind.i64 0)), 0, none⟩,
        ⟨some 19, Go.Op.load 25 (Go.Operand.tmp 18), 25, none⟩,
        ⟨none, Go.Op.store 25 (Go.Operand.tmp 2) (Go.Operand.tmp 19), 0, none⟩])
      .ret)
      .skip))
    (.seq (.region [⟨some 20, Go.Op.move (Go.Operand.tmp 3), 23, none⟩,
      ⟨some 21, Go.Op.build 25 #[(0, Go.Operand.const (Go.Value.int Go.IntKind.i64 4)), (2, Go.Operand.tmp 20)], 25, none⟩,
      ⟨none, Go.Op.store 25 (Go.Operand.tmp 2) (Go.Operand.tmp 21), 0, none⟩])
    .ret))))) :=
  ⟨foll, Tryz.f28, Tryz.func28, by kernel_rfl, by kernel_rfl, by kernel_rfl, by rw [Tryz.ntmps28]; decide⟩

/-- (*narrator.pattern.parser).peek -/
theorem fn29 : FnIs Tryz.prog 29 1 [Go.ResultVar.tmp 2] (.seq (.region [⟨some 2, Go.Op.assign (Go.Operand.const (Go.Value.int Go.IntKind.i32 0)), 21, none⟩])
    (.seq (.seq (.draw [⟨⟨some 3, Go.Op.move (Go.Operand.tmp 0), 51, none⟩, false, false, false⟩,
      ⟨⟨some 4, Go.Op.nilCheck (Go.Operand.tmp 3), 0, none⟩, false, false, false⟩,
      ⟨⟨some 5, Go.Op.fieldAddr 53 (Go.Operand.tmp 4) 1, 0, none⟩, false, false, false⟩,
      ⟨⟨some 6, Go.Op.load 3 (Go.Operand.tmp 5), 3, none⟩, false, false, false⟩,
      ⟨⟨some 7, Go.Op.move (Go.Operand.tmp 0), 51, none⟩, false, false, false⟩,
      ⟨⟨some 8, Go.Op.nilCheck (Go.Operand.tmp 7), 0, none⟩, false, false, false⟩,
      ⟨⟨some 9, Go.Op.fieldAddr 53 (Go.Operand.tmp 8) 0, 0, none⟩, false, false, false⟩,
      ⟨⟨some 10, Go.Op.load 42 (Go.Operand.tmp 9), 42, none⟩, false, false, false⟩,
      ⟨⟨some 11, Go.Op.call { callee := Go.Callee.builtin Go.Builtin.len, args := #[Go.Operand.tmp 10], argTypes := #[42] }, 3, none⟩, false, false, false⟩,
      ⟨⟨some 12, Go.Op.binOp Go.BinOp.lss 3 (Go.Operand.tmp 6) (Go.Operand.tmp 11) 3, 4, none⟩, false, false, false⟩])
    (.cond (Go.Operand.tmp 12)
      (.seq (.draw [⟨⟨some 13, Go.Op.move (Go.Operand.tmp 0), 51, none⟩, false, false, false⟩,
        ⟨⟨some 14, Go.Op.nilCheck (Go.Operand.tmp 13), 0, none⟩, false, false, false⟩,
        ⟨⟨some 15, Go.Op.fieldAddr 53 (Go.Operand.tmp 14) 0, 0, none⟩, false, false, false⟩,
        ⟨⟨some 16, Go.Op.load 42 (Go.Operand.tmp 15), 42, none⟩, false, false, false⟩,
        ⟨⟨some 17, Go.Op.move (Go.Operand.tmp 0), 51, none⟩, false, false, false⟩,
        ⟨⟨some 18, Go.Op.nilCheck (Go.Operand.tmp 17), 0, none⟩, false, false, false⟩,
        ⟨⟨some 19, Go.Op.fieldAddr 53 (Go.Operand.tmp 18) 1, 0, none⟩, false, false, false⟩,
        ⟨⟨some 20, Go.Op.load 3 (Go.Operand.tmp 19), 3, none⟩, false, false, false⟩,
        ⟨⟨some 21, Go.Op.indexAddr 42 (Go.Operand.tmp 16) (Go.Operand.tmp 20), 0, none⟩, false, false, false⟩,
        ⟨⟨some 22, Go.Op.load 21 (Go.Operand.tmp 21), 21, none⟩, false, false, false⟩,
        ⟨⟨some 2, Go.Op.assign (Go.Operand.tmp 22), 21, none⟩, false, false, false⟩])
      .ret)
      .skip))
    (.seq (.region [⟨some 2, Go.Op.assign (Go.Operand.const (Go.Value.int Go.IntKind.i32 (-1))), 21, none⟩])
    .ret))) :=
  ⟨foll, Tryz.f29, Tryz.func29, by kernel_rfl, by kernel_rfl, by kernel_rfl, by rw [Tryz.ntmps29]; decide⟩

/-- (*narrator.pattern.parser).join -/
theorem fn44 : FnIs Tryz.prog 44 1 [Go.ResultVar.cell 2 25] (.seq (.region [⟨some 2, Go.Op.alloc 25, 0, none⟩])
    (.seq (.region [⟨some 3, Go.Op.assign (Go.Operand.const (Go.Value.slice none 0 0)), 23, none⟩])
    (.seq (.block 0
      (.loop
        (.seq (.seq (.region [⟨some 4, Go.Op.move (Go.Operand.tmp 0), 51, none⟩,
          ⟨some 5, Go.Op.call { callee := Go.Callee.value (Go.Operand.func 29), args := #[Go.Operand.tmp 4], argTypes := #[51] }, 21, none⟩,
          ⟨some 6, Go.Op.binOp Go.BinOp.geq 21 (Go.Operand.tmp 5) (Go.Operand.const (Go.Value.int Go.IntKind.i32 0)) 21, 4, none⟩,
          ⟨some 7, Go.Op.move (Go.Operand.tmp 6), 4, none⟩,
          ⟨some 8, Go.Op.move (Go.Operand.tmp 0), 51, (some (7, true))⟩,
          ⟨some 9, Go.Op.call { callee := Go.Callee.value (Go.Operand.func 29), args := #[Go.Operand.tmp 8], argTypes := #[51] }, 21, (some (7, true))⟩,
          ⟨some 10, Go.Op.binOp Go.BinOp.neq 21 (Go.Operand.tmp 9) (Go.Operand.const (Go.Value.int Go.IntKind.i32 124)) 21, 4, (some (7, true))⟩,
          ⟨some 11, Go.Op.pick (Go.Operand.tmp 7) (Go.Operand.tmp 10) (Go.Operand.const (Go.Value.bool false)), 4, none⟩,
          ⟨some 12, Go.Op.move (Go.Operand.tmp 11), 4, none⟩,
          ⟨some 13, Go.Op.move (Go.Operand.tmp 0), 51, (some (12, true))⟩,
          ⟨some 14, Go.Op.call { callee := Go.Callee.value (Go.Operand.func 29), args := #[Go.Operand.tmp 13], argTypes := #[51] }, 21, (some (12, true))⟩,
          ⟨some 15, Go.Op.binOp Go.BinOp.neq 21 (Go.Operand.tmp 14) (Go.Operand.const (Go.Value.int Go.IntKind.i32 41)) 21, 4, (some (12, true))⟩,
          ⟨some 16, Go.Op.pick (Go.Operand.tmp 12) (Go.Operand.tmp 15) (Go.Operand.const (Go.Value.bool false)), 4, none⟩])
        (.cond (Go.Operand.tmp 16)
          .skip
          (.exit 0)))
        (.block 1
          (.region [⟨some 17, Go.Op.move (Go.Operand.tmp 3), 23, none⟩,
            ⟨some 18, Go.Op.move (Go.Operand.tmp 0), 51, none⟩,
            ⟨some 19, Go.Op.call { callee := Go.Callee.value (Go.Operand.func 67), args := #[Go.Operand.tmp 18], argTypes := #[51] }, 25, none⟩,
            ⟨some 20, Go.Op.buildSlice 23 1 #[(0, Go.Operand.tmp 19)], 23, none⟩,
            ⟨some 21, Go.Op.call { callee := Go.Callee.builtin Go.Builtin.append, args := #[Go.Operand.tmp 17, Go.Operand.tmp 20], argTypes := #[23, 23] }, 23, none⟩,
            ⟨some 3, Go.Op.assign (Go.Operand.tmp 21), 23, none⟩])))))
    (.seq (.seq (.region [⟨some 22, Go.Op.move (Go.Operand.tmp 3), 23, none⟩,
      ⟨some 23, Go.Op.call { callee := Go.Callee.builtin Go.Builtin.len, args := #[Go.Operand.tmp 22], argTypes := #[23] }, 3, none⟩])
    (.block 2
      (.seq (.region [⟨some 25, Go.Op.binOp Go.BinOp.eql 3 (Go.Operand.tmp 23) (Go.Operand.const (Go.Value.int Go.IntKind.i64 0)) 3, 4, none⟩,
        ⟨some 24, Go.Op.assign (Go.Operand.tmp 25), 4, none⟩])
      (.cond (Go.Operand.tmp 24)
        (.seq (.region [⟨some 26, Go.Op.build 25 #[(0, Go.Operand.const (Go.Value.int Go.IntKind.i64 1))], 25, none⟩,
          ⟨none, Go.Op.store 25 (Go.Operand.tmp 2) (Go.Operand.tmp 26), 0, none⟩])
        .ret)
        (.seq (.region [⟨some 28, Go.Op.binOp Go.BinOp.eql 3 (Go.Operand.tmp 23) (Go.Operand.const (Go.Value.int Go.IntKind.i64 1)) 3, 4, none⟩,
          ⟨some 27, Go.Op.assign (Go.Operand.tmp 28), 4, none⟩])
        (.cond (Go.Operand.tmp 27)
          (.seq (.region [⟨some 29, Go.Op.move (Go.Operand.tmp 3), 23, none⟩,
            ⟨some 30, Go.Op.indexAddr 23 (Go.Operand.tmp 29) (Go.Operand.const (Go.Value.int Go.IntKind.i64 0)), 0, none⟩,
            ⟨some 31, Go.Op.load 25 (Go.Operand.tmp 30), 25, none⟩,
            ⟨none, Go.Op.store 25 (Go.Operand.tmp 2) (Go.Operand.tmp 31), 0, none⟩])
          .ret)
          .skip))))))
    (.seq (.region [⟨some 32, Go.Op.move (Go.Operand.tmp 3), 23, none⟩,
      ⟨some 33, Go.Op.build 25 #[(0, Go.Operand.const (Go.Value.int Go.IntKind.i64 3)), (2, Go.Operand.tmp 32)], 25, none⟩,
      ⟨none, Go.Op.store 25 (Go.Operand.tmp 2) (Go.Operand.tmp 33), 0, none⟩])
    .ret))))) :=
  ⟨foll, Tryz.f44, Tryz.func44, by kernel_rfl, by kernel_rfl, by kernel_rfl, by rw [Tryz.ntmps44]; decide⟩

/-- (*narrator.pattern.parser).skip -/
theorem fn45 : FnIs Tryz.prog 45 2 [Go.ResultVar.tmp 4] (.seq (.region [⟨some 4, Go.Op.assign (Go.Operand.const (Go.Value.bool false)), 4, none⟩])
    (.seq (.seq (.region [⟨some 5, Go.Op.move (Go.Operand.tmp 0), 51, none⟩,
      ⟨some 6, Go.Op.call { callee := Go.Callee.value (Go.Operand.func 29), args := #[Go.Operand.tmp 5], argTypes := #[51] }, 21, none⟩,
      ⟨some 7, Go.Op.move (Go.Operand.tmp 1), 21, none⟩,
      ⟨some 8, Go.Op.binOp Go.BinOp.neq 21 (Go.Operand.tmp 6) (Go.Operand.tmp 7) 21, 4, none⟩])
    (.cond (Go.Operand.tmp 8)
      (.seq (.region [⟨some 4, Go.Op.assign (Go.Operand.const (Go.Value.bool false)), 4, none⟩])
      .ret)
      .skip))
    (.seq (.region [⟨some 9, Go.Op.move (Go.Operand.tmp 0), 51, none⟩,
      ⟨some 10, Go.Op.nilCheck (Go.Operand.tmp 9), 0, none⟩,
      ⟨some 11, Go.Op.fieldAddr 53 (Go.Operand.tmp 10) 1, 0, none⟩,
      ⟨some 12, Go.Op.load 3 (Go.Operand.tmp 11), 3, none⟩,
      ⟨some 13, Go.Op.binOp Go.BinOp.add 3 (Go.Operand.tmp 12) (Go.Operand.const (Go.Value.int Go.IntKind.i64 1)) 3, 3, none⟩,
      ⟨some 14, Go.Op.nilCheck (Go.Operand.tmp 9), 0, none⟩,
      ⟨some 15, Go.Op.fieldAddr 53 (Go.Operand.tmp 14) 1, 0, none⟩,
      ⟨none, Go.Op.store 3 (Go.Operand.tmp 15) (Go.Operand.tmp 13), 0, none⟩])
    (.seq (.region [⟨some 4, Go.Op.assign (Go.Operand.const (Go.Value.bool true)), 4, none⟩])
    .ret)))) :=
  ⟨foll, Tryz.f45, Tryz.func45, by kernel_rfl, by kernel_rfl, by kernel_rfl, by rw [Tryz.ntmps45]; decide⟩

/-- narrator.pattern.all -/
theorem fn59 : FnIs Tryz.prog 59 0 [Go.ResultVar.tmp 0] (.seq (.region [⟨some 0, Go.Op.assign (Go.Operand.const (Go.Value.slice none 0 0)), 22, none⟩])
    (.seq (.region [⟨some 1, Go.Op.build 44 #[(0, Go.Operand.const (Go.Value.int Go.IntKind.i32 0)), (1, Go.Operand.const (Go.Value.int Go.IntKind.i32 55295))], 44, none⟩,
      ⟨some 2, Go.Op.build 44 #[(0, Go.Operand.const (Go.Value.int Go.IntKind.i32 57344)), (1, Go.Operand.const (Go.Value.int Go.IntKind.i32 1114111))], 44, none⟩,
      ⟨some 3, Go.Op.buildSlice 22 2 #[(0, Go.Operand.tmp 1), (1, Go.Operand.tmp 2)], 22, none⟩,
      ⟨some 0, Go.Op.assign (Go.Operand.tmp 3), 22, none⟩])
    .ret)) :=
  ⟨foll, Tryz.f59, Tryz.func59, by kernel_rfl, by kernel_rfl, by kernel_rfl, by rw [Tryz.ntmps59]; decide⟩

/-- (*narrator.pattern.parser).repeat -/
theorem fn67 : FnIs Tryz.prog 67 1 [Go.ResultVar.cell 2 25] (.seq (.region [⟨some 2, Go.Op.alloc 25, 0, none⟩])
    (.seq (.region [⟨some 4, Go.Op.move (Go.Operand.tmp 0), 51, none⟩,
      ⟨some 5, Go.Op.call { callee := Go.Callee.value (Go.Operand.func 76), args := #[Go.Operand.tmp 4], argTypes := #[51] }, 25, none⟩,
      ⟨some 6, Go.Op.buildSlice 23 1 #[(0, Go.Operand.tmp 5)], 23, none⟩,
      ⟨some 7, Go.Op.build 25 #[(0, Go.Operand.const (Go.Value.int Go.IntKind.i64 5)), (2, Go.Operand.tmp 6), (4, Go.Operand.const (Go.Value.int Go.IntKind.i64 (-1)))], 25, none⟩,
      ⟨some 3, Go.Op.alloc 25, 0, none⟩,
      ⟨none, Go.Op.store 25 (Go.Operand.tmp 3) (Go.Operand.tmp 7), 0, none⟩])
    (.seq (.block 0
      (.seq (.region [⟨some 13, Go.Op.move (Go.Operand.tmp 0), 51, none⟩,
        ⟨some 14, Go.Op.call { callee := Go.Callee.value (Go.Operand.func 45), args := #[Go.Operand.tmp 13, Go.Operand.const (Go.Value.int Go.IntKind.i32 42)], argTypes := #[51, 21] }, 4, none⟩,
        ⟨some 12, Go.Op.assign (Go.Operand.tmp 14), 4, none⟩])
      (.cond (Go.Operand.tmp 12)
        .skip
        (.seq (.region [⟨some 16, Go.Op.move (Go.Operand.tmp 0), 51, none⟩,
          ⟨some 17, Go.Op.call { callee := Go.Callee.value (Go.Operand.func 45), args := #[Go.Operand.tmp 16, Go.Operand.const (Go.Value.int Go.IntKind.i32 43)], argTypes := #[51, 21] }, 4, none⟩,
          ⟨some 15, Go.Op.assign (Go.Operand.tmp 17), 4, none⟩])
        (.cond (Go.Operand.tmp 15)
          (.region [⟨some 18, Go.Op.fieldAddr 25 (Go.Operand.tmp 3) 3, 0, none⟩,
            ⟨none, Go.Op.store 3 (Go.Operand.tmp 18) (Go.Operand.const (Go.Value.int Go.IntKind.i64 1)), 0, none⟩])
          (.seq (.region [⟨some 20, Go.Op.move (Go.Operand.tmp 0), 51, none⟩,
            ⟨some 21, Go.Op.call { callee := Go.Callee.value (Go.Operand.func 45), args := #[Go.Operand.tmp 20, Go.Operand.const (Go.Value.int Go.IntKind.i32 63)], argTypes := #[51, 21] }, 4, none⟩,
            ⟨some 19, Go.Op.assign (Go.Operand.tmp 21), 4, none⟩])
          (.cond (Go.Operand.tmp 19)
            (.region [⟨some 22, Go.Op.fieldAddr 25 (Go.Operand.tmp 3) 4, 0, none⟩,
              ⟨none, Go.Op.store 3 (Go.Operand.tmp 22) (Go.Operand.const (Go.Value.int Go.IntKind.i64 1)), 0, none⟩])
            (.seq (.region [⟨some 24, Go.Op.move (Go.Operand.tmp 0), 51, none⟩,
              ⟨some 25, Go.Op.call { callee := Go.Callee.value (Go.Operand.func 45), args := #[Go.Operand.tmp 24, Go.Operand.const (Go.Value.int Go.IntKind.i32 123)], argTypes := #[51, 21] }, 4, none⟩,
              ⟨some 23, Go.Op.assign (Go.Operand.tmp 25), 4, none⟩])
            (.cond (Go.Operand.tmp 23)
              (.seq (.region [⟨some 26, Go.Op.move (Go.Operand.tmp 0), 51, none⟩,
                ⟨some 27, Go.Op.call { callee := Go.Callee.value (Go.Operand.func 77), args := #[Go.Operand.tmp 26], argTypes := #[51] }, 3, none⟩,
                ⟨some 28, Go.Op.fieldAddr 25 (Go.Operand.tmp 3) 3, 0, none⟩,
                ⟨none, Go.Op.store 3 (Go.Operand.tmp 28) (Go.Operand.tmp 27), 0, none⟩])
              (.seq (.region [⟨some 29, Go.Op.fieldAddr 25 (Go.Operand.tmp 3) 3, 0, none⟩,
                ⟨some 30, Go.Op.load 3 (Go.Operand.tmp 29), 3, none⟩,
                ⟨some 31, Go.Op.fieldAddr 25 (Go.Operand.tmp 3) 4, 0, none⟩,
                ⟨none, Go.Op.store 3 (Go.Operand.tmp 31) (Go.Operand.tmp 30), 0, none⟩])
              (.seq (.seq (.region [⟨some 32, Go.Op.move (Go.Operand.tmp 0), 51, none⟩,
                ⟨some 33, Go.Op.call { callee := Go.Callee.value (Go.Operand.func 45), args := #[Go.Operand.tmp 32, Go.Operand.const (Go.Value.int Go.IntKind.i32 44)], argTypes := #[51, 21] }, 4, none⟩])
              (.cond (Go.Operand.tmp 33)
                (.seq (.region [⟨some 34, Go.Op.fieldAddr 25 (Go.Operand.tmp 3) 4, 0, none⟩,
                  ⟨none, Go.Op.store 3 (Go.Operand.tmp 34) (Go.Operand.const (Go.Value.int Go.IntKind.i64 (-1))), 0, none⟩])
                (.seq (.region [⟨some 35, Go.Op.move (Go.Operand.tmp 0), 51, none⟩,
                  ⟨some 36, Go.Op.call { callee := Go.Callee.value (Go.Operand.func 29), args := #[Go.Operand.tmp 35], argTypes := #[51] }, 21, none⟩,
                  ⟨some 37, Go.Op.binOp Go.BinOp.neq 21 (Go.Operand.tmp 36) (Go.Operand.const (Go.Value.int Go.IntKind.i32 125)) 21, 4, none⟩])
                (.cond (Go.Operand.tmp 37)
                  (.region [⟨some 38, Go.Op.move (Go.Operand.tmp 0), 51, none⟩,
                    ⟨some 39, Go.Op.call { callee := Go.Callee.value (Go.Operand.func 77), args := #[Go.Operand.tmp 38], argTypes := #[51] }, 3, none⟩,
                    ⟨some 40, Go.Op.fieldAddr 25 (Go.Operand.tmp 3) 4, 0, none⟩,
                    ⟨none, Go.Op.store 3 (Go.Operand.tmp 40) (Go.Operand.tmp 39), 0, none⟩])
                  .skip)))
                .skip))
              (.seq (.region [⟨some 41, Go.Op.move (Go.Operand.tmp 0), 51, none⟩,
                ⟨some 42, Go.Op.call { callee := Go.Callee.value (Go.Operand.func 78), args := #[Go.Operand.tmp 41, Go.Operand.const (Go.Value.int Go.IntKind.i32 125)], argTypes := #[51, 21] }, 0, none⟩])
              (.seq (.region [⟨some 43, Go.Op.fieldAddr 25 (Go.Operand.tmp 3) 4, 0, none⟩,
                ⟨some 44, Go.Op.load 3 (Go.Operand.tmp 43), 3, none⟩,
                ⟨some 45, Go.Op.binOp Go.BinOp.geq 3 (Go.Operand.tmp 44) (Go.Operand.const (Go.Value.int Go.IntKind.i64 0)) 3, 4, none⟩,
                ⟨some 46, Go.Op.move (Go.Operand.tmp 45), 4, none⟩,
                ⟨some 47, Go.Op.fieldAddr 25 (Go.Operand.tmp 3) 4, 0, (some (46, true))⟩,
                ⟨some 48, Go.Op.load 3 (Go.Operand.tmp 47), 3, (some (46, true))⟩,
                ⟨some 49, Go.Op.fieldAddr 25 (Go.Operand.tmp 3) 3, 0, (some (46, true))⟩,
                ⟨some 50, Go.Op.load 3 (Go.Operand.tmp 49), 3, (some (46, true))⟩,
                ⟨some 51, Go.Op.binOp Go.BinOp.lss 3 (Go.Operand.tmp 48) (Go.Operand.tmp 50) 3, 4, (some (46, true))⟩,
                ⟨some 52, Go.Op.pick (Go.Operand.tmp 46) (Go.Operand.tmp 51) (Go.Operand.const (Go.Value.bool false)), 4, none⟩])
              (.cond (Go.Operand.tmp 52)
                (.region [⟨some 53, Go.Op.build 49 #[], 49, none⟩,
                  ⟨some 54, Go.Op.makeInterface 49 (Go.Operand.tmp 53), 20, none⟩,
                  ⟨none, Go.Op.panic (Go.Operand.tmp 54), 0, none⟩])
                .skip))))))
              (.seq (.region [⟨some 8, Go.Op.fieldAddr 25 (Go.Operand.tmp 3) 2, 0, none⟩,
                ⟨some 9, Go.Op.load 23 (Go.Operand.tmp 8), 23, none⟩,
                ⟨some 10, Go.Op.indexAddr 23 (Go.Operand.tmp 9) (Go.Operand.const (Go.Value.int Go.IntKind.i64 0)), 0, none⟩,
                ⟨some 11, Go.Op.load 25 (Go.Operand.tmp 10), 25, none⟩,
                ⟨none, Go.Op.store 25 (Go.Operand.tmp 2) (Go.Operand.tmp 11), 0, none⟩])
              .ret))))))))))
    (.seq (.region [⟨some 55, Go.Op.load 25 (Go.Operand.tmp 3), 25, none⟩,
      ⟨none, Go.Op.store 25 (Go.Operand.tmp 2) (Go.Operand.tmp 55), 0, none⟩])
    .ret)))) :=
  ⟨foll, Tryz.f67, Tryz.func67, by kernel_rfl, by kernel_rfl, by kernel_rfl, by rw [Tryz.ntmps67]; decide⟩

/-- (*narrator.pattern.parser).atom -/
theorem fn76 : FnIs Tryz.prog 76 1 [Go.ResultVar.cell 2 25] (.seq (.region [⟨some 2, Go.Op.alloc 25, 0, none⟩])
    (.seq (.region [⟨some 5, Go.Op.move (Go.Operand.tmp 0), 51, none⟩,
      ⟨some 6, Go.Op.call { callee := Go.Callee.value (Go.Operand.func 84), args := #[Go.Operand.tmp 5], argTypes := #[51] }, 21, none⟩,
      ⟨some 3, Go.Op.assign (Go.Operand.tmp 6), 21, none⟩])
    (.seq (.block 0
      (.seq (.region [⟨some 8, Go.Op.move (Go.Operand.tmp 3), 21, none⟩,
        ⟨some 9, Go.Op.binOp Go.BinOp.eql 21 (Go.Operand.tmp 8) (Go.Operand.const (Go.Value.int Go.IntKind.i32 40)) 21, 4, none⟩,
        ⟨some 7, Go.Op.assign (Go.Operand.tmp 9), 4, none⟩])
      (.cond (Go.Operand.tmp 7)
        (.seq (.region [⟨some 10, Go.Op.move (Go.Operand.tmp 0), 51, none⟩,
          ⟨some 11, Go.Op.call { callee := Go.Callee.value (Go.Operand.func 28), args := #[Go.Operand.tmp 10], argTypes := #[51] }, 25, none⟩,
          ⟨some 4, Go.Op.alloc 25, 0, none⟩,
          ⟨none, Go.Op.store 25 (Go.Operand.tmp 4) (Go.Operand.tmp 11), 0, none⟩])
        (.seq (.region [⟨some 12, Go.Op.move (Go.Operand.tmp 0), 51, none⟩,
          ⟨some 13, Go.Op.call { callee := Go.Callee.value (Go.Operand.func 78), args := #[Go.Operand.tmp 12, Go.Operand.const (Go.Value.int Go.IntKind.i32 41)], argTypes := #[51, 21] }, 0, none⟩])
        (.seq (.region [⟨some 14, Go.Op.load 25 (Go.Operand.tmp 4), 25, none⟩,
          ⟨none, Go.Op.store 25 (Go.Operand.tmp 2) (Go.Operand.tmp 14), 0, none⟩])
        .ret)))
        (.seq (.region [⟨some 16, Go.Op.move (Go.Operand.tmp 3), 21, none⟩,
          ⟨some 17, Go.Op.binOp Go.BinOp.eql 21 (Go.Operand.tmp 16) (Go.Operand.const (Go.Value.int Go.IntKind.i32 46)) 21, 4, none⟩,
          ⟨some 15, Go.Op.assign (Go.Operand.tmp 17), 4, none⟩])
        (.cond (Go.Operand.tmp 15)
          (.seq (.region [⟨some 18, Go.Op.call { callee := Go.Callee.value (Go.Operand.func 59), args := #[], argTypes := #[] }, 22, none⟩,
            ⟨some 19, Go.Op.build 25 #[(0, Go.Operand.const (Go.Value.int Go.IntKind.i64 2)), (1, Go.Operand.tmp 18)], 25, none⟩,
            ⟨none, Go.Op.store 25 (Go.Operand.tmp 2) (Go.Operand.tmp 19), 0, none⟩])
          .ret)
          (.seq (.region [⟨some 21, Go.Op.move (Go.Operand.tmp 3), 21, none⟩,
            ⟨some 22, Go.Op.binOp Go.BinOp.eql 21 (Go.Operand.tmp 21) (Go.Operand.const (Go.Value.int Go.IntKind.i32 91)) 21, 4, none⟩,
            ⟨some 20, Go.Op.assign (Go.Operand.tmp 22), 4, none⟩])
          (.cond (Go.Operand.tmp 20)
            (.seq (.region [⟨some 23, Go.Op.move (Go.Operand.tmp 0), 51, none⟩,
              ⟨some 24, Go.Op.call { callee := Go.Callee.value (Go.Operand.func 85), args := #[Go.Operand.tmp 23], argTypes := #[51] }, 22, none⟩,
              ⟨some 25, Go.Op.build 25 #[(0, Go.Operand.const (Go.Value.int Go.IntKind.i64 2)), (1, Go.Operand.tmp 24)], 25, none⟩,
              ⟨none, Go.Op.store 25 (Go.Operand.tmp 2) (Go.Operand.tmp 25), 0, none⟩])
            .ret)
            (.seq (.region [⟨some 27, Go.Op.move (Go.Operand.tmp 3), 21, none⟩,
              ⟨some 28, Go.Op.binOp Go.BinOp.eql 21 (Go.Operand.tmp 27) (Go.Operand.const (Go.Value.int Go.IntKind.i32 92)) 21, 4, none⟩,
              ⟨some 26, Go.Op.assign (Go.Operand.tmp 28), 4, none⟩])
            (.cond (Go.Operand.tmp 26)
              (.region [⟨some 29, Go.Op.move (Go.Operand.tmp 0), 51, none⟩,
                ⟨some 30, Go.Op.call { callee := Go.Callee.value (Go.Operand.func 84), args := #[Go.Operand.tmp 29], argTypes := #[51] }, 21, none⟩,
                ⟨some 3, Go.Op.assign (Go.Operand.tmp 30), 21, none⟩])
              (.seq (.region [⟨some 32, Go.Op.move (Go.Operand.tmp 3), 21, none⟩,
                ⟨some 33, Go.Op.convert 21 9 (Go.Operand.tmp 32), 9, none⟩,
                ⟨some 34, Go.Op.call { callee := Go.Callee.value (Go.Operand.func 72), args := #[Go.Operand.const (Go.Value.string { data := #[92, 40, 41, 91, 93, 123, 125, 124, 42, 43, 63, 46] }), Go.Operand.tmp 33], argTypes := #[9, 9] }, 4, none⟩,
                ⟨some 31, Go.Op.assign (Go.Operand.tmp 34), 4, none⟩])
              (.cond (Go.Operand.tmp 31)
                (.region [⟨some 35, Go.Op.build 49 #[], 49, none⟩,
                  ⟨some 36, Go.Op.makeInterface 49 (Go.Operand.tmp 35), 20, none⟩,
                  ⟨none, Go.Op.panic (Go.Operand.tmp 36), 0, none⟩])
                .skip)))))))))))
    (.seq (.region [⟨some 37, Go.Op.move (Go.Operand.tmp 3), 21, none⟩,
      ⟨some 38, Go.Op.move (Go.Operand.tmp 3), 21, none⟩,
      ⟨some 39, Go.Op.build 44 #[(0, Go.Operand.tmp 37), (1, Go.Operand.tmp 38)], 44, none⟩,
      ⟨some 40, Go.Op.buildSlice 22 1 #[(0, Go.Operand.tmp 39)], 22, none⟩,
      ⟨some 41, Go.Op.build 25 #[(0, Go.Operand.const (Go.Value.int Go.IntKind.i64 2)), (1, Go.Operand.tmp 40)], 25, none⟩,
      ⟨none, Go.Op.store 25 (Go.Operand.tmp 2) (Go.Operand.tmp 41), 0, none⟩])
    .ret)))) :=
  ⟨foll, Tryz.f76, Tryz.func76, by kernel_rfl, by kernel_rfl, by kernel_rfl, by rw [Tryz.ntmps76]; decide⟩

/-- (*narrator.pattern.parser).number -/
theorem fn77 : FnIs Tryz.prog 77 1 [Go.ResultVar.tmp 2] (.seq (.region [⟨some 2, Go.Op.assign (Go.Operand.const (Go.Value.int Go.IntKind.i64 0)), 3, none⟩])
    (.seq (.region [⟨some 5, Go.Op.move (Go.Operand.tmp 0), 51, none⟩,
      ⟨some 6, Go.Op.nilCheck (Go.Operand.tmp 5), 0, none⟩,
      ⟨some 7, Go.Op.fieldAddr 53 (Go.Operand.tmp 6) 1, 0, none⟩,
      ⟨some 8, Go.Op.load 3 (Go.Operand.tmp 7), 3, none⟩,
      ⟨some 3, Go.Op.assign (Go.Operand.tmp 8), 3, none⟩,
      ⟨some 4, Go.Op.assign (Go.Operand.const (Go.Value.int Go.IntKind.i64 0)), 3, none⟩])
    (.seq (.block 0
      (.loop
        (.seq (.seq (.region [⟨some 9, Go.Op.move (Go.Operand.tmp 0), 51, none⟩,
          ⟨some 10, Go.Op.call { callee := Go.Callee.value (Go.Operand.func 29), args := #[Go.Operand.tmp 9], argTypes := #[51] }, 21, none⟩,
          ⟨some 11, Go.Op.binOp Go.BinOp.geq 21 (Go.Operand.tmp 10) (Go.Operand.const (Go.Value.int Go.IntKind.i32 48)) 21, 4, none⟩,
          ⟨some 12, Go.Op.move (Go.Operand.tmp 11), 4, none⟩,
          ⟨some 13, Go.Op.move (Go.Operand.tmp 0), 51, (some (12, true))⟩,
          ⟨some 14, Go.Op.call { callee := Go.Callee.value (Go.Operand.func 29), args := #[Go.Operand.tmp 13], argTypes := #[51] }, 21, (some (12, true))⟩,
          ⟨some 15, Go.Op.binOp Go.BinOp.leq 21 (Go.Operand.tmp 14) (Go.Operand.const (Go.Value.int Go.IntKind.i32 57)) 21, 4, (some (12, true))⟩,
          ⟨some 16, Go.Op.pick (Go.Operand.tmp 12) (Go.Operand.tmp 15) (Go.Operand.const (Go.Value.bool false)), 4, none⟩])
        (.cond (Go.Operand.tmp 16)
          .skip
          (.exit 0)))
        (.block 1
          (.region [⟨some 17, Go.Op.move (Go.Operand.tmp 4), 3, none⟩,
            ⟨some 18, Go.Op.binOp Go.BinOp.mul 3 (Go.Operand.const (Go.Value.int Go.IntKind.i64 10)) (Go.Operand.tmp 17) 3, 3, none⟩,
            ⟨some 19, Go.Op.move (Go.Operand.tmp 0), 51, none⟩,
            ⟨some 20, Go.Op.call { callee := Go.Callee.value (Go.Operand.func 84), args := #[Go.Operand.tmp 19], argTypes := #[51] }, 21, none⟩,
            ⟨some 21, Go.Op.binOp Go.BinOp.sub 21 (Go.Operand.tmp 20) (Go.Operand.const (Go.Value.int Go.IntKind.i32 48)) 21, 21, none⟩,
            ⟨some 22, Go.Op.convert 21 3 (Go.Operand.tmp 21), 3, none⟩,
            ⟨some 23, Go.Op.binOp Go.BinOp.add 3 (Go.Operand.tmp 18) (Go.Operand.tmp 22) 3, 3, none⟩,
            ⟨some 24, Go.Op.call { callee := Go.Callee.builtin Go.Builtin.min, args := #[Go.Operand.tmp 23, Go.Operand.const (Go.Value.int Go.IntKind.i64 1000)], argTypes := #[3, 3] }, 3, none⟩,
            ⟨some 4, Go.Op.assign (Go.Operand.tmp 24), 3, none⟩])))))
    (.seq (.seq (.region [⟨some 25, Go.Op.move (Go.Operand.tmp 0), 51, none⟩,
      ⟨some 26, Go.Op.nilCheck (Go.Operand.tmp 25), 0, none⟩,
      ⟨some 27, Go.Op.fieldAddr 53 (Go.Operand.tmp 26) 1, 0, none⟩,
      ⟨some 28, Go.Op.load 3 (Go.Operand.tmp 27), 3, none⟩,
      ⟨some 29, Go.Op.move (Go.Operand.tmp 3), 3, none⟩,
      ⟨some 30, Go.Op.binOp Go.BinOp.eql 3 (Go.Operand.tmp 28) (Go.Operand.tmp 29) 3, 4, none⟩,
      ⟨some 31, Go.Op.move (Go.Operand.tmp 30), 4, none⟩,
      ⟨some 32, Go.Op.move (Go.Operand.tmp 0), 51, (some (31, false))⟩,
      ⟨some 33, Go.Op.nilCheck (Go.Operand.tmp 32), 0, (some (31, false))⟩,
      ⟨some 34, Go.Op.fieldAddr 53 (Go.Operand.tmp 33) 0, 0, (some (31, false))⟩,
      ⟨some 35, Go.Op.load 42 (Go.Operand.tmp 34), 42, (some (31, false))⟩,
      ⟨some 36, Go.Op.move (Go.Operand.tmp 3), 3, (some (31, false))⟩,
      ⟨some 37, Go.Op.indexAddr 42 (Go.Operand.tmp 35) (Go.Operand.tmp 36), 0, (some (31, false))⟩,
      ⟨some 38, Go.Op.load 21 (Go.Operand.tmp 37), 21, (some (31, false))⟩,
      ⟨some 39, Go.Op.binOp Go.BinOp.eql 21 (Go.Operand.tmp 38) (Go.Operand.const (Go.Value.int Go.IntKind.i32 48)) 21, 4, (some (31, false))⟩,
      ⟨some 40, Go.Op.move (Go.Operand.tmp 39), 4, (some (31, false))⟩,
      ⟨some 41, Go.Op.move (Go.Operand.tmp 0), 51, (some (40, true))⟩,
      ⟨some 42, Go.Op.nilCheck (Go.Operand.tmp 41), 0, (some (40, true))⟩,
      ⟨some 43, Go.Op.fieldAddr 53 (Go.Operand.tmp 42) 1, 0, (some (40, true))⟩,
      ⟨some 44, Go.Op.load 3 (Go.Operand.tmp 43), 3, (some (40, true))⟩,
      ⟨some 45, Go.Op.move (Go.Operand.tmp 3), 3, (some (40, true))⟩,
      ⟨some 46, Go.Op.binOp Go.BinOp.add 3 (Go.Operand.tmp 45) (Go.Operand.const (Go.Value.int Go.IntKind.i64 1)) 3, 3, (some (40, true))⟩,
      ⟨some 47, Go.Op.binOp Go.BinOp.gtr 3 (Go.Operand.tmp 44) (Go.Operand.tmp 46) 3, 4, (some (40, true))⟩,
      ⟨some 48, Go.Op.pick (Go.Operand.tmp 40) (Go.Operand.tmp 47) (Go.Operand.const (Go.Value.bool false)), 4, (some (31, false))⟩,
      ⟨some 49, Go.Op.pick (Go.Operand.tmp 31) (Go.Operand.const (Go.Value.bool true)) (Go.Operand.tmp 48), 4, none⟩,
      ⟨some 50, Go.Op.move (Go.Operand.tmp 49), 4, none⟩,
      ⟨some 51, Go.Op.move (Go.Operand.tmp 4), 3, (some (50, false))⟩,
      ⟨some 52, Go.Op.binOp Go.BinOp.gtr 3 (Go.Operand.tmp 51) (Go.Operand.const (Go.Value.int Go.IntKind.i64 20)) 3, 4, (some (50, false))⟩,
      ⟨some 53, Go.Op.pick (Go.Operand.tmp 50) (Go.Operand.const (Go.Value.bool true)) (Go.Operand.tmp 52), 4, none⟩])
    (.cond (Go.Operand.tmp 53)
      (.region [⟨some 54, Go.Op.build 49 #[], 49, none⟩,
        ⟨some 55, Go.Op.makeInterface 49 (Go.Operand.tmp 54), 20, none⟩,
        ⟨none, Go.Op.panic (Go.Operand.tmp 55), 0, none⟩])
      .skip))
    (.seq (.region [⟨some 56, Go.Op.move (Go.Operand.tmp 4), 3, none⟩,
      ⟨some 2, Go.Op.assign (Go.Operand.tmp 56), 3, none⟩])
    .ret))))) :=
  ⟨foll, Tryz.f77, Tryz.func77, by kernel_rfl, by kernel_rfl, by kernel_rfl, by rw [Tryz.ntmps77]; decide⟩

/-- (*narrator.pattern.parser).must -/
theorem fn78 : FnIs Tryz.prog 78 2 [] (.seq (.region [⟨some 4, Go.Op.move (Go.Operand.tmp 0), 51, none⟩,
      ⟨some 5, Go.Op.move (Go.Operand.tmp 1), 21, none⟩,
      ⟨some 6, Go.Op.call { callee := Go.Callee.value (Go.Operand.func 45), args := #[Go.Operand.tmp 4, Go.Operand.tmp 5], argTypes := #[51, 21] }, 4, none⟩,
      ⟨some 7, Go.Op.unOp Go.UnOp.not 4 (Go.Operand.tmp 6), 4, none⟩])
    (.cond (Go.Operand.tmp 7)
      (.region [⟨some 8, Go.Op.build 49 #[], 49, none⟩,
        ⟨some 9, Go.Op.makeInterface 49 (Go.Operand.tmp 8), 20, none⟩,
        ⟨none, Go.Op.panic (Go.Operand.tmp 9), 0, none⟩])
      .skip)) :=
  ⟨foll, Tryz.f78, Tryz.func78, by kernel_rfl, by kernel_rfl, by kernel_rfl, by rw [Tryz.ntmps78]; decide⟩

/-- (*narrator.pattern.parser).next -/
theorem fn84 : FnIs Tryz.prog 84 1 [Go.ResultVar.tmp 2] (.seq (.region [⟨some 2, Go.Op.assign (Go.Operand.const (Go.Value.int Go.IntKind.i32 0)), 21, none⟩])
    (.seq (.region [⟨some 4, Go.Op.move (Go.Operand.tmp 0), 51, none⟩,
      ⟨some 5, Go.Op.call { callee := Go.Callee.value (Go.Operand.func 29), args := #[Go.Operand.tmp 4], argTypes := #[51] }, 21, none⟩,
      ⟨some 3, Go.Op.assign (Go.Operand.tmp 5), 21, none⟩])
    (.seq (.seq (.region [⟨some 6, Go.Op.move (Go.Operand.tmp 3), 21, none⟩,
      ⟨some 7, Go.Op.binOp Go.BinOp.lss 21 (Go.Operand.tmp 6) (Go.Operand.const (Go.Value.int Go.IntKind.i32 0)) 21, 4, none⟩])
    (.cond (Go.Operand.tmp 7)
      (.region [⟨some 8, Go.Op.build 49 #[], 49, none⟩,
        ⟨some 9, Go.Op.makeInterface 49 (Go.Operand.tmp 8), 20, none⟩,
        ⟨none, Go.Op.panic (Go.Operand.tmp 9), 0, none⟩])
      .skip))
    (.seq (.region [⟨some 10, Go.Op.move (Go.Operand.tmp 0), 51, none⟩,
      ⟨some 11, Go.Op.nilCheck (Go.Operand.tmp 10), 0, none⟩,
      ⟨some 12, Go.Op.fieldAddr 53 (Go.Operand.tmp 11) 1, 0, none⟩,
      ⟨some 13, Go.Op.load 3 (Go.Operand.tmp 12), 3, none⟩,
      ⟨some 14, Go.Op.binOp Go.BinOp.add 3 (Go.Operand.tmp 13) (Go.Operand.const (Go.Value.int Go.IntKind.i64 1)) 3, 3, none⟩,
      ⟨some 15, Go.Op.nilCheck (Go.Operand.tmp 10), 0, none⟩,
      ⟨some 16, Go.Op.fieldAddr 53 (Go.Operand.tmp 15) 1, 0, none⟩,
      ⟨none, Go.Op.store 3 (Go.Operand.tmp 16) (Go.Operand.tmp 14), 0, none⟩])
    (.seq (.region [⟨some 17, Go.Op.move (Go.Operand.tmp 3), 21, none⟩,
      ⟨some 2, Go.Op.assign (Go.Operand.tmp 17), 21, none⟩])
    .ret))))) :=
  ⟨foll, Tryz.f84, Tryz.func84, by kernel_rfl, by kernel_rfl, by kernel_rfl, by rw [Tryz.ntmps84]; decide⟩

/-- (*narrator.pattern.parser).class -/
theorem fn85 : FnIs Tryz.prog 85 1 [Go.ResultVar.tmp 2] (.seq (.region [⟨some 2, Go.Op.assign (Go.Operand.const (Go.Value.slice none 0 0)), 22, none⟩])
    (.seq (.region [⟨some 7, Go.Op.move (Go.Operand.tmp 0), 51, none⟩,
      ⟨some 8, Go.Op.call { callee := Go.Callee.value (Go.Operand.func 45), args := #[Go.Operand.tmp 7, Go.Operand.const (Go.Value.int Go.IntKind.i32 94)], argTypes := #[51, 21] }, 4, none⟩,
      ⟨some 3, Go.Op.assign (Go.Operand.tmp 8), 4, none⟩])
    (.seq (.region [⟨some 4, Go.Op.assign (Go.Operand.const (Go.Value.slice none 0 0)), 22, none⟩])
    (.seq (.block 0
      (.loop
        (.seq (.seq (.region [⟨some 9, Go.Op.move (Go.Operand.tmp 4), 22, none⟩,
          ⟨some 10, Go.Op.call { callee := Go.Callee.builtin Go.Builtin.len, args := #[Go.Operand.tmp 9], argTypes := #[22] }, 3, none⟩,
          ⟨some 11, Go.Op.binOp Go.BinOp.eql 3 (Go.Operand.tmp 10) (Go.Operand.const (Go.Value.int Go.IntKind.i64 0)) 3, 4, none⟩,
          ⟨some 12, Go.Op.move (Go.Operand.tmp 11), 4, none⟩,
          ⟨some 13, Go.Op.move (Go.Operand.tmp 0), 51, (some (12, false))⟩,
          ⟨some 14, Go.Op.call { callee := Go.Callee.value (Go.Operand.func 45), args := #[Go.Operand.tmp 13, Go.Operand.const (Go.Value.int Go.IntKind.i32 93)], argTypes := #[51, 21] }, 4, (some (12, false))⟩,
          ⟨some 15, Go.Op.unOp Go.UnOp.not 4 (Go.Operand.tmp 14), 4, (some (12, false))⟩,
          ⟨some 16, Go.Op.pick (Go.Operand.tmp 12) (Go.Operand.const (Go.Value.bool true)) (Go.Operand.tmp 15), 4, none⟩])
        (.cond (Go.Operand.tmp 16)
          .skip
          (.exit 0)))
        (.block 1
          (.seq (.region [⟨some 17, Go.Op.move (Go.Operand.tmp 0), 51, none⟩,
            ⟨some 18, Go.Op.call { callee := Go.Callee.value (Go.Operand.func 91), args := #[Go.Operand.tmp 17], argTypes := #[51] }, 21, none⟩,
            ⟨some 5, Go.Op.assign (Go.Operand.tmp 18), 21, none⟩])
          (.seq (.region [⟨some 19, Go.Op.move (Go.Operand.tmp 5), 21, none⟩,
            ⟨some 6, Go.Op.assign (Go.Operand.tmp 19), 21, none⟩])
          (.seq (.seq (.region [⟨some 20, Go.Op.move (Go.Operand.tmp 0), 51, none⟩,
            ⟨some 21, Go.Op.call { callee := Go.Callee.value (Go.Operand.func 45), args := #[Go.Operand.tmp 20, Go.Operand.const (Go.Value.int Go.IntKind.i32 45)], argTypes := #[51, 21] }, 4, none⟩])
          (.cond (Go.Operand.tmp 21)
            (.region [⟨some 22, Go.Op.move (Go.Operand.tmp 0), 51, none⟩,
              ⟨some 23, Go.Op.call { callee := Go.Callee.value (Go.Operand.func 91), args := #[Go.Operand.tmp 22], argTypes := #[51] }, 21, none⟩,
              ⟨some 6, Go.Op.assign (Go.Operand.tmp 23), 21, none⟩])
            .skip))
          (.seq (.seq (.region [⟨some 24, Go.Op.move (Go.Operand.tmp 6), 21, none⟩,
            ⟨some 25, Go.Op.move (Go.Operand.tmp 5), 21, none⟩,
            ⟨some 26, Go.Op.binOp Go.BinOp.lss 21 (Go.Operand.tmp 24) (Go.Operand.tmp 25) 21, 4, none⟩])
          (.cond (Go.Operand.tmp 26)
            (.region [⟨some 27, Go.Op.build 49 #[], 49, none⟩,
              ⟨some 28, Go.Op.makeInterface 49 (Go.Operand.tmp 27), 20, none⟩,
              ⟨none, Go.Op.panic (Go.Operand.tmp 28), 0, none⟩])
            .skip))
          (.region [⟨some 29, Go.Op.move (Go.Operand.tmp 4), 22, none⟩,
            ⟨some 30, Go.Op.move (Go.Operand.tmp 5), 21, none⟩,
            ⟨some 31, Go.Op.move (Go.Operand.tmp 6), 21, none⟩,
            ⟨some 32, Go.Op.call { callee := Go.Callee.value (Go.Operand.func 92), args := #[Go.Operand.tmp 30, Go.Operand.tmp 31], argTypes := #[21, 21] }, 22, none⟩,
            ⟨some 33, Go.Op.call { callee := Go.Callee.builtin Go.Builtin.append, args := #[Go.Operand.tmp 29, Go.Operand.tmp 32], argTypes := #[22, 22] }, 22, none⟩,
            ⟨some 4, Go.Op.assign (Go.Operand.tmp 33), 22, none⟩])))))))))
    (.seq (.region [⟨some 34, Go.Op.move (Go.Operand.tmp 4), 22, none⟩,
      ⟨some 35, Go.Op.call { callee := Go.Callee.value (Go.Operand.func 93), args := #[Go.Operand.tmp 34], argTypes := #[22] }, 22, none⟩,
      ⟨some 4, Go.Op.assign (Go.Operand.tmp 35), 22, none⟩])
    (.seq (.seq (.region [⟨some 36, Go.Op.move (Go.Operand.tmp 3), 4, none⟩])
    (.cond (Go.Operand.tmp 36)
      (.region [⟨some 37, Go.Op.move (Go.Operand.tmp 4), 22, none⟩,
        ⟨some 38, Go.Op.call { callee := Go.Callee.value (Go.Operand.func 94), args := #[Go.Operand.tmp 37], argTypes := #[22] }, 22, none⟩,
        ⟨some 4, Go.Op.assign (Go.Operand.tmp 38), 22, none⟩])
      .skip))
    (.seq (.region [⟨some 39, Go.Op.move (Go.Operand.tmp 4), 22, none⟩,
      ⟨some 2, Go.Op.assign (Go.Operand.tmp 39), 22, none⟩])
    .ret))))))) :=
  ⟨foll, Tryz.f85, Tryz.func85, by kernel_rfl, by kernel_rfl, by kernel_rfl, by rw [Tryz.ntmps85]; decide⟩

/-- (*narrator.pattern.parser).letter -/
theorem fn91 : FnIs Tryz.prog 91 1 [Go.ResultVar.tmp 2] (.seq (.region [⟨some 2, Go.Op.assign (Go.Operand.const (Go.Value.int Go.IntKind.i32 0)), 21, none⟩])
    (.seq (.region [⟨some 4, Go.Op.move (Go.Operand.tmp 0), 51, none⟩,
      ⟨some 5, Go.Op.call { callee := Go.Callee.value (Go.Operand.func 84), args := #[Go.Operand.tmp 4], argTypes := #[51] }, 21, none⟩,
      ⟨some 3, Go.Op.assign (Go.Operand.tmp 5), 21, none⟩])
    (.seq (.seq (.region [⟨some 6, Go.Op.move (Go.Operand.tmp 3), 21, none⟩])
    (.block 0
      (.seq (.region [⟨some 8, Go.Op.binOp Go.BinOp.eql 21 (Go.Operand.tmp 6) (Go.Operand.const (Go.Value.int Go.IntKind.i32 92)) 21, 4, none⟩,
        ⟨some 7, Go.Op.assign (Go.Operand.tmp 8), 4, none⟩])
      (.cond (Go.Operand.tmp 7)
        (.seq (.region [⟨some 9, Go.Op.move (Go.Operand.tmp 0), 51, none⟩,
          ⟨some 10, Go.Op.call { callee := Go.Callee.value (Go.Operand.func 84), args := #[Go.Operand.tmp 9], argTypes := #[51] }, 21, none⟩,
          ⟨some 2, Go.Op.assign (Go.Operand.tmp 10), 21, none⟩])
        .ret)
        (.seq (.seq (.region [⟨some 12, Go.Op.binOp Go.BinOp.eql 21 (Go.Operand.tmp 6) (Go.Operand.const (Go.Value.int Go.IntKind.i32 93)) 21, 4, none⟩,
          ⟨some 11, Go.Op.assign (Go.Operand.tmp 12), 4, none⟩])
        (.cond (Go.Operand.tmp 11)
          .skip
          (.seq (.region [⟨some 13, Go.Op.binOp Go.BinOp.eql 21 (Go.Operand.tmp 6) (Go.Operand.const (Go.Value.int Go.IntKind.i32 94)) 21, 4, none⟩,
            ⟨some 11, Go.Op.assign (Go.Operand.tmp 13), 4, none⟩])
          (.cond (Go.Operand.tmp 11)
            .skip
            (.region [⟨some 14, Go.Op.binOp Go.BinOp.eql 21 (Go.Operand.tmp 6) (Go.Operand.const (Go.Value.int Go.IntKind.i32 45)) 21, 4, none⟩,
              ⟨some 11, Go.Op.assign (Go.Operand.tmp 14), 4, none⟩])))))
        (.cond (Go.Operand.tmp 11)
          (.region [⟨some 15, Go.Op.build 49 #[], 49, none⟩,
            ⟨some 16, Go.Op.makeInterface 49 (Go.Operand.tmp 15), 20, none⟩,
            ⟨none, Go.Op.panic (Go.Operand.tmp 16), 0, none⟩])
          .skip))))))
    (.seq (.region [⟨some 17, Go.Op.move (Go.Operand.tmp 3), 21, none⟩,
      ⟨some 2, Go.Op.assign (Go.Operand.tmp 17), 21, none⟩])
    .ret)))) :=
  ⟨foll, Tryz.f91, Tryz.func91, by kernel_rfl, by kernel_rfl, by kernel_rfl, by rw [Tryz.ntmps91]; decide⟩

/-- narrator.pattern.clip -/
theorem fn92 : FnIs Tryz.prog 92 2 [Go.ResultVar.tmp 4] (.seq (.region [⟨some 4, Go.Op.assign (Go.Operand.const (Go.Value.slice none 0 0)), 22, none⟩])
    (.seq (.region [⟨some 5, Go.Op.assign (Go.Operand.const (Go.Value.slice none 0 0)), 22, none⟩])
    (.seq (.seq (.region [⟨some 10, Go.Op.call { callee := Go.Callee.value (Go.Operand.func 59), args := #[], argTypes := #[] }, 22, none⟩,
      ⟨some 11, Go.Op.call { callee := Go.Callee.builtin Go.Builtin.len, args := #[Go.Operand.tmp 10], argTypes := #[22] }, 3, none⟩,
      ⟨some 12, Go.Op.move (Go.Operand.const (Go.Value.int Go.IntKind.i64 0)), 3, none⟩])
    (.block 0
      (.loop
        (.seq (.region [⟨some 13, Go.Op.binOp Go.BinOp.lss 3 (Go.Operand.tmp 12) (Go.Operand.tmp 11) 3, 0, none⟩])
        (.seq (.cond (Go.Operand.tmp 13)
          .skip
          (.exit 0))
        (.seq (.block 1
          (.seq (.region [⟨some 14, Go.Op.indexAddr 22 (Go.Operand.tmp 10) (Go.Operand.tmp 12), 0, none⟩,
            ⟨some 15, Go.Op.load 44 (Go.Operand.tmp 14), 44, none⟩,
            ⟨some 7, Go.Op.alloc 44, 0, none⟩,
            ⟨none, Go.Op.store 44 (Go.Operand.tmp 7) (Go.Operand.tmp 15), 0, none⟩])
          (.seq (.draw [⟨⟨some 16, Go.Op.move (Go.Operand.tmp 0), 21, none⟩, false, false, false⟩,
            ⟨⟨some 17, Go.Op.fieldAddr 44 (Go.Operand.tmp 7) 0, 0, none⟩, false, false, false⟩,
            ⟨⟨some 18, Go.Op.load 21 (Go.Operand.tmp 17), 21, none⟩, false, false, false⟩,
            ⟨⟨some 19, Go.Op.call { callee := Go.Callee.builtin Go.Builtin.max, args := #[Go.Operand.tmp 16, Go.Operand.tmp 18], argTypes := #[21, 21] }, 21, none⟩, false, false, false⟩,
            ⟨⟨some 20, Go.Op.move (Go.Operand.tmp 1), 21, none⟩, false, false, false⟩,
            ⟨⟨some 21, Go.Op.fieldAddr 44 (Go.Operand.tmp 7) 1, 0, none⟩, false, false, false⟩,
            ⟨⟨some 22, Go.Op.load 21 (Go.Operand.tmp 21), 21, none⟩, false, false, false⟩,
            ⟨⟨some 23, Go.Op.call { callee := Go.Callee.builtin Go.Builtin.min, args := #[Go.Operand.tmp 20, Go.Operand.tmp 22], argTypes := #[21, 21] }, 21, none⟩, false, false, false⟩,
            ⟨⟨some 8, Go.Op.assign (Go.Operand.tmp 19), 21, none⟩, false, false, false⟩,
            ⟨⟨some 9, Go.Op.assign (Go.Operand.tmp 23), 21, none⟩, false, false, false⟩])
          (.seq (.region [⟨some 24, Go.Op.move (Go.Operand.tmp 8), 21, none⟩,
            ⟨some 25, Go.Op.move (Go.Operand.tmp 9), 21, none⟩,
            ⟨some 26, Go.Op.binOp Go.BinOp.leq 21 (Go.Operand.tmp 24) (Go.Operand.tmp 25) 21, 4, none⟩])
          (.cond (Go.Operand.tmp 26)
            (.region [⟨some 27, Go.Op.move (Go.Operand.tmp 5), 22, none⟩,
              ⟨some 28, Go.Op.move (Go.Operand.tmp 8), 21, none⟩,
              ⟨some 29, Go.Op.move (Go.Operand.tmp 9), 21, none⟩,
              ⟨some 30, Go.Op.build 44 #[(0, Go.Operand.tmp 28), (1, Go.Operand.tmp 29)], 44, none⟩,
              ⟨some 31, Go.Op.buildSlice 22 1 #[(0, Go.Operand.tmp 30)], 22, none⟩,
              ⟨some 32, Go.Op.call { callee := Go.Callee.builtin Go.Builtin.append, args := #[Go.Operand.tmp 27, Go.Operand.tmp 31], argTypes := #[22, 22] }, 22, none⟩,
              ⟨some 5, Go.Op.assign (Go.Operand.tmp 32), 22, none⟩])
            .skip)))))
        (.region [⟨some 33, Go.Op.binOp Go.BinOp.add 3 (Go.Operand.tmp 12) (Go.Operand.const (Go.Value.int Go.IntKind.i64 1)) 3, 3, none⟩,
          ⟨some 12, Go.Op.move (Go.Operand.tmp 33), 3, none⟩])))))))
    (.seq (.region [⟨some 34, Go.Op.move (Go.Operand.tmp 5), 22, none⟩,
      ⟨some 4, Go.Op.assign (Go.Operand.tmp 34), 22, none⟩])
    .ret)))) :=
  ⟨foll, Tryz.f92, Tryz.func92, by kernel_rfl, by kernel_rfl, by kernel_rfl, by rw [Tryz.ntmps92]; decide⟩

/-- narrator.pattern.normal -/
theorem fn93 : FnIs Tryz.prog 93 1 [Go.ResultVar.tmp 2] (.seq (.region [⟨some 2, Go.Op.assign (Go.Operand.const (Go.Value.slice none 0 0)), 22, none⟩])
    (.seq (.region [⟨some 7, Go.Op.move (Go.Operand.tmp 0), 22, none⟩,
      ⟨some 8, Go.Op.call { callee := Go.Callee.value (Go.Operand.func 104), args := #[Go.Operand.tmp 7, Go.Operand.func 105], argTypes := #[22, 130] }, 0, none⟩])
    (.seq (.region [⟨some 3, Go.Op.assign (Go.Operand.const (Go.Value.slice none 0 0)), 22, none⟩])
    (.seq (.seq (.region [⟨some 9, Go.Op.move (Go.Operand.tmp 0), 22, none⟩,
      ⟨some 10, Go.Op.call { callee := Go.Callee.builtin Go.Builtin.len, args := #[Go.Operand.tmp 9], argTypes := #[22] }, 3, none⟩,
      ⟨some 11, Go.Op.move (Go.Operand.const (Go.Value.int Go.IntKind.i64 0)), 3, none⟩])
    (.block 0
      (.loop
        (.seq (.region [⟨some 12, Go.Op.binOp Go.BinOp.lss 3 (Go.Operand.tmp 11) (Go.Operand.tmp 10) 3, 0, none⟩])
        (.seq (.cond (Go.Operand.tmp 12)
          .skip
          (.exit 0))
        (.seq (.block 1
          (.seq (.region [⟨some 13, Go.Op.indexAddr 22 (Go.Operand.tmp 9) (Go.Operand.tmp 11), 0, none⟩,
            ⟨some 14, Go.Op.load 44 (Go.Operand.tmp 13), 44, none⟩,
            ⟨some 5, Go.Op.alloc 44, 0, none⟩,
            ⟨none, Go.Op.store 44 (Go.Operand.tmp 5) (Go.Operand.tmp 14), 0, none⟩])
          (.seq (.region [⟨some 15, Go.Op.move (Go.Operand.tmp 3), 22, none⟩,
            ⟨some 16, Go.Op.call { callee := Go.Callee.builtin Go.Builtin.len, args := #[Go.Operand.tmp 15], argTypes := #[22] }, 3, none⟩,
            ⟨some 6, Go.Op.assign (Go.Operand.tmp 16), 3, none⟩])
          (.seq (.draw [⟨⟨some 17, Go.Op.move (Go.Operand.tmp 6), 3, none⟩, false, false, false⟩,
            ⟨⟨some 18, Go.Op.binOp Go.BinOp.gtr 3 (Go.Operand.tmp 17) (Go.Operand.const (Go.Value.int Go.IntKind.i64 0)) 3, 4, none⟩, false, false, false⟩,
            ⟨⟨some 19, Go.Op.move (Go.Operand.tmp 18), 4, none⟩, false, false, false⟩,
            ⟨⟨some 20, Go.Op.fieldAddr 44 (Go.Operand.tmp 5) 0, 0, (some (19, true))⟩, false, false, false⟩,
            ⟨⟨some 21, Go.Op.load 21 (Go.Operand.tmp 20), 21, (some (19, true))⟩, false, false, false⟩,
            ⟨⟨some 22, Go.Op.move (Go.Operand.tmp 3), 22, (some (19, true))⟩, false, false, false⟩,
            ⟨⟨some 23, Go.Op.move (Go.Operand.tmp 6), 3, (some (19, true))⟩, false, false, false⟩,
            ⟨⟨some 24, Go.Op.binOp Go.BinOp.sub 3 (Go.Operand.tmp 23) (Go.Operand.const (Go.Value.int Go.IntKind.i64 1)) 3, 3, (some (19, true))⟩, false, false, false⟩,
            ⟨⟨some 25, Go.Op.indexAddr 22 (Go.Operand.tmp 22) (Go.Operand.tmp 24), 0, (some (19, true))⟩, false, false, false⟩,
            ⟨⟨some 26, Go.Op.fieldAddr 44 (Go.Operand.tmp 25) 1, 0, (some (19, true))⟩, false, false, false⟩,
            ⟨⟨some 27, Go.Op.load 21 (Go.Operand.tmp 26), 21, (some (19, true))⟩, false, false, false⟩,
            ⟨⟨some 28, Go.Op.binOp Go.BinOp.add 21 (Go.Operand.tmp 27) (Go.Operand.const (Go.Value.int Go.IntKind.i32 1)) 21, 21, (some (19, true))⟩, false, false, false⟩,
            ⟨⟨some 29, Go.Op.binOp Go.BinOp.leq 21 (Go.Operand.tmp 21) (Go.Operand.tmp 28) 21, 4, (some (19, true))⟩, false, false, false⟩,
            ⟨⟨some 30, Go.Op.pick (Go.Operand.tmp 19) (Go.Operand.tmp 29) (Go.Operand.const (Go.Value.bool false)), 4, none⟩, false, false, false⟩])
          (.cond (Go.Operand.tmp 30)
            (.draw [⟨⟨some 31, Go.Op.move (Go.Operand.tmp 3), 22, none⟩, false, false, false⟩,
              ⟨⟨some 32, Go.Op.move (Go.Operand.tmp 6), 3, none⟩, false, false, false⟩,
              ⟨⟨some 33, Go.Op.binOp Go.BinOp.sub 3 (Go.Operand.tmp 32) (Go.Operand.const (Go.Value.int Go.IntKind.i64 1)) 3, 3, none⟩, false, false, false⟩,
              ⟨⟨some 34, Go.Op.move (Go.Operand.tmp 3), 22, none⟩, false, false, false⟩,
              ⟨⟨some 35, Go.Op.move (Go.Operand.tmp 6), 3, none⟩, false, false, false⟩,
              ⟨⟨some 36, Go.Op.binOp Go.BinOp.sub 3 (Go.Operand.tmp 35) (Go.Operand.const (Go.Value.int Go.IntKind.i64 1)) 3, 3, none⟩, false, false, false⟩,
              ⟨⟨some 37, Go.Op.indexAddr 22 (Go.Operand.tmp 34) (Go.Operand.tmp 36), 0, none⟩, false, false, false⟩,
              ⟨⟨some 38, Go.Op.fieldAddr 44 (Go.Operand.tmp 37) 1, 0, none⟩, false, false, false⟩,
              ⟨⟨some 39, Go.Op.load 21 (Go.Operand.tmp 38), 21, none⟩, false, false, false⟩,
              ⟨⟨some 40, Go.Op.fieldAddr 44 (Go.Operand.tmp 5) 1, 0, none⟩, false, false, false⟩,
              ⟨⟨some 41, Go.Op.load 21 (Go.Operand.tmp 40), 21, none⟩, false, false, false⟩,
              ⟨⟨some 42, Go.Op.call { callee := Go.Callee.builtin Go.Builtin.max, args := #[Go.Operand.tmp 39, Go.Operand.tmp 41], argTypes := #[21, 21] }, 21, none⟩, false, false, false⟩,
              ⟨⟨some 43, Go.Op.indexAddr 22 (Go.Operand.tmp 31) (Go.Operand.tmp 33), 0, none⟩, false, false, false⟩,
              ⟨⟨some 44, Go.Op.fieldAddr 44 (Go.Operand.tmp 43) 1, 0, none⟩, false, false, false⟩,
              ⟨⟨none, Go.Op.store 21 (Go.Operand.tmp 44) (Go.Operand.tmp 42), 0, none⟩, true, false, false⟩])
            (.region [⟨some 45, Go.Op.move (Go.Operand.tmp 3), 22, none⟩,
              ⟨some 46, Go.Op.load 44 (Go.Operand.tmp 5), 44, none⟩,
              ⟨some 47, Go.Op.buildSlice 22 1 #[(0, Go.Operand.tmp 46)], 22, none⟩,
              ⟨some 48, Go.Op.call { callee := Go.Callee.builtin Go.Builtin.append, args := #[Go.Operand.tmp 45, Go.Operand.tmp 47], argTypes := #[22, 22] }, 22, none⟩,
              ⟨some 3, Go.Op.assign (Go.Operand.tmp 48), 22, none⟩]))))))
        (.region [⟨some 49, Go.Op.binOp Go.BinOp.add 3 (Go.Operand.tmp 11) (Go.Operand.const (Go.Value.int Go.IntKind.i64 1)) 3, 3, none⟩,
          ⟨some 11, Go.Op.move (Go.Operand.tmp 49), 3, none⟩])))))))
    (.seq (.region [⟨some 50, Go.Op.move (Go.Operand.tmp 3), 22, none⟩,
      ⟨some 2, Go.Op.assign (Go.Operand.tmp 50), 22, none⟩])
    .ret))))) :=
  ⟨foll, Tryz.f93, Tryz.func93, by kernel_rfl, by kernel_rfl, by kernel_rfl, by rw [Tryz.ntmps93]; decide⟩

/-- narrator.pattern.complement -/
theorem fn94 : FnIs Tryz.prog 94 1 [Go.ResultVar.tmp 2] (.seq (.region [⟨some 2, Go.Op.assign (Go.Operand.const (Go.Value.slice none 0 0)), 22, none⟩])
    (.seq (.region [⟨some 3, Go.Op.assign (Go.Operand.const (Go.Value.slice none 0 0)), 22, none⟩])
    (.seq (.region [⟨some 4, Go.Op.assign (Go.Operand.const (Go.Value.int Go.IntKind.i32 0)), 21, none⟩])
    (.seq (.seq (.region [⟨some 7, Go.Op.move (Go.Operand.tmp 0), 22, none⟩,
      ⟨some 8, Go.Op.call { callee := Go.Callee.builtin Go.Builtin.len, args := #[Go.Operand.tmp 7], argTypes := #[22] }, 3, none⟩,
      ⟨some 9, Go.Op.move (Go.Operand.const (Go.Value.int Go.IntKind.i64 0)), 3, none⟩])
    (.block 0
      (.loop
        (.seq (.region [⟨some 10, Go.Op.binOp Go.BinOp.lss 3 (Go.Operand.tmp 9) (Go.Operand.tmp 8) 3, 0, none⟩])
        (.seq (.cond (Go.Operand.tmp 10)
          .skip
          (.exit 0))
        (.seq (.block 1
          (.seq (.region [⟨some 11, Go.Op.indexAddr 22 (Go.Operand.tmp 7) (Go.Operand.tmp 9), 0, none⟩,
            ⟨some 12, Go.Op.load 44 (Go.Operand.tmp 11), 44, none⟩,
            ⟨some 6, Go.Op.alloc 44, 0, none⟩,
            ⟨none, Go.Op.store 44 (Go.Operand.tmp 6) (Go.Operand.tmp 12), 0, none⟩])
          (.seq (.region [⟨some 13, Go.Op.move (Go.Operand.tmp 3), 22, none⟩,
            ⟨some 14, Go.Op.move (Go.Operand.tmp 4), 21, none⟩,
            ⟨some 15, Go.Op.fieldAddr 44 (Go.Operand.tmp 6) 0, 0, none⟩,
            ⟨some 16, Go.Op.load 21 (Go.Operand.tmp 15), 21, none⟩,
            ⟨some 17, Go.Op.binOp Go.BinOp.sub 21 (Go.Operand.tmp 16) (Go.Operand.const (Go.Value.int Go.IntKind.i32 1)) 21, 21, none⟩,
            ⟨some 18, Go.Op.call { callee := Go.Callee.value (Go.Operand.func 92), args := #[Go.Operand.tmp 14, Go.Operand.tmp 17], argTypes := #[21, 21] }, 22, none⟩,
            ⟨some 19, Go.Op.call { callee := Go.Callee.builtin Go.Builtin.append, args := #[Go.Operand.tmp 13, Go.Operand.tmp 18], argTypes := #[22, 22] }, 22, none⟩,
            ⟨some 3, Go.Op.assign (Go.Operand.tmp 19), 22, none⟩])
          (.region [⟨some 20, Go.Op.fieldAddr 44 (Go.Operand.tmp 6) 1, 0, none⟩,
            ⟨some 21, Go.Op.load 21 (Go.Operand.tmp 20), 21, none⟩,
            ⟨some 22, Go.Op.binOp Go.BinOp.add 21 (Go.Operand.tmp 21) (Go.Operand.const (Go.Value.int Go.IntKind.i32 1)) 21, 21, none⟩,
            ⟨some 4, Go.Op.assign (Go.Operand.tmp 22), 21, none⟩]))))
        (.region [⟨some 23, Go.Op.binOp Go.BinOp.add 3 (Go.Operand.tmp 9) (Go.Operand.const (Go.Value.int Go.IntKind.i64 1)) 3, 3, none⟩,
          ⟨some 9, Go.Op.move (Go.Operand.tmp 23), 3, none⟩])))))))
    (.seq (.region [⟨some 24, Go.Op.move (Go.Operand.tmp 3), 22, none⟩,
      ⟨some 25, Go.Op.move (Go.Operand.tmp 4), 21, none⟩,
      ⟨some 26, Go.Op.call { callee := Go.Callee.value (Go.Operand.func 92), args := #[Go.Operand.tmp 25, Go.Operand.const (Go.Value.int Go.IntKind.i32 1114111)], argTypes := #[21, 21] }, 22, none⟩,
      ⟨some 27, Go.Op.call { callee := Go.Callee.builtin Go.Builtin.append, args := #[Go.Operand.tmp 24, Go.Operand.tmp 26], argTypes := #[22, 22] }, 22, none⟩,
      ⟨some 2, Go.Op.assign (Go.Operand.tmp 27), 22, none⟩])
    .ret))))) :=
  ⟨foll, Tryz.f94, Tryz.func94, by kernel_rfl, by kernel_rfl, by kernel_rfl, by rw [Tryz.ntmps94]; decide⟩

/-- narrator.pattern.normal$1 -/
theorem fn105 : FnIs Tryz.prog 105 2 [Go.ResultVar.tmp 4] (.seq (.region [⟨some 2, Go.Op.box 44 (Go.Operand.tmp 0), 0, none⟩,
      ⟨some 3, Go.Op.box 44 (Go.Operand.tmp 1), 0, none⟩,
      ⟨some 4, Go.Op.assign (Go.Operand.const (Go.Value.int Go.IntKind.i64 0)), 3, none⟩])
    (.seq (.region [⟨some 5, Go.Op.fieldAddr 44 (Go.Operand.tmp 2) 0, 0, none⟩,
      ⟨some 6, Go.Op.load 21 (Go.Operand.tmp 5), 21, none⟩,
      ⟨some 7, Go.Op.fieldAddr 44 (Go.Operand.tmp 3) 0, 0, none⟩,
      ⟨some 8, Go.Op.load 21 (Go.Operand.tmp 7), 21, none⟩,
      ⟨some 9, Go.Op.call { callee := Go.Callee.value (Go.Operand.func 106), args := #[Go.Operand.tmp 6, Go.Operand.tmp 8], argTypes := #[21, 21] }, 3, none⟩,
      ⟨some 4, Go.Op.assign (Go.Operand.tmp 9), 3, none⟩])
    .ret)) :=
  ⟨foll, Tryz.f105, Tryz.func105, by kernel_rfl, by kernel_rfl, by kernel_rfl, by rw [Tryz.ntmps105]; decide⟩

/-- cmp.Compare[rune] -/
theorem fn106 : FnIs Tryz.prog 106 2 [Go.ResultVar.tmp 4] (.seq (.region [⟨some 4, Go.Op.assign (Go.Operand.const (Go.Value.int Go.IntKind.i64 0)), 3, none⟩])
    (.seq (.region [⟨some 7, Go.Op.move (Go.Operand.tmp 0), 21, none⟩,
      ⟨some 8, Go.Op.call { callee := Go.Callee.value (Go.Operand.func 113), args := #[Go.Operand.tmp 7], argTypes := #[21] }, 4, none⟩,
      ⟨some 5, Go.Op.assign (Go.Operand.tmp 8), 4, none⟩])
    (.seq (.region [⟨some 9, Go.Op.move (Go.Operand.tmp 1), 21, none⟩,
      ⟨some 10, Go.Op.call { callee := Go.Callee.value (Go.Operand.func 113), args := #[Go.Operand.tmp 9], argTypes := #[21] }, 4, none⟩,
      ⟨some 6, Go.Op.assign (Go.Operand.tmp 10), 4, none⟩])
    (.seq (.seq (.region [⟨some 11, Go.Op.move (Go.Operand.tmp 5), 4, none⟩])
    (.cond (Go.Operand.tmp 11)
      (.seq (.seq (.region [⟨some 12, Go.Op.move (Go.Operand.tmp 6), 4, none⟩])
      (.cond (Go.Operand.tmp 12)
        (.seq (.region [⟨some 4, Go.Op.assign (Go.Operand.const (Go.Value.int Go.IntKind.i64 0)), 3, none⟩])
        .ret)
        .skip))
      (.seq (.region [⟨some 4, Go.Op.assign (Go.Operand.const (Go.Value.int Go.IntKind.i64 (-1))), 3, none⟩])
      .ret))
      .skip))
    (.seq (.seq (.region [⟨some 13, Go.Op.move (Go.Operand.tmp 6), 4, none⟩])
    (.cond (Go.Operand.tmp 13)
      (.seq (.region [⟨some 4, Go.Op.assign (Go.Operand.const (Go.Value.int Go.IntKind.i64 1)), 3, none⟩])
      .ret)
      .skip))
    (.seq (.seq (.region [⟨some 14, Go.Op.move (Go.Operand.tmp 0), 21, none⟩,
      ⟨some 15, Go.Op.move (Go.Operand.tmp 1), 21, none⟩,
      ⟨some 16, Go.Op.binOp Go.BinOp.lss 21 (Go.Operand.tmp 14) (Go.Operand.tmp 15) 21, 4, none⟩])
    (.cond (Go.Operand.tmp 16)
      (.seq (.region [⟨some 4, Go.Op.assign (Go.Operand.const (Go.Value.int Go.IntKind.i64 (-1))), 3, none⟩])
      .ret)
      .skip))
    (.seq (.seq (.region [⟨some 17, Go.Op.move (Go.Operand.tmp 0), 21, none⟩,
      ⟨some 18, Go.Op.move (Go.Operand.tmp 1), 21, none⟩,
      ⟨some 19, Go.Op.binOp Go.BinOp.gtr 21 (Go.Operand.tmp 17) (Go.Operand.tmp 18) 21, 4, none⟩])
    (.cond (Go.Operand.tmp 19)
      (.seq (.region [⟨some 4, Go.Op.assign (Go.Operand.const (Go.Value.int Go.IntKind.i64 1)), 3, none⟩])
      .ret)
      .skip))
    (.seq (.region [⟨some 4, Go.Op.assign (Go.Operand.const (Go.Value.int Go.IntKind.i64 0)), 3, none⟩])
    .ret)))))))) :=
  ⟨foll, Tryz.f106, Tryz.func106, by kernel_rfl, by kernel_rfl, by kernel_rfl, by rw [Tryz.ntmps106]; decide⟩

/-- cmp.isNaN[rune] -/
theorem fn113 : FnIs Tryz.prog 113 1 [Go.ResultVar.tmp 2] (.seq (.region [⟨some 2, Go.Op.assign (Go.Operand.const (Go.Value.bool false)), 4, none⟩])
    (.seq (.region [⟨some 3, Go.Op.move (Go.Operand.tmp 0), 21, none⟩,
      ⟨some 4, Go.Op.move (Go.Operand.tmp 0), 21, none⟩,
      ⟨some 5, Go.Op.binOp Go.BinOp.neq 21 (Go.Operand.tmp 3) (Go.Operand.tmp 4) 21, 4, none⟩,
      ⟨some 2, Go.Op.assign (Go.Operand.tmp 5), 4, none⟩])
    .ret)) :=
  ⟨foll, Tryz.f113, Tryz.func113, by kernel_rfl, by kernel_rfl, by kernel_rfl, by rw [Tryz.ntmps113]; decide⟩

end Go.Proofs.YtebejiilpedlmaaGreatDoor
