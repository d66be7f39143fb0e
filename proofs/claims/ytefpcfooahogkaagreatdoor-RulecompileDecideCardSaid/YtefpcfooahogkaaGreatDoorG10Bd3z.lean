/- The prepared code of further functions. Written by a program of mine (gen.py) out of what the loaded dump prints. -/
import Derived.Test.YtefpcfooahogkaaGreatDoorG09Base3z
set_option linter.unusedVariables false
set_option maxRecDepth 100000
namespace Go.Proofs.YtefpcfooahogkaaGreatDoor
open Go Nv

/-- narrator.narratorlaw35.RulecompileDecide -/
theorem fn3 : FnIs Tryz.prog 3 4 [Go.ResultVar.tmp 8] (.seq (.region [⟨some 8, Go.Op.assign (Go.Operand.const (Go.Value.bool false)), 4, none⟩])
    (.seq (.seq (.region [⟨some 10, Go.Op.move (Go.Operand.tmp 0), 22, none⟩,
      ⟨some 11, Go.Op.call { callee := Go.Callee.builtin Go.Builtin.len, args := #[Go.Operand.tmp 10], argTypes := #[22] }, 3, none⟩,
      ⟨some 12, Go.Op.binOp Go.BinOp.gtr 3 (Go.Operand.tmp 11) (Go.Operand.const (Go.Value.int Go.IntKind.i64 6)) 3, 4, none⟩,
      ⟨some 13, Go.Op.move (Go.Operand.tmp 12), 4, none⟩,
      ⟨some 14, Go.Op.move (Go.Operand.tmp 1), 23, (some (13, false))⟩,
      ⟨some 15, Go.Op.call { callee := Go.Callee.builtin Go.Builtin.len, args := #[Go.Operand.tmp 14], argTypes := #[23] }, 3, (some (13, false))⟩,
      ⟨some 16, Go.Op.binOp Go.BinOp.gtr 3 (Go.Operand.tmp 15) (Go.Operand.const (Go.Value.int Go.IntKind.i64 6)) 3, 4, (some (13, false))⟩,
      ⟨some 17, Go.Op.pick (Go.Operand.tmp 13) (Go.Operand.const (Go.Value.bool true)) (Go.Operand.tmp 16), 4, none⟩,
      ⟨some 18, Go.Op.move (Go.Operand.tmp 17), 4, none⟩,
      ⟨some 19, Go.Op.move (Go.Operand.tmp 3), 9, (some (18, false))⟩,
      ⟨some 20, Go.Op.call { callee := Go.Callee.builtin Go.Builtin.len, args := #[Go.Operand.tmp 19], argTypes := #[9] }, 3, (some (18, false))⟩,
      ⟨some 21, Go.Op.binOp Go.BinOp.gtr 3 (Go.Operand.tmp 20) (Go.Operand.const (Go.Value.int Go.IntKind.i64 40)) 3, 4, (some (18, false))⟩,
      ⟨some 22, Go.Op.pick (Go.Operand.tmp 18) (Go.Operand.const (Go.Value.bool true)) (Go.Operand.tmp 21), 4, none⟩])
    (.cond (Go.Operand.tmp 22)
      (.seq (.region [⟨some 23, Go.Op.call { callee := Go.Callee.value (Go.Operand.func 4), args := #[], argTypes := #[] }, 4, none⟩,
        ⟨some 8, Go.Op.assign (Go.Operand.tmp 23), 4, none⟩])
      .ret)
      .skip))
    (.seq (.seq (.region [⟨some 9, Go.Op.assign (Go.Operand.const (Go.Value.int Go.IntKind.i64 0)), 3, none⟩])
    (.block 0
      (.loop
        (.seq (.seq (.region [⟨some 24, Go.Op.move (Go.Operand.tmp 9), 3, none⟩,
          ⟨some 25, Go.Op.move (Go.Operand.tmp 1), 23, none⟩,
          ⟨some 26, Go.Op.call { callee := Go.Callee.builtin Go.Builtin.len, args := #[Go.Operand.tmp 25], argTypes := #[23] }, 3, none⟩,
          ⟨some 27, Go.Op.binOp Go.BinOp.lss 3 (Go.Operand.tmp 24) (Go.Operand.tmp 26) 3, 4, none⟩])
        (.cond (Go.Operand.tmp 27)
          .skip
          (.exit 0)))
        (.seq (.block 1
          (.seq (.region [⟨some 30, Go.Op.move (Go.Operand.tmp 1), 23, none⟩,
            ⟨some 31, Go.Op.move (Go.Operand.tmp 9), 3, none⟩,
            ⟨some 32, Go.Op.indexAddr 23 (Go.Operand.tmp 30) (Go.Operand.tmp 31), 0, none⟩,
            ⟨some 33, Go.Op.load 29 (Go.Operand.tmp 32), 29, none⟩,
            ⟨some 34, Go.Op.call { callee := Go.Callee.value (Go.Operand.func 5), args := #[Go.Operand.tmp 33], argTypes := #[29] }, 4, none⟩])
          (.cond (Go.Operand.tmp 34)
            (.seq (.region [⟨some 35, Go.Op.call { callee := Go.Callee.value (Go.Operand.func 4), args := #[], argTypes := #[] }, 4, none⟩,
              ⟨some 8, Go.Op.assign (Go.Operand.tmp 35), 4, none⟩])
            .ret)
            .skip)))
        (.region [⟨some 28, Go.Op.move (Go.Operand.tmp 9), 3, none⟩,
          ⟨some 29, Go.Op.binOp Go.BinOp.add 3 (Go.Operand.tmp 28) (Go.Operand.const (Go.Value.int Go.IntKind.i64 1)) 3, 3, none⟩,
          ⟨some 9, Go.Op.assign (Go.Operand.tmp 29), 3, none⟩]))))))
    (.seq (.region [⟨some 36, Go.Op.move (Go.Operand.tmp 0), 22, none⟩,
      ⟨some 37, Go.Op.move (Go.Operand.tmp 1), 23, none⟩,
      ⟨some 38, Go.Op.move (Go.Operand.tmp 2), 3, none⟩,
      ⟨some 39, Go.Op.move (Go.Operand.tmp 3), 9, none⟩,
      ⟨some 40, Go.Op.call { callee := Go.Callee.value (Go.Operand.func 6), args := #[Go.Operand.tmp 36, Go.Operand.tmp 37, Go.Operand.tmp 38, Go.Operand.tmp 39], argTypes := #[22, 23, 3, 9] }, 3, none⟩,
      ⟨some 41, Go.Op.move (Go.Operand.tmp 0), 22, none⟩,
      ⟨some 42, Go.Op.move (Go.Operand.tmp 1), 23, none⟩,
      ⟨some 43, Go.Op.move (Go.Operand.tmp 2), 3, none⟩,
      ⟨some 44, Go.Op.move (Go.Operand.tmp 3), 9, none⟩,
      ⟨some 45, Go.Op.call { callee := Go.Callee.value (Go.Operand.func 7), args := #[Go.Operand.tmp 41, Go.Operand.tmp 42, Go.Operand.tmp 43, Go.Operand.tmp 44], argTypes := #[22, 23, 3, 9] }, 3, none⟩,
      ⟨some 46, Go.Op.binOp Go.BinOp.eql 3 (Go.Operand.tmp 40) (Go.Operand.tmp 45) 3, 4, none⟩,
      ⟨some 47, Go.Op.move (Go.Operand.tmp 46), 4, none⟩,
      ⟨some 48, Go.Op.call { callee := Go.Callee.value (Go.Operand.func 4), args := #[], argTypes := #[] }, 4, (some (47, true))⟩,
      ⟨some 49, Go.Op.pick (Go.Operand.tmp 47) (Go.Operand.tmp 48) (Go.Operand.const (Go.Value.bool false)), 4, none⟩,
      ⟨some 8, Go.Op.assign (Go.Operand.tmp 49), 4, none⟩])
    .ret)))) :=
  ⟨foll, Tryz.f3, Tryz.func3, by kernel_rfl, by kernel_rfl, by kernel_rfl, by rw [Tryz.ntmps3]; decide⟩

/-- narrator.narratorref33.Long -/
theorem fn5 : FnIs Tryz.prog 5 1 [Go.ResultVar.tmp 2] (.seq (.region [⟨some 1, Go.Op.box 29 (Go.Operand.tmp 0), 0, none⟩,
      ⟨some 2, Go.Op.assign (Go.Operand.const (Go.Value.bool false)), 4, none⟩])
    (.seq (.seq (.region [⟨some 4, Go.Op.fieldAddr 29 (Go.Operand.tmp 1) 1, 0, none⟩,
      ⟨some 5, Go.Op.load 26 (Go.Operand.tmp 4), 26, none⟩,
      ⟨some 6, Go.Op.call { callee := Go.Callee.builtin Go.Builtin.len, args := #[Go.Operand.tmp 5], argTypes := #[26] }, 3, none⟩,
      ⟨some 7, Go.Op.binOp Go.BinOp.gtr 3 (Go.Operand.tmp 6) (Go.Operand.const (Go.Value.int Go.IntKind.i64 10)) 3, 4, none⟩,
      ⟨some 8, Go.Op.move (Go.Operand.tmp 7), 4, none⟩,
      ⟨some 9, Go.Op.fieldAddr 29 (Go.Operand.tmp 1) 2, 0, (some (8, false))⟩,
      ⟨some 10, Go.Op.load 27 (Go.Operand.tmp 9), 27, (some (8, false))⟩,
      ⟨some 11, Go.Op.call { callee := Go.Callee.builtin Go.Builtin.len, args := #[Go.Operand.tmp 10], argTypes := #[27] }, 3, (some (8, false))⟩,
      ⟨some 12, Go.Op.binOp Go.BinOp.gtr 3 (Go.Operand.tmp 11) (Go.Operand.const (Go.Value.int Go.IntKind.i64 10)) 3, 4, (some (8, false))⟩,
      ⟨some 13, Go.Op.pick (Go.Operand.tmp 8) (Go.Operand.const (Go.Value.bool true)) (Go.Operand.tmp 12), 4, none⟩])
    (.cond (Go.Operand.tmp 13)
      (.seq (.region [⟨some 2, Go.Op.assign (Go.Operand.const (Go.Value.bool true)), 4, none⟩])
      .ret)
      .skip))
    (.seq (.seq (.region [⟨some 3, Go.Op.assign (Go.Operand.const (Go.Value.int Go.IntKind.i64 0)), 3, none⟩])
    (.block 0
      (.loop
        (.seq (.seq (.region [⟨some 14, Go.Op.move (Go.Operand.tmp 3), 3, none⟩,
          ⟨some 15, Go.Op.fieldAddr 29 (Go.Operand.tmp 1) 1, 0, none⟩,
          ⟨some 16, Go.Op.load 26 (Go.Operand.tmp 15), 26, none⟩,
          ⟨some 17, Go.Op.call { callee := Go.Callee.builtin Go.Builtin.len, args := #[Go.Operand.tmp 16], argTypes := #[26] }, 3, none⟩,
          ⟨some 18, Go.Op.binOp Go.BinOp.lss 3 (Go.Operand.tmp 14) (Go.Operand.tmp 17) 3, 4, none⟩])
        (.cond (Go.Operand.tmp 18)
          .skip
          (.exit 0)))
        (.seq (.block 1
          (.seq (.region [⟨some 21, Go.Op.fieldAddr 29 (Go.Operand.tmp 1) 1, 0, none⟩,
            ⟨some 22, Go.Op.load 26 (Go.Operand.tmp 21), 26, none⟩,
            ⟨some 23, Go.Op.move (Go.Operand.tmp 3), 3, none⟩,
            ⟨some 24, Go.Op.indexAddr 26 (Go.Operand.tmp 22) (Go.Operand.tmp 23), 0, none⟩,
            ⟨some 25, Go.Op.load 40 (Go.Operand.tmp 24), 40, none⟩,
            ⟨some 26, Go.Op.call { callee := Go.Callee.builtin Go.Builtin.len, args := #[Go.Operand.tmp 25], argTypes := #[40] }, 3, none⟩,
            ⟨some 27, Go.Op.binOp Go.BinOp.gtr 3 (Go.Operand.tmp 26) (Go.Operand.const (Go.Value.int Go.IntKind.i64 8)) 3, 4, none⟩])
          (.cond (Go.Operand.tmp 27)
            (.seq (.region [⟨some 2, Go.Op.assign (Go.Operand.const (Go.Value.bool true)), 4, none⟩])
            .ret)
            .skip)))
        (.region [⟨some 19, Go.Op.move (Go.Operand.tmp 3), 3, none⟩,
          ⟨some 20, Go.Op.binOp Go.BinOp.add 3 (Go.Operand.tmp 19) (Go.Operand.const (Go.Value.int Go.IntKind.i64 1)) 3, 3, none⟩,
          ⟨some 3, Go.Op.assign (Go.Operand.tmp 20), 3, none⟩]))))))
    (.seq (.region [⟨some 2, Go.Op.assign (Go.Operand.const (Go.Value.bool false)), 4, none⟩])
    .ret)))) :=
  ⟨foll, Tryz.f5, Tryz.func5, by kernel_rfl, by kernel_rfl, by kernel_rfl, by rw [Tryz.ntmps5]; decide⟩

/-- narrator.rulecompile.Decide -/
theorem fn6 : FnIs Tryz.prog 6 4 [Go.ResultVar.tmp 8] (.seq (.region [⟨some 8, Go.Op.assign (Go.Operand.const (Go.Value.int Go.IntKind.i64 0)), 3, none⟩])
    (.seq (.seq (.region [⟨some 11, Go.Op.move (Go.Operand.tmp 0), 22, none⟩,
      ⟨some 12, Go.Op.call { callee := Go.Callee.builtin Go.Builtin.len, args := #[Go.Operand.tmp 11], argTypes := #[22] }, 3, none⟩,
      ⟨some 13, Go.Op.move (Go.Operand.tmp 1), 23, none⟩,
      ⟨some 14, Go.Op.call { callee := Go.Callee.builtin Go.Builtin.len, args := #[Go.Operand.tmp 13], argTypes := #[23] }, 3, none⟩,
      ⟨some 15, Go.Op.binOp Go.BinOp.neq 3 (Go.Operand.tmp 12) (Go.Operand.tmp 14) 3, 4, none⟩])
    (.cond (Go.Operand.tmp 15)
      (.seq (.region [⟨some 8, Go.Op.assign (Go.Operand.const (Go.Value.int Go.IntKind.i64 (-1))), 3, none⟩])
      .ret)
      .skip))
    (.seq (.seq (.region [⟨some 16, Go.Op.move (Go.Operand.tmp 0), 22, none⟩,
      ⟨some 17, Go.Op.call { callee := Go.Callee.builtin Go.Builtin.len, args := #[Go.Operand.tmp 16], argTypes := #[22] }, 3, none⟩,
      ⟨some 18, Go.Op.move (Go.Operand.const (Go.Value.int Go.IntKind.i64 0)), 3, none⟩])
    (.block 0
      (.loop
        (.seq (.region [⟨some 19, Go.Op.binOp Go.BinOp.lss 3 (Go.Operand.tmp 18) (Go.Operand.tmp 17) 3, 0, none⟩])
        (.seq (.cond (Go.Operand.tmp 19)
          .skip
          (.exit 0))
        (.seq (.block 1
          (.seq (.region [⟨some 20, Go.Op.move (Go.Operand.tmp 18), 3, none⟩,
            ⟨some 21, Go.Op.indexAddr 22 (Go.Operand.tmp 16) (Go.Operand.tmp 18), 0, none⟩,
            ⟨some 22, Go.Op.load 38 (Go.Operand.tmp 21), 38, none⟩,
            ⟨some 10, Go.Op.alloc 38, 0, none⟩,
            ⟨some 9, Go.Op.assign (Go.Operand.tmp 20), 3, none⟩,
            ⟨none, Go.Op.store 38 (Go.Operand.tmp 10) (Go.Operand.tmp 22), 0, none⟩])
          (.seq (.seq (.region [⟨some 23, Go.Op.move (Go.Operand.tmp 2), 3, none⟩,
            ⟨some 24, Go.Op.fieldAddr 38 (Go.Operand.tmp 10) 0, 0, none⟩,
            ⟨some 25, Go.Op.load 3 (Go.Operand.tmp 24), 3, none⟩,
            ⟨some 26, Go.Op.binOp Go.BinOp.lss 3 (Go.Operand.tmp 23) (Go.Operand.tmp 25) 3, 4, none⟩,
            ⟨some 27, Go.Op.move (Go.Operand.tmp 26), 4, none⟩,
            ⟨some 28, Go.Op.move (Go.Operand.tmp 2), 3, (some (27, false))⟩,
            ⟨some 29, Go.Op.fieldAddr 38 (Go.Operand.tmp 10) 1, 0, (some (27, false))⟩,
            ⟨some 30, Go.Op.load 3 (Go.Operand.tmp 29), 3, (some (27, false))⟩,
            ⟨some 31, Go.Op.binOp Go.BinOp.geq 3 (Go.Operand.tmp 28) (Go.Operand.tmp 30) 3, 4, (some (27, false))⟩,
            ⟨some 32, Go.Op.pick (Go.Operand.tmp 27) (Go.Operand.const (Go.Value.bool true)) (Go.Operand.tmp 31), 4, none⟩])
          (.cond (Go.Operand.tmp 32)
            (.exit 1)
            .skip))
          (.seq (.seq (.region [⟨some 33, Go.Op.move (Go.Operand.tmp 1), 23, none⟩,
            ⟨some 34, Go.Op.move (Go.Operand.tmp 9), 3, none⟩,
            ⟨some 35, Go.Op.indexAddr 23 (Go.Operand.tmp 33) (Go.Operand.tmp 34), 0, none⟩,
            ⟨some 36, Go.Op.load 29 (Go.Operand.tmp 35), 29, none⟩,
            ⟨some 37, Go.Op.call { callee := Go.Callee.value (Go.Operand.func 11), args := #[Go.Operand.tmp 36], argTypes := #[29] }, 41, none⟩,
            ⟨some 38, Go.Op.binOp Go.BinOp.neq 41 (Go.Operand.tmp 37) (Go.Operand.const (Go.Value.int Go.IntKind.i64 0)) 41, 4, none⟩])
          (.cond (Go.Operand.tmp 38)
            (.seq (.region [⟨some 8, Go.Op.assign (Go.Operand.const (Go.Value.int Go.IntKind.i64 (-1))), 3, none⟩])
            .ret)
            .skip))
          (.seq (.region [⟨some 39, Go.Op.move (Go.Operand.tmp 1), 23, none⟩,
            ⟨some 40, Go.Op.move (Go.Operand.tmp 9), 3, none⟩,
            ⟨some 41, Go.Op.indexAddr 23 (Go.Operand.tmp 39) (Go.Operand.tmp 40), 0, none⟩,
            ⟨some 42, Go.Op.load 29 (Go.Operand.tmp 41), 29, none⟩,
            ⟨some 43, Go.Op.move (Go.Operand.tmp 3), 9, none⟩,
            ⟨some 44, Go.Op.call { callee := Go.Callee.value (Go.Operand.func 12), args := #[Go.Operand.tmp 42, Go.Operand.tmp 43], argTypes := #[29, 9] }, 3, none⟩,
            ⟨some 8, Go.Op.assign (Go.Operand.tmp 44), 3, none⟩])
          .ret)))))
        (.region [⟨some 45, Go.Op.binOp Go.BinOp.add 3 (Go.Operand.tmp 18) (Go.Operand.const (Go.Value.int Go.IntKind.i64 1)) 3, 3, none⟩,
          ⟨some 18, Go.Op.move (Go.Operand.tmp 45), 3, none⟩])))))))
    (.seq (.region [⟨some 8, Go.Op.assign (Go.Operand.const (Go.Value.int Go.IntKind.i64 (-1))), 3, none⟩])
    .ret)))) :=
  ⟨foll, Tryz.f6, Tryz.func6, by kernel_rfl, by kernel_rfl, by kernel_rfl, by rw [Tryz.ntmps6]; decide⟩

/-- narrator.narratorref35.Decide -/
theorem fn7 : FnIs Tryz.prog 7 4 [Go.ResultVar.tmp 8] (.seq (.region [⟨some 8, Go.Op.assign (Go.Operand.const (Go.Value.int Go.IntKind.i64 0)), 3, none⟩])
    (.seq (.seq (.region [⟨some 10, Go.Op.move (Go.Operand.tmp 0), 22, none⟩,
      ⟨some 11, Go.Op.call { callee := Go.Callee.builtin Go.Builtin.len, args := #[Go.Operand.tmp 10], argTypes := #[22] }, 3, none⟩,
      ⟨some 12, Go.Op.move (Go.Operand.tmp 1), 23, none⟩,
      ⟨some 13, Go.Op.call { callee := Go.Callee.builtin Go.Builtin.len, args := #[Go.Operand.tmp 12], argTypes := #[23] }, 3, none⟩,
      ⟨some 14, Go.Op.binOp Go.BinOp.neq 3 (Go.Operand.tmp 11) (Go.Operand.tmp 13) 3, 4, none⟩])
    (.cond (Go.Operand.tmp 14)
      (.seq (.region [⟨some 8, Go.Op.assign (Go.Operand.const (Go.Value.int Go.IntKind.i64 (-1))), 3, none⟩])
      .ret)
      .skip))
    (.seq (.seq (.region [⟨some 9, Go.Op.assign (Go.Operand.const (Go.Value.int Go.IntKind.i64 0)), 3, none⟩])
    (.block 0
      (.loop
        (.seq (.seq (.region [⟨some 15, Go.Op.move (Go.Operand.tmp 9), 3, none⟩,
          ⟨some 16, Go.Op.move (Go.Operand.tmp 0), 22, none⟩,
          ⟨some 17, Go.Op.call { callee := Go.Callee.builtin Go.Builtin.len, args := #[Go.Operand.tmp 16], argTypes := #[22] }, 3, none⟩,
          ⟨some 18, Go.Op.binOp Go.BinOp.lss 3 (Go.Operand.tmp 15) (Go.Operand.tmp 17) 3, 4, none⟩])
        (.cond (Go.Operand.tmp 18)
          .skip
          (.exit 0)))
        (.seq (.block 1
          (.seq (.region [⟨some 21, Go.Op.move (Go.Operand.tmp 2), 3, none⟩,
            ⟨some 22, Go.Op.move (Go.Operand.tmp 0), 22, none⟩,
            ⟨some 23, Go.Op.move (Go.Operand.tmp 9), 3, none⟩,
            ⟨some 24, Go.Op.indexAddr 22 (Go.Operand.tmp 22) (Go.Operand.tmp 23), 0, none⟩,
            ⟨some 25, Go.Op.fieldAddr 38 (Go.Operand.tmp 24) 0, 0, none⟩,
            ⟨some 26, Go.Op.load 3 (Go.Operand.tmp 25), 3, none⟩,
            ⟨some 27, Go.Op.binOp Go.BinOp.geq 3 (Go.Operand.tmp 21) (Go.Operand.tmp 26) 3, 4, none⟩,
            ⟨some 28, Go.Op.move (Go.Operand.tmp 27), 4, none⟩,
            ⟨some 29, Go.Op.move (Go.Operand.tmp 2), 3, (some (28, true))⟩,
            ⟨some 30, Go.Op.move (Go.Operand.tmp 0), 22, (some (28, true))⟩,
            ⟨some 31, Go.Op.move (Go.Operand.tmp 9), 3, (some (28, true))⟩,
            ⟨some 32, Go.Op.indexAddr 22 (Go.Operand.tmp 30) (Go.Operand.tmp 31), 0, (some (28, true))⟩,
            ⟨some 33, Go.Op.fieldAddr 38 (Go.Operand.tmp 32) 1, 0, (some (28, true))⟩,
            ⟨some 34, Go.Op.load 3 (Go.Operand.tmp 33), 3, (some (28, true))⟩,
            ⟨some 35, Go.Op.binOp Go.BinOp.lss 3 (Go.Operand.tmp 29) (Go.Operand.tmp 34) 3, 4, (some (28, true))⟩,
            ⟨some 36, Go.Op.pick (Go.Operand.tmp 28) (Go.Operand.tmp 35) (Go.Operand.const (Go.Value.bool false)), 4, none⟩])
          (.cond (Go.Operand.tmp 36)
            (.seq (.seq (.region [⟨some 37, Go.Op.move (Go.Operand.tmp 1), 23, none⟩,
              ⟨some 38, Go.Op.move (Go.Operand.tmp 9), 3, none⟩,
              ⟨some 39, Go.Op.indexAddr 23 (Go.Operand.tmp 37) (Go.Operand.tmp 38), 0, none⟩,
              ⟨some 40, Go.Op.load 29 (Go.Operand.tmp 39), 29, none⟩,
              ⟨some 41, Go.Op.call { callee := Go.Callee.value (Go.Operand.func 13), args := #[Go.Operand.tmp 40], argTypes := #[29] }, 41, none⟩,
              ⟨some 42, Go.Op.binOp Go.BinOp.neq 41 (Go.Operand.tmp 41) (Go.Operand.const (Go.Value.int Go.IntKind.i64 0)) 41, 4, none⟩])
            (.cond (Go.Operand.tmp 42)
              (.seq (.region [⟨some 8, Go.Op.assign (Go.Operand.const (Go.Value.int Go.IntKind.i64 (-1))), 3, none⟩])
              .ret)
              .skip))
            (.seq (.region [⟨some 43, Go.Op.move (Go.Operand.tmp 1), 23, none⟩,
              ⟨some 44, Go.Op.move (Go.Operand.tmp 9), 3, none⟩,
              ⟨some 45, Go.Op.indexAddr 23 (Go.Operand.tmp 43) (Go.Operand.tmp 44), 0, none⟩,
              ⟨some 46, Go.Op.load 29 (Go.Operand.tmp 45), 29, none⟩,
              ⟨some 47, Go.Op.move (Go.Operand.tmp 3), 9, none⟩,
              ⟨some 48, Go.Op.call { callee := Go.Callee.value (Go.Operand.func 14), args := #[Go.Operand.tmp 46, Go.Operand.tmp 47], argTypes := #[29, 9] }, 3, none⟩,
              ⟨some 8, Go.Op.assign (Go.Operand.tmp 48), 3, none⟩])
            .ret))
            .skip)))
        (.region [⟨some 19, Go.Op.move (Go.Operand.tmp 9), 3, none⟩,
          ⟨some 20, Go.Op.binOp Go.BinOp.add 3 (Go.Operand.tmp 19) (Go.Operand.const (Go.Value.int Go.IntKind.i64 1)) 3, 3, none⟩,
          ⟨some 9, Go.Op.assign (Go.Operand.tmp 20), 3, none⟩]))))))
    (.seq (.region [⟨some 8, Go.Op.assign (Go.Operand.const (Go.Value.int Go.IntKind.i64 (-1))), 3, none⟩])
    .ret)))) :=
  ⟨foll, Tryz.f7, Tryz.func7, by kernel_rfl, by kernel_rfl, by kernel_rfl, by rw [Tryz.ntmps7]; decide⟩

/-- narrator.dfa.Check -/
theorem fn11 : FnIs Tryz.prog 11 1 [Go.ResultVar.tmp 2] (.seq (.region [⟨some 1, Go.Op.box 29 (Go.Operand.tmp 0), 0, none⟩,
      ⟨some 2, Go.Op.assign (Go.Operand.const (Go.Value.int Go.IntKind.i64 0)), 41, none⟩])
    (.seq (.region [⟨some 8, Go.Op.fieldAddr 29 (Go.Operand.tmp 1) 1, 0, none⟩,
      ⟨some 9, Go.Op.load 26 (Go.Operand.tmp 8), 26, none⟩,
      ⟨some 10, Go.Op.call { callee := Go.Callee.builtin Go.Builtin.len, args := #[Go.Operand.tmp 9], argTypes := #[26] }, 3, none⟩,
      ⟨some 3, Go.Op.assign (Go.Operand.tmp 10), 3, none⟩])
    (.seq (.seq (.region [⟨some 11, Go.Op.move (Go.Operand.tmp 3), 3, none⟩,
      ⟨some 12, Go.Op.binOp Go.BinOp.lss 3 (Go.Operand.tmp 11) (Go.Operand.const (Go.Value.int Go.IntKind.i64 1)) 3, 4, none⟩,
      ⟨some 13, Go.Op.move (Go.Operand.tmp 12), 4, none⟩,
      ⟨some 14, Go.Op.move (Go.Operand.tmp 3), 3, (some (13, false))⟩,
      ⟨some 15, Go.Op.binOp Go.BinOp.gtr 3 (Go.Operand.tmp 14) (Go.Operand.const (Go.Value.int Go.IntKind.i64 3000)) 3, 4, (some (13, false))⟩,
      ⟨some 16, Go.Op.pick (Go.Operand.tmp 13) (Go.Operand.const (Go.Value.bool true)) (Go.Operand.tmp 15), 4, none⟩,
      ⟨some 17, Go.Op.move (Go.Operand.tmp 16), 4, none⟩,
      ⟨some 18, Go.Op.fieldAddr 29 (Go.Operand.tmp 1) 2, 0, (some (17, false))⟩,
      ⟨some 19, Go.Op.load 27 (Go.Operand.tmp 18), 27, (some (17, false))⟩,
      ⟨some 20, Go.Op.call { callee := Go.Callee.builtin Go.Builtin.len, args := #[Go.Operand.tmp 19], argTypes := #[27] }, 3, (some (17, false))⟩,
      ⟨some 21, Go.Op.move (Go.Operand.tmp 3), 3, (some (17, false))⟩,
      ⟨some 22, Go.Op.binOp Go.BinOp.neq 3 (Go.Operand.tmp 20) (Go.Operand.tmp 21) 3, 4, (some (17, false))⟩,
      ⟨some 23, Go.Op.pick (Go.Operand.tmp 17) (Go.Operand.const (Go.Value.bool true)) (Go.Operand.tmp 22), 4, none⟩,
      ⟨some 24, Go.Op.move (Go.Operand.tmp 23), 4, none⟩,
      ⟨some 25, Go.Op.fieldAddr 29 (Go.Operand.tmp 1) 0, 0, (some (24, false))⟩,
      ⟨some 26, Go.Op.load 3 (Go.Operand.tmp 25), 3, (some (24, false))⟩,
      ⟨some 27, Go.Op.binOp Go.BinOp.lss 3 (Go.Operand.tmp 26) (Go.Operand.const (Go.Value.int Go.IntKind.i64 0)) 3, 4, (some (24, false))⟩,
      ⟨some 28, Go.Op.pick (Go.Operand.tmp 24) (Go.Operand.const (Go.Value.bool true)) (Go.Operand.tmp 27), 4, none⟩,
      ⟨some 29, Go.Op.move (Go.Operand.tmp 28), 4, none⟩,
      ⟨some 30, Go.Op.fieldAddr 29 (Go.Operand.tmp 1) 0, 0, (some (29, false))⟩,
      ⟨some 31, Go.Op.load 3 (Go.Operand.tmp 30), 3, (some (29, false))⟩,
      ⟨some 32, Go.Op.move (Go.Operand.tmp 3), 3, (some (29, false))⟩,
      ⟨some 33, Go.Op.binOp Go.BinOp.geq 3 (Go.Operand.tmp 31) (Go.Operand.tmp 32) 3, 4, (some (29, false))⟩,
      ⟨some 34, Go.Op.pick (Go.Operand.tmp 29) (Go.Operand.const (Go.Value.bool true)) (Go.Operand.tmp 33), 4, none⟩])
    (.cond (Go.Operand.tmp 34)
      (.seq (.region [⟨some 2, Go.Op.assign (Go.Operand.const (Go.Value.int Go.IntKind.i64 1)), 41, none⟩])
      .ret)
      .skip))
    (.seq (.seq (.region [⟨some 35, Go.Op.fieldAddr 29 (Go.Operand.tmp 1) 1, 0, none⟩,
      ⟨some 36, Go.Op.load 26 (Go.Operand.tmp 35), 26, none⟩,
      ⟨some 37, Go.Op.call { callee := Go.Callee.builtin Go.Builtin.len, args := #[Go.Operand.tmp 36], argTypes := #[26] }, 3, none⟩,
      ⟨some 38, Go.Op.move (Go.Operand.const (Go.Value.int Go.IntKind.i64 0)), 3, none⟩])
    (.block 0
      (.loop
        (.seq (.region [⟨some 39, Go.Op.binOp Go.BinOp.lss 3 (Go.Operand.tmp 38) (Go.Operand.tmp 37) 3, 0, none⟩])
        (.seq (.cond (Go.Operand.tmp 39)
          .skip
          (.exit 0))
        (.seq (.block 1
          (.seq (.region [⟨some 40, Go.Op.move (Go.Operand.tmp 38), 3, none⟩,
            ⟨some 41, Go.Op.indexAddr 26 (Go.Operand.tmp 36) (Go.Operand.tmp 38), 0, none⟩,
            ⟨some 42, Go.Op.load 40 (Go.Operand.tmp 41), 40, none⟩,
            ⟨some 4, Go.Op.assign (Go.Operand.tmp 40), 3, none⟩,
            ⟨some 5, Go.Op.assign (Go.Operand.tmp 42), 40, none⟩])
          (.seq (.seq (.region [⟨some 43, Go.Op.fieldAddr 29 (Go.Operand.tmp 1) 2, 0, none⟩,
            ⟨some 44, Go.Op.load 27 (Go.Operand.tmp 43), 27, none⟩,
            ⟨some 45, Go.Op.move (Go.Operand.tmp 4), 3, none⟩,
            ⟨some 46, Go.Op.indexAddr 27 (Go.Operand.tmp 44) (Go.Operand.tmp 45), 0, none⟩,
            ⟨some 47, Go.Op.load 3 (Go.Operand.tmp 46), 3, none⟩,
            ⟨some 48, Go.Op.binOp Go.BinOp.lss 3 (Go.Operand.tmp 47) (Go.Operand.const (Go.Value.int Go.IntKind.i64 (-1))) 3, 4, none⟩])
          (.cond (Go.Operand.tmp 48)
            (.seq (.region [⟨some 2, Go.Op.assign (Go.Operand.const (Go.Value.int Go.IntKind.i64 1)), 41, none⟩])
            .ret)
            .skip))
          (.seq (.region [⟨some 49, Go.Op.move (Go.Operand.tmp 5), 40, none⟩,
            ⟨some 50, Go.Op.call { callee := Go.Callee.builtin Go.Builtin.len, args := #[Go.Operand.tmp 49], argTypes := #[40] }, 3, none⟩,
            ⟨some 51, Go.Op.move (Go.Operand.const (Go.Value.int Go.IntKind.i64 0)), 3, none⟩])
          (.block 2
            (.loop
              (.seq (.region [⟨some 52, Go.Op.binOp Go.BinOp.lss 3 (Go.Operand.tmp 51) (Go.Operand.tmp 50) 3, 0, none⟩])
              (.seq (.cond (Go.Operand.tmp 52)
                .skip
                (.exit 2))
              (.seq (.block 3
                (.seq (.region [⟨some 53, Go.Op.move (Go.Operand.tmp 51), 3, none⟩,
                  ⟨some 54, Go.Op.indexAddr 40 (Go.Operand.tmp 49) (Go.Operand.tmp 51), 0, none⟩,
                  ⟨some 55, Go.Op.load 60 (Go.Operand.tmp 54), 60, none⟩,
                  ⟨some 7, Go.Op.alloc 60, 0, none⟩,
                  ⟨some 6, Go.Op.assign (Go.Operand.tmp 53), 3, none⟩,
                  ⟨none, Go.Op.store 60 (Go.Operand.tmp 7) (Go.Operand.tmp 55), 0, none⟩])
                (.seq (.draw [⟨⟨some 56, Go.Op.fieldAddr 60 (Go.Operand.tmp 7) 0, 0, none⟩, false, false, false⟩,
                  ⟨⟨some 57, Go.Op.fieldAddr 58 (Go.Operand.tmp 56) 0, 0, none⟩, false, false, false⟩,
                  ⟨⟨some 58, Go.Op.load 21 (Go.Operand.tmp 57), 21, none⟩, false, false, false⟩,
                  ⟨⟨some 59, Go.Op.call { callee := Go.Callee.value (Go.Operand.func 23), args := #[Go.Operand.tmp 58], argTypes := #[21] }, 4, none⟩, false, false, false⟩,
                  ⟨⟨some 60, Go.Op.unOp Go.UnOp.not 4 (Go.Operand.tmp 59), 4, none⟩, false, false, false⟩,
                  ⟨⟨some 61, Go.Op.move (Go.Operand.tmp 60), 4, none⟩, false, false, false⟩,
                  ⟨⟨some 62, Go.Op.fieldAddr 60 (Go.Operand.tmp 7) 0, 0, (some (61, false))⟩, false, false, false⟩,
                  ⟨⟨some 63, Go.Op.fieldAddr 58 (Go.Operand.tmp 62) 1, 0, (some (61, false))⟩, false, false, false⟩,
                  ⟨⟨some 64, Go.Op.load 21 (Go.Operand.tmp 63), 21, (some (61, false))⟩, false, false, false⟩,
                  ⟨⟨some 65, Go.Op.call { callee := Go.Callee.value (Go.Operand.func 23), args := #[Go.Operand.tmp 64], argTypes := #[21] }, 4, (some (61, false))⟩, false, false, false⟩,
                  ⟨⟨some 66, Go.Op.unOp Go.UnOp.not 4 (Go.Operand.tmp 65), 4, (some (61, false))⟩, false, false, false⟩,
                  ⟨⟨some 67, Go.Op.pick (Go.Operand.tmp 61) (Go.Operand.const (Go.Value.bool true)) (Go.Operand.tmp 66), 4, none⟩, false, false, false⟩,
                  ⟨⟨some 68, Go.Op.move (Go.Operand.tmp 67), 4, none⟩, false, false, false⟩,
                  ⟨⟨some 69, Go.Op.fieldAddr 60 (Go.Operand.tmp 7) 0, 0, (some (68, false))⟩, false, false, false⟩,
                  ⟨⟨some 70, Go.Op.fieldAddr 58 (Go.Operand.tmp 69) 0, 0, (some (68, false))⟩, false, false, false⟩,
                  ⟨⟨some 71, Go.Op.load 21 (Go.Operand.tmp 70), 21, (some (68, false))⟩, false, false, false⟩,
                  ⟨⟨some 72, Go.Op.fieldAddr 60 (Go.Operand.tmp 7) 0, 0, (some (68, false))⟩, false, false, false⟩,
                  ⟨⟨some 73, Go.Op.fieldAddr 58 (Go.Operand.tmp 72) 1, 0, (some (68, false))⟩, false, false, false⟩,
                  ⟨⟨some 74, Go.Op.load 21 (Go.Operand.tmp 73), 21, (some (68, false))⟩, false, false, false⟩,
                  ⟨⟨some 75, Go.Op.binOp Go.BinOp.gtr 21 (Go.Operand.tmp 71) (Go.Operand.tmp 74) 21, 4, (some (68, false))⟩, false, false, false⟩,
                  ⟨⟨some 76, Go.Op.pick (Go.Operand.tmp 68) (Go.Operand.const (Go.Value.bool true)) (Go.Operand.tmp 75), 4, none⟩, false, false, false⟩,
                  ⟨⟨some 77, Go.Op.move (Go.Operand.tmp 76), 4, none⟩, false, false, false⟩,
                  ⟨⟨some 78, Go.Op.fieldAddr 60 (Go.Operand.tmp 7) 1, 0, (some (77, false))⟩, false, false, false⟩,
                  ⟨⟨some 79, Go.Op.load 3 (Go.Operand.tmp 78), 3, (some (77, false))⟩, false, false, false⟩,
                  ⟨⟨some 80, Go.Op.binOp Go.BinOp.lss 3 (Go.Operand.tmp 79) (Go.Operand.const (Go.Value.int Go.IntKind.i64 0)) 3, 4, (some (77, false))⟩, false, false, false⟩,
                  ⟨⟨some 81, Go.Op.pick (Go.Operand.tmp 77) (Go.Operand.const (Go.Value.bool true)) (Go.Operand.tmp 80), 4, none⟩, false, false, false⟩,
                  ⟨⟨some 82, Go.Op.move (Go.Operand.tmp 81), 4, none⟩, false, false, false⟩,
                  ⟨⟨some 83, Go.Op.fieldAddr 60 (Go.Operand.tmp 7) 1, 0, (some (82, false))⟩, false, false, false⟩,
                  ⟨⟨some 84, Go.Op.load 3 (Go.Operand.tmp 83), 3, (some (82, false))⟩, false, false, false⟩,
                  ⟨⟨some 85, Go.Op.move (Go.Operand.tmp 3), 3, (some (82, false))⟩, false, false, false⟩,
                  ⟨⟨some 86, Go.Op.binOp Go.BinOp.geq 3 (Go.Operand.tmp 84) (Go.Operand.tmp 85) 3, 4, (some (82, false))⟩, false, false, false⟩,
                  ⟨⟨some 87, Go.Op.pick (Go.Operand.tmp 82) (Go.Operand.const (Go.Value.bool true)) (Go.Operand.tmp 86), 4, none⟩, false, false, false⟩,
                  ⟨⟨some 88, Go.Op.move (Go.Operand.tmp 87), 4, none⟩, false, false, false⟩,
                  ⟨⟨some 89, Go.Op.move (Go.Operand.tmp 6), 3, (some (88, false))⟩, false, false, false⟩,
                  ⟨⟨some 90, Go.Op.binOp Go.BinOp.gtr 3 (Go.Operand.tmp 89) (Go.Operand.const (Go.Value.int Go.IntKind.i64 0)) 3, 4, (some (88, false))⟩, false, false, false⟩,
                  ⟨⟨some 91, Go.Op.move (Go.Operand.tmp 90), 4, (some (88, false))⟩, false, false, false⟩,
                  ⟨⟨some 92, Go.Op.fieldAddr 60 (Go.Operand.tmp 7) 0, 0, (some (91, true))⟩, false, false, false⟩,
                  ⟨⟨some 93, Go.Op.fieldAddr 58 (Go.Operand.tmp 92) 0, 0, (some (91, true))⟩, false, false, false⟩,
                  ⟨⟨some 94, Go.Op.load 21 (Go.Operand.tmp 93), 21, (some (91, true))⟩, false, false, false⟩,
                  ⟨⟨some 95, Go.Op.move (Go.Operand.tmp 5), 40, (some (91, true))⟩, false, false, false⟩,
                  ⟨⟨some 96, Go.Op.move (Go.Operand.tmp 6), 3, (some (91, true))⟩, false, false, false⟩,
                  ⟨⟨some 97, Go.Op.binOp Go.BinOp.sub 3 (Go.Operand.tmp 96) (Go.Operand.const (Go.Value.int Go.IntKind.i64 1)) 3, 3, (some (91, true))⟩, false, false, false⟩,
                  ⟨⟨some 98, Go.Op.indexAddr 40 (Go.Operand.tmp 95) (Go.Operand.tmp 97), 0, (some (91, true))⟩, false, false, false⟩,
                  ⟨⟨some 99, Go.Op.fieldAddr 60 (Go.Operand.tmp 98) 0, 0, (some (91, true))⟩, false, false, false⟩,
                  ⟨⟨some 100, Go.Op.fieldAddr 58 (Go.Operand.tmp 99) 1, 0, (some (91, true))⟩, false, false, false⟩,
                  ⟨⟨some 101, Go.Op.load 21 (Go.Operand.tmp 100), 21, (some (91, true))⟩, false, false, false⟩,
                  ⟨⟨some 102, Go.Op.binOp Go.BinOp.leq 21 (Go.Operand.tmp 94) (Go.Operand.tmp 101) 21, 4, (some (91, true))⟩, false, false, false⟩,
                  ⟨⟨some 103, Go.Op.pick (Go.Operand.tmp 91) (Go.Operand.tmp 102) (Go.Operand.const (Go.Value.bool false)), 4, (some (88, false))⟩, false, false, false⟩,
                  ⟨⟨some 104, Go.Op.pick (Go.Operand.tmp 88) (Go.Operand.const (Go.Value.bool true)) (Go.Operand.tmp 103), 4, none⟩, false, false, false⟩])
                (.cond (Go.Operand.tmp 104)
                  (.seq (.region [⟨some 2, Go.Op.assign (Go.Operand.const (Go.Value.int Go.IntKind.i64 1)), 41, none⟩])
                  .ret)
                  .skip))))
              (.region [⟨some 105, Go.Op.binOp Go.BinOp.add 3 (Go.Operand.tmp 51) (Go.Operand.const (Go.Value.int Go.IntKind.i64 1)) 3, 3, none⟩,
                ⟨some 51, Go.Op.move (Go.Operand.tmp 105), 3, none⟩]))))))))))
        (.region [⟨some 106, Go.Op.binOp Go.BinOp.add 3 (Go.Operand.tmp 38) (Go.Operand.const (Go.Value.int Go.IntKind.i64 1)) 3, 3, none⟩,
          ⟨some 38, Go.Op.move (Go.Operand.tmp 106), 3, none⟩])))))))
    (.seq (.region [⟨some 2, Go.Op.assign (Go.Operand.const (Go.Value.int Go.IntKind.i64 0)), 41, none⟩])
    .ret))))) :=
  ⟨foll, Tryz.f11, Tryz.func11, by kernel_rfl, by kernel_rfl, by kernel_rfl, by rw [Tryz.ntmps11]; decide⟩

/-- narrator.dfa.Run -/
theorem fn12 : FnIs Tryz.prog 12 2 [Go.ResultVar.tmp 4] (.seq (.region [⟨some 2, Go.Op.box 29 (Go.Operand.tmp 0), 0, none⟩,
      ⟨some 4, Go.Op.assign (Go.Operand.const (Go.Value.int Go.IntKind.i64 0)), 3, none⟩])
    (.seq (.seq (.region [⟨some 8, Go.Op.load 29 (Go.Operand.tmp 2), 29, none⟩,
      ⟨some 9, Go.Op.call { callee := Go.Callee.value (Go.Operand.func 11), args := #[Go.Operand.tmp 8], argTypes := #[29] }, 41, none⟩,
      ⟨some 10, Go.Op.binOp Go.BinOp.neq 41 (Go.Operand.tmp 9) (Go.Operand.const (Go.Value.int Go.IntKind.i64 0)) 41, 4, none⟩])
    (.cond (Go.Operand.tmp 10)
      (.seq (.region [⟨some 4, Go.Op.assign (Go.Operand.const (Go.Value.int Go.IntKind.i64 (-1))), 3, none⟩])
      .ret)
      .skip))
    (.seq (.region [⟨some 11, Go.Op.fieldAddr 29 (Go.Operand.tmp 2) 0, 0, none⟩,
      ⟨some 12, Go.Op.load 3 (Go.Operand.tmp 11), 3, none⟩,
      ⟨some 5, Go.Op.assign (Go.Operand.tmp 12), 3, none⟩])
    (.seq (.seq (.region [⟨some 13, Go.Op.move (Go.Operand.tmp 1), 9, none⟩,
      ⟨some 14, Go.Op.call { callee := Go.Callee.value (Go.Operand.func 24), args := #[Go.Operand.tmp 13], argTypes := #[9] }, 62, none⟩,
      ⟨some 15, Go.Op.call { callee := Go.Callee.builtin Go.Builtin.len, args := #[Go.Operand.tmp 14], argTypes := #[62] }, 3, none⟩,
      ⟨some 16, Go.Op.move (Go.Operand.const (Go.Value.int Go.IntKind.i64 0)), 3, none⟩])
    (.block 0
      (.loop
        (.seq (.region [⟨some 17, Go.Op.binOp Go.BinOp.lss 3 (Go.Operand.tmp 16) (Go.Operand.tmp 15) 3, 0, none⟩])
        (.seq (.cond (Go.Operand.tmp 17)
          .skip
          (.exit 0))
        (.seq (.block 1
          (.seq (.region [⟨some 18, Go.Op.indexAddr 62 (Go.Operand.tmp 14) (Go.Operand.tmp 16), 0, none⟩,
            ⟨some 19, Go.Op.load 21 (Go.Operand.tmp 18), 21, none⟩,
            ⟨some 7, Go.Op.assign (Go.Operand.tmp 19), 21, none⟩])
          (.seq (.region [⟨some 20, Go.Op.fieldAddr 29 (Go.Operand.tmp 2) 1, 0, none⟩,
            ⟨some 21, Go.Op.load 26 (Go.Operand.tmp 20), 26, none⟩,
            ⟨some 22, Go.Op.move (Go.Operand.tmp 5), 3, none⟩,
            ⟨some 23, Go.Op.indexAddr 26 (Go.Operand.tmp 21) (Go.Operand.tmp 22), 0, none⟩,
            ⟨some 24, Go.Op.load 40 (Go.Operand.tmp 23), 40, none⟩,
            ⟨some 25, Go.Op.move (Go.Operand.tmp 7), 21, none⟩,
            ⟨some 26, Go.Op.call { callee := Go.Callee.value (Go.Operand.func 25), args := #[Go.Operand.tmp 24, Go.Operand.tmp 25], argTypes := #[40, 21] }, 3, none⟩,
            ⟨some 5, Go.Op.assign (Go.Operand.tmp 26), 3, none⟩])
          (.seq (.region [⟨some 27, Go.Op.move (Go.Operand.tmp 5), 3, none⟩,
            ⟨some 28, Go.Op.binOp Go.BinOp.eql 3 (Go.Operand.tmp 27) (Go.Operand.const (Go.Value.int Go.IntKind.i64 (-1))) 3, 4, none⟩])
          (.cond (Go.Operand.tmp 28)
            (.seq (.region [⟨some 4, Go.Op.assign (Go.Operand.const (Go.Value.int Go.IntKind.i64 (-1))), 3, none⟩])
            .ret)
            .skip)))))
        (.region [⟨some 29, Go.Op.binOp Go.BinOp.add 3 (Go.Operand.tmp 16) (Go.Operand.const (Go.Value.int Go.IntKind.i64 1)) 3, 3, none⟩,
          ⟨some 16, Go.Op.move (Go.Operand.tmp 29), 3, none⟩])))))))
    (.seq (.region [⟨some 30, Go.Op.fieldAddr 29 (Go.Operand.tmp 2) 2, 0, none⟩,
      ⟨some 31, Go.Op.load 27 (Go.Operand.tmp 30), 27, none⟩,
      ⟨some 32, Go.Op.move (Go.Operand.tmp 5), 3, none⟩,
      ⟨some 33, Go.Op.indexAddr 27 (Go.Operand.tmp 31) (Go.Operand.tmp 32), 0, none⟩,
      ⟨some 34, Go.Op.load 3 (Go.Operand.tmp 33), 3, none⟩,
      ⟨some 4, Go.Op.assign (Go.Operand.tmp 34), 3, none⟩])
    .ret))))) :=
  ⟨foll, Tryz.f12, Tryz.func12, by kernel_rfl, by kernel_rfl, by kernel_rfl, by rw [Tryz.ntmps12]; decide⟩

/-- narrator.narratorref33.Check -/
theorem fn13 : FnIs Tryz.prog 13 1 [Go.ResultVar.tmp 2] (.seq (.region [⟨some 1, Go.Op.box 29 (Go.Operand.tmp 0), 0, none⟩,
      ⟨some 2, Go.Op.assign (Go.Operand.const (Go.Value.int Go.IntKind.i64 0)), 41, none⟩])
    (.seq (.region [⟨some 5, Go.Op.fieldAddr 29 (Go.Operand.tmp 1) 1, 0, none⟩,
      ⟨some 6, Go.Op.load 26 (Go.Operand.tmp 5), 26, none⟩,
      ⟨some 7, Go.Op.call { callee := Go.Callee.builtin Go.Builtin.len, args := #[Go.Operand.tmp 6], argTypes := #[26] }, 3, none⟩,
      ⟨some 3, Go.Op.assign (Go.Operand.tmp 7), 3, none⟩])
    (.seq (.seq (.region [⟨some 8, Go.Op.move (Go.Operand.tmp 3), 3, none⟩,
      ⟨some 9, Go.Op.binOp Go.BinOp.lss 3 (Go.Operand.tmp 8) (Go.Operand.const (Go.Value.int Go.IntKind.i64 1)) 3, 4, none⟩,
      ⟨some 10, Go.Op.move (Go.Operand.tmp 9), 4, none⟩,
      ⟨some 11, Go.Op.move (Go.Operand.tmp 3), 3, (some (10, false))⟩,
      ⟨some 12, Go.Op.binOp Go.BinOp.gtr 3 (Go.Operand.tmp 11) (Go.Operand.const (Go.Value.int Go.IntKind.i64 3000)) 3, 4, (some (10, false))⟩,
      ⟨some 13, Go.Op.pick (Go.Operand.tmp 10) (Go.Operand.const (Go.Value.bool true)) (Go.Operand.tmp 12), 4, none⟩,
      ⟨some 14, Go.Op.move (Go.Operand.tmp 13), 4, none⟩,
      ⟨some 15, Go.Op.fieldAddr 29 (Go.Operand.tmp 1) 2, 0, (some (14, false))⟩,
      ⟨some 16, Go.Op.load 27 (Go.Operand.tmp 15), 27, (some (14, false))⟩,
      ⟨some 17, Go.Op.call { callee := Go.Callee.builtin Go.Builtin.len, args := #[Go.Operand.tmp 16], argTypes := #[27] }, 3, (some (14, false))⟩,
      ⟨some 18, Go.Op.move (Go.Operand.tmp 3), 3, (some (14, false))⟩,
      ⟨some 19, Go.Op.binOp Go.BinOp.neq 3 (Go.Operand.tmp 17) (Go.Operand.tmp 18) 3, 4, (some (14, false))⟩,
      ⟨some 20, Go.Op.pick (Go.Operand.tmp 14) (Go.Operand.const (Go.Value.bool true)) (Go.Operand.tmp 19), 4, none⟩,
      ⟨some 21, Go.Op.move (Go.Operand.tmp 20), 4, none⟩,
      ⟨some 22, Go.Op.fieldAddr 29 (Go.Operand.tmp 1) 0, 0, (some (21, false))⟩,
      ⟨some 23, Go.Op.load 3 (Go.Operand.tmp 22), 3, (some (21, false))⟩,
      ⟨some 24, Go.Op.binOp Go.BinOp.lss 3 (Go.Operand.tmp 23) (Go.Operand.const (Go.Value.int Go.IntKind.i64 0)) 3, 4, (some (21, false))⟩,
      ⟨some 25, Go.Op.pick (Go.Operand.tmp 21) (Go.Operand.const (Go.Value.bool true)) (Go.Operand.tmp 24), 4, none⟩,
      ⟨some 26, Go.Op.move (Go.Operand.tmp 25), 4, none⟩,
      ⟨some 27, Go.Op.fieldAddr 29 (Go.Operand.tmp 1) 0, 0, (some (26, false))⟩,
      ⟨some 28, Go.Op.load 3 (Go.Operand.tmp 27), 3, (some (26, false))⟩,
      ⟨some 29, Go.Op.move (Go.Operand.tmp 3), 3, (some (26, false))⟩,
      ⟨some 30, Go.Op.binOp Go.BinOp.geq 3 (Go.Operand.tmp 28) (Go.Operand.tmp 29) 3, 4, (some (26, false))⟩,
      ⟨some 31, Go.Op.pick (Go.Operand.tmp 26) (Go.Operand.const (Go.Value.bool true)) (Go.Operand.tmp 30), 4, none⟩])
    (.cond (Go.Operand.tmp 31)
      (.seq (.region [⟨some 2, Go.Op.assign (Go.Operand.const (Go.Value.int Go.IntKind.i64 1)), 41, none⟩])
      .ret)
      .skip))
    (.seq (.seq (.region [⟨some 4, Go.Op.assign (Go.Operand.const (Go.Value.int Go.IntKind.i64 0)), 3, none⟩])
    (.block 0
      (.loop
        (.seq (.seq (.region [⟨some 32, Go.Op.move (Go.Operand.tmp 4), 3, none⟩,
          ⟨some 33, Go.Op.move (Go.Operand.tmp 3), 3, none⟩,
          ⟨some 34, Go.Op.binOp Go.BinOp.lss 3 (Go.Operand.tmp 32) (Go.Operand.tmp 33) 3, 4, none⟩])
        (.cond (Go.Operand.tmp 34)
          .skip
          (.exit 0)))
        (.seq (.block 1
          (.seq (.region [⟨some 37, Go.Op.fieldAddr 29 (Go.Operand.tmp 1) 2, 0, none⟩,
            ⟨some 38, Go.Op.load 27 (Go.Operand.tmp 37), 27, none⟩,
            ⟨some 39, Go.Op.move (Go.Operand.tmp 4), 3, none⟩,
            ⟨some 40, Go.Op.indexAddr 27 (Go.Operand.tmp 38) (Go.Operand.tmp 39), 0, none⟩,
            ⟨some 41, Go.Op.load 3 (Go.Operand.tmp 40), 3, none⟩,
            ⟨some 42, Go.Op.binOp Go.BinOp.lss 3 (Go.Operand.tmp 41) (Go.Operand.const (Go.Value.int Go.IntKind.i64 (-1))) 3, 4, none⟩,
            ⟨some 43, Go.Op.move (Go.Operand.tmp 42), 4, none⟩,
            ⟨some 44, Go.Op.fieldAddr 29 (Go.Operand.tmp 1) 1, 0, (some (43, false))⟩,
            ⟨some 45, Go.Op.load 26 (Go.Operand.tmp 44), 26, (some (43, false))⟩,
            ⟨some 46, Go.Op.move (Go.Operand.tmp 4), 3, (some (43, false))⟩,
            ⟨some 47, Go.Op.indexAddr 26 (Go.Operand.tmp 45) (Go.Operand.tmp 46), 0, (some (43, false))⟩,
            ⟨some 48, Go.Op.load 40 (Go.Operand.tmp 47), 40, (some (43, false))⟩,
            ⟨some 49, Go.Op.move (Go.Operand.tmp 3), 3, (some (43, false))⟩,
            ⟨some 50, Go.Op.call { callee := Go.Callee.value (Go.Operand.func 26), args := #[Go.Operand.tmp 48, Go.Operand.tmp 49], argTypes := #[40, 3] }, 4, (some (43, false))⟩,
            ⟨some 51, Go.Op.unOp Go.UnOp.not 4 (Go.Operand.tmp 50), 4, (some (43, false))⟩,
            ⟨some 52, Go.Op.pick (Go.Operand.tmp 43) (Go.Operand.const (Go.Value.bool true)) (Go.Operand.tmp 51), 4, none⟩])
          (.cond (Go.Operand.tmp 52)
            (.seq (.region [⟨some 2, Go.Op.assign (Go.Operand.const (Go.Value.int Go.IntKind.i64 1)), 41, none⟩])
            .ret)
            .skip)))
        (.region [⟨some 35, Go.Op.move (Go.Operand.tmp 4), 3, none⟩,
          ⟨some 36, Go.Op.binOp Go.BinOp.add 3 (Go.Operand.tmp 35) (Go.Operand.const (Go.Value.int Go.IntKind.i64 1)) 3, 3, none⟩,
          ⟨some 4, Go.Op.assign (Go.Operand.tmp 36), 3, none⟩]))))))
    (.seq (.region [⟨some 2, Go.Op.assign (Go.Operand.const (Go.Value.int Go.IntKind.i64 0)), 41, none⟩])
    .ret))))) :=
  ⟨foll, Tryz.f13, Tryz.func13, by kernel_rfl, by kernel_rfl, by kernel_rfl, by rw [Tryz.ntmps13]; decide⟩

/-- narrator.narratorref33.Run -/
theorem fn14 : FnIs Tryz.prog 14 2 [Go.ResultVar.tmp 4] (.seq (.region [⟨some 2, Go.Op.box 29 (Go.Operand.tmp 0), 0, none⟩,
      ⟨some 4, Go.Op.assign (Go.Operand.const (Go.Value.int Go.IntKind.i64 0)), 3, none⟩])
    (.seq (.region [⟨some 10, Go.Op.move (Go.Operand.tmp 1), 9, none⟩,
      ⟨some 11, Go.Op.call { callee := Go.Callee.value (Go.Operand.func 27), args := #[Go.Operand.const (Go.Value.string { data := #[] }), Go.Operand.tmp 10], argTypes := #[9, 9] }, 66, none⟩,
      ⟨some 9, Go.Op.move (Go.Operand.tmp 11), 66, none⟩,
      ⟨some 12, Go.Op.extract (Go.Operand.tmp 9) 0, 62, none⟩,
      ⟨some 13, Go.Op.extract (Go.Operand.tmp 9) 1, 9, none⟩,
      ⟨some 5, Go.Op.assign (Go.Operand.tmp 12), 62, none⟩,
      ⟨some 6, Go.Op.assign (Go.Operand.tmp 13), 9, none⟩])
    (.seq (.seq (.region [⟨some 14, Go.Op.move (Go.Operand.tmp 6), 9, none⟩,
      ⟨some 15, Go.Op.binOp Go.BinOp.neq 9 (Go.Operand.tmp 14) (Go.Operand.const (Go.Value.string { data := #[] })) 9, 4, none⟩])
    (.cond (Go.Operand.tmp 15)
      (.region [⟨some 16, Go.Op.move (Go.Operand.tmp 5), 62, none⟩,
        ⟨some 17, Go.Op.buildSlice 62 1 #[(0, Go.Operand.const (Go.Value.int Go.IntKind.i32 65533))], 62, none⟩,
        ⟨some 18, Go.Op.call { callee := Go.Callee.builtin Go.Builtin.append, args := #[Go.Operand.tmp 16, Go.Operand.tmp 17], argTypes := #[62, 62] }, 62, none⟩,
        ⟨some 5, Go.Op.assign (Go.Operand.tmp 18), 62, none⟩])
      .skip))
    (.seq (.region [⟨some 19, Go.Op.fieldAddr 29 (Go.Operand.tmp 2) 0, 0, none⟩,
      ⟨some 20, Go.Op.load 3 (Go.Operand.tmp 19), 3, none⟩,
      ⟨some 7, Go.Op.assign (Go.Operand.tmp 20), 3, none⟩])
    (.seq (.seq (.region [⟨some 8, Go.Op.assign (Go.Operand.const (Go.Value.int Go.IntKind.i64 0)), 3, none⟩])
    (.block 0
      (.loop
        (.seq (.seq (.region [⟨some 21, Go.Op.move (Go.Operand.tmp 8), 3, none⟩,
          ⟨some 22, Go.Op.move (Go.Operand.tmp 5), 62, none⟩,
          ⟨some 23, Go.Op.call { callee := Go.Callee.builtin Go.Builtin.len, args := #[Go.Operand.tmp 22], argTypes := #[62] }, 3, none⟩,
          ⟨some 24, Go.Op.binOp Go.BinOp.lss 3 (Go.Operand.tmp 21) (Go.Operand.tmp 23) 3, 4, none⟩])
        (.cond (Go.Operand.tmp 24)
          .skip
          (.exit 0)))
        (.seq (.block 1
          (.seq (.draw [⟨⟨some 27, Go.Op.load 29 (Go.Operand.tmp 2), 29, none⟩, false, false, false⟩,
            ⟨⟨some 28, Go.Op.move (Go.Operand.tmp 7), 3, none⟩, false, false, false⟩,
            ⟨⟨some 29, Go.Op.move (Go.Operand.tmp 5), 62, none⟩, false, false, false⟩,
            ⟨⟨some 30, Go.Op.move (Go.Operand.tmp 8), 3, none⟩, false, false, false⟩,
            ⟨⟨some 31, Go.Op.indexAddr 62 (Go.Operand.tmp 29) (Go.Operand.tmp 30), 0, none⟩, false, false, false⟩,
            ⟨⟨some 32, Go.Op.load 21 (Go.Operand.tmp 31), 21, none⟩, false, false, false⟩,
            ⟨⟨some 33, Go.Op.call { callee := Go.Callee.value (Go.Operand.func 28), args := #[Go.Operand.tmp 27, Go.Operand.tmp 28, Go.Operand.tmp 32], argTypes := #[29, 3, 21] }, 3, none⟩, false, false, false⟩,
            ⟨⟨some 7, Go.Op.assign (Go.Operand.tmp 33), 3, none⟩, false, false, false⟩])
          (.seq (.region [⟨some 34, Go.Op.move (Go.Operand.tmp 7), 3, none⟩,
            ⟨some 35, Go.Op.binOp Go.BinOp.lss 3 (Go.Operand.tmp 34) (Go.Operand.const (Go.Value.int Go.IntKind.i64 0)) 3, 4, none⟩])
          (.cond (Go.Operand.tmp 35)
            (.seq (.region [⟨some 4, Go.Op.assign (Go.Operand.const (Go.Value.int Go.IntKind.i64 (-1))), 3, none⟩])
            .ret)
            .skip))))
        (.region [⟨some 25, Go.Op.move (Go.Operand.tmp 8), 3, none⟩,
          ⟨some 26, Go.Op.binOp Go.BinOp.add 3 (Go.Operand.tmp 25) (Go.Operand.const (Go.Value.int Go.IntKind.i64 1)) 3, 3, none⟩,
          ⟨some 8, Go.Op.assign (Go.Operand.tmp 26), 3, none⟩]))))))
    (.seq (.region [⟨some 36, Go.Op.fieldAddr 29 (Go.Operand.tmp 2) 2, 0, none⟩,
      ⟨some 37, Go.Op.load 27 (Go.Operand.tmp 36), 27, none⟩,
      ⟨some 38, Go.Op.move (Go.Operand.tmp 7), 3, none⟩,
      ⟨some 39, Go.Op.indexAddr 27 (Go.Operand.tmp 37) (Go.Operand.tmp 38), 0, none⟩,
      ⟨some 40, Go.Op.load 3 (Go.Operand.tmp 39), 3, none⟩,
      ⟨some 4, Go.Op.assign (Go.Operand.tmp 40), 3, none⟩])
    .ret)))))) :=
  ⟨foll, Tryz.f14, Tryz.func14, by kernel_rfl, by kernel_rfl, by kernel_rfl, by rw [Tryz.ntmps14]; decide⟩

/-- narrator.dfa.character -/
theorem fn23 : FnIs Tryz.prog 23 1 [Go.ResultVar.tmp 2] (.seq (.region [⟨some 2, Go.Op.assign (Go.Operand.const (Go.Value.bool false)), 4, none⟩])
    (.seq (.region [⟨some 3, Go.Op.move (Go.Operand.tmp 0), 21, none⟩,
      ⟨some 4, Go.Op.binOp Go.BinOp.geq 21 (Go.Operand.tmp 3) (Go.Operand.const (Go.Value.int Go.IntKind.i32 0)) 21, 4, none⟩,
      ⟨some 5, Go.Op.move (Go.Operand.tmp 4), 4, none⟩,
      ⟨some 6, Go.Op.move (Go.Operand.tmp 0), 21, (some (5, true))⟩,
      ⟨some 7, Go.Op.binOp Go.BinOp.leq 21 (Go.Operand.tmp 6) (Go.Operand.const (Go.Value.int Go.IntKind.i32 55295)) 21, 4, (some (5, true))⟩,
      ⟨some 8, Go.Op.pick (Go.Operand.tmp 5) (Go.Operand.tmp 7) (Go.Operand.const (Go.Value.bool false)), 4, none⟩,
      ⟨some 9, Go.Op.move (Go.Operand.tmp 8), 4, none⟩,
      ⟨some 10, Go.Op.move (Go.Operand.tmp 0), 21, (some (9, false))⟩,
      ⟨some 11, Go.Op.binOp Go.BinOp.geq 21 (Go.Operand.tmp 10) (Go.Operand.const (Go.Value.int Go.IntKind.i32 57344)) 21, 4, (some (9, false))⟩,
      ⟨some 12, Go.Op.move (Go.Operand.tmp 11), 4, (some (9, false))⟩,
      ⟨some 13, Go.Op.move (Go.Operand.tmp 0), 21, (some (12, true))⟩,
      ⟨some 14, Go.Op.binOp Go.BinOp.leq 21 (Go.Operand.tmp 13) (Go.Operand.const (Go.Value.int Go.IntKind.i32 1114111)) 21, 4, (some (12, true))⟩,
      ⟨some 15, Go.Op.pick (Go.Operand.tmp 12) (Go.Operand.tmp 14) (Go.Operand.const (Go.Value.bool false)), 4, (some (9, false))⟩,
      ⟨some 16, Go.Op.pick (Go.Operand.tmp 9) (Go.Operand.const (Go.Value.bool true)) (Go.Operand.tmp 15), 4, none⟩,
      ⟨some 2, Go.Op.assign (Go.Operand.tmp 16), 4, none⟩])
    .ret)) :=
  ⟨foll, Tryz.f23, Tryz.func23, by kernel_rfl, by kernel_rfl, by kernel_rfl, by rw [Tryz.ntmps23]; decide⟩

/-- narrator.dfa.next -/
theorem fn25 : FnIs Tryz.prog 25 2 [Go.ResultVar.tmp 4] (.seq (.region [⟨some 2, Go.Op.box 40 (Go.Operand.tmp 0), 0, none⟩,
      ⟨some 3, Go.Op.box 21 (Go.Operand.tmp 1), 0, none⟩,
      ⟨some 4, Go.Op.assign (Go.Operand.const (Go.Value.int Go.IntKind.i64 0)), 3, none⟩])
    (.seq (.region [⟨some 6, Go.Op.load 40 (Go.Operand.tmp 2), 40, none⟩,
      ⟨some 7, Go.Op.call { callee := Go.Callee.builtin Go.Builtin.len, args := #[Go.Operand.tmp 6], argTypes := #[40] }, 3, none⟩,
      ⟨some 8, Go.Op.makeFunc (Go.Fn.func 41) #[] #[Go.Operand.tmp 2, Go.Operand.tmp 3], 87, none⟩,
      ⟨some 9, Go.Op.call { callee := Go.Callee.value (Go.Operand.func 40), args := #[Go.Operand.tmp 7, Go.Operand.tmp 8], argTypes := #[3, 87] }, 3, none⟩,
      ⟨some 5, Go.Op.assign (Go.Operand.tmp 9), 3, none⟩])
    (.seq (.seq (.draw [⟨⟨some 10, Go.Op.move (Go.Operand.tmp 5), 3, none⟩, false, false, false⟩,
      ⟨⟨some 11, Go.Op.load 40 (Go.Operand.tmp 2), 40, none⟩, false, false, false⟩,
      ⟨⟨some 12, Go.Op.call { callee := Go.Callee.builtin Go.Builtin.len, args := #[Go.Operand.tmp 11], argTypes := #[40] }, 3, none⟩, false, false, false⟩,
      ⟨⟨some 13, Go.Op.binOp Go.BinOp.lss 3 (Go.Operand.tmp 10) (Go.Operand.tmp 12) 3, 4, none⟩, false, false, false⟩,
      ⟨⟨some 14, Go.Op.move (Go.Operand.tmp 13), 4, none⟩, false, false, false⟩,
      ⟨⟨some 15, Go.Op.load 40 (Go.Operand.tmp 2), 40, (some (14, true))⟩, false, false, false⟩,
      ⟨⟨some 16, Go.Op.move (Go.Operand.tmp 5), 3, (some (14, true))⟩, false, false, false⟩,
      ⟨⟨some 17, Go.Op.indexAddr 40 (Go.Operand.tmp 15) (Go.Operand.tmp 16), 0, (some (14, true))⟩, false, false, false⟩,
      ⟨⟨some 18, Go.Op.fieldAddr 60 (Go.Operand.tmp 17) 0, 0, (some (14, true))⟩, false, false, false⟩,
      ⟨⟨some 19, Go.Op.fieldAddr 58 (Go.Operand.tmp 18) 0, 0, (some (14, true))⟩, false, false, false⟩,
      ⟨⟨some 20, Go.Op.load 21 (Go.Operand.tmp 19), 21, (some (14, true))⟩, false, false, false⟩,
      ⟨⟨some 21, Go.Op.load 21 (Go.Operand.tmp 3), 21, (some (14, true))⟩, false, false, false⟩,
      ⟨⟨some 22, Go.Op.binOp Go.BinOp.leq 21 (Go.Operand.tmp 20) (Go.Operand.tmp 21) 21, 4, (some (14, true))⟩, false, false, false⟩,
      ⟨⟨some 23, Go.Op.pick (Go.Operand.tmp 14) (Go.Operand.tmp 22) (Go.Operand.const (Go.Value.bool false)), 4, none⟩, false, false, false⟩])
    (.cond (Go.Operand.tmp 23)
      (.seq (.region [⟨some 24, Go.Op.load 40 (Go.Operand.tmp 2), 40, none⟩,
        ⟨some 25, Go.Op.move (Go.Operand.tmp 5), 3, none⟩,
        ⟨some 26, Go.Op.indexAddr 40 (Go.Operand.tmp 24) (Go.Operand.tmp 25), 0, none⟩,
        ⟨some 27, Go.Op.fieldAddr 60 (Go.Operand.tmp 26) 1, 0, none⟩,
        ⟨some 28, Go.Op.load 3 (Go.Operand.tmp 27), 3, none⟩,
        ⟨some 4, Go.Op.assign (Go.Operand.tmp 28), 3, none⟩])
      .ret)
      .skip))
    (.seq (.region [⟨some 4, Go.Op.assign (Go.Operand.const (Go.Value.int Go.IntKind.i64 (-1))), 3, none⟩])
    .ret)))) :=
  ⟨foll, Tryz.f25, Tryz.func25, by kernel_rfl, by kernel_rfl, by kernel_rfl, by rw [Tryz.ntmps25]; decide⟩

/-- narrator.narratorref33.arcs -/
theorem fn26 : FnIs Tryz.prog 26 2 [Go.ResultVar.tmp 4] (.seq (.region [⟨some 4, Go.Op.assign (Go.Operand.const (Go.Value.bool false)), 4, none⟩])
    (.seq (.seq (.region [⟨some 5, Go.Op.assign (Go.Operand.const (Go.Value.int Go.IntKind.i64 0)), 3, none⟩])
    (.block 0
      (.loop
        (.seq (.seq (.region [⟨some 7, Go.Op.move (Go.Operand.tmp 5), 3, none⟩,
          ⟨some 8, Go.Op.move (Go.Operand.tmp 0), 40, none⟩,
          ⟨some 9, Go.Op.call { callee := Go.Callee.builtin Go.Builtin.len, args := #[Go.Operand.tmp 8], argTypes := #[40] }, 3, none⟩,
          ⟨some 10, Go.Op.binOp Go.BinOp.lss 3 (Go.Operand.tmp 7) (Go.Operand.tmp 9) 3, 4, none⟩])
        (.cond (Go.Operand.tmp 10)
          .skip
          (.exit 0)))
        (.seq (.block 1
          (.seq (.region [⟨some 13, Go.Op.move (Go.Operand.tmp 0), 40, none⟩,
            ⟨some 14, Go.Op.move (Go.Operand.tmp 5), 3, none⟩,
            ⟨some 15, Go.Op.indexAddr 40 (Go.Operand.tmp 13) (Go.Operand.tmp 14), 0, none⟩,
            ⟨some 16, Go.Op.load 60 (Go.Operand.tmp 15), 60, none⟩,
            ⟨some 6, Go.Op.alloc 60, 0, none⟩,
            ⟨none, Go.Op.store 60 (Go.Operand.tmp 6) (Go.Operand.tmp 16), 0, none⟩])
          (.seq (.draw [⟨⟨some 17, Go.Op.fieldAddr 60 (Go.Operand.tmp 6) 0, 0, none⟩, false, false, false⟩,
            ⟨⟨some 18, Go.Op.fieldAddr 58 (Go.Operand.tmp 17) 0, 0, none⟩, false, false, false⟩,
            ⟨⟨some 19, Go.Op.load 21 (Go.Operand.tmp 18), 21, none⟩, false, false, false⟩,
            ⟨⟨some 20, Go.Op.call { callee := Go.Callee.value (Go.Operand.func 42), args := #[Go.Operand.tmp 19], argTypes := #[21] }, 4, none⟩, false, false, false⟩,
            ⟨⟨some 21, Go.Op.unOp Go.UnOp.not 4 (Go.Operand.tmp 20), 4, none⟩, false, false, false⟩,
            ⟨⟨some 22, Go.Op.move (Go.Operand.tmp 21), 4, none⟩, false, false, false⟩,
            ⟨⟨some 23, Go.Op.fieldAddr 60 (Go.Operand.tmp 6) 0, 0, (some (22, false))⟩, false, false, false⟩,
            ⟨⟨some 24, Go.Op.fieldAddr 58 (Go.Operand.tmp 23) 1, 0, (some (22, false))⟩, false, false, false⟩,
            ⟨⟨some 25, Go.Op.load 21 (Go.Operand.tmp 24), 21, (some (22, false))⟩, false, false, false⟩,
            ⟨⟨some 26, Go.Op.call { callee := Go.Callee.value (Go.Operand.func 42), args := #[Go.Operand.tmp 25], argTypes := #[21] }, 4, (some (22, false))⟩, false, false, false⟩,
            ⟨⟨some 27, Go.Op.unOp Go.UnOp.not 4 (Go.Operand.tmp 26), 4, (some (22, false))⟩, false, false, false⟩,
            ⟨⟨some 28, Go.Op.pick (Go.Operand.tmp 22) (Go.Operand.const (Go.Value.bool true)) (Go.Operand.tmp 27), 4, none⟩, false, false, false⟩,
            ⟨⟨some 29, Go.Op.move (Go.Operand.tmp 28), 4, none⟩, false, false, false⟩,
            ⟨⟨some 30, Go.Op.fieldAddr 60 (Go.Operand.tmp 6) 0, 0, (some (29, false))⟩, false, false, false⟩,
            ⟨⟨some 31, Go.Op.fieldAddr 58 (Go.Operand.tmp 30) 0, 0, (some (29, false))⟩, false, false, false⟩,
            ⟨⟨some 32, Go.Op.load 21 (Go.Operand.tmp 31), 21, (some (29, false))⟩, false, false, false⟩,
            ⟨⟨some 33, Go.Op.fieldAddr 60 (Go.Operand.tmp 6) 0, 0, (some (29, false))⟩, false, false, false⟩,
            ⟨⟨some 34, Go.Op.fieldAddr 58 (Go.Operand.tmp 33) 1, 0, (some (29, false))⟩, false, false, false⟩,
            ⟨⟨some 35, Go.Op.load 21 (Go.Operand.tmp 34), 21, (some (29, false))⟩, false, false, false⟩,
            ⟨⟨some 36, Go.Op.binOp Go.BinOp.gtr 21 (Go.Operand.tmp 32) (Go.Operand.tmp 35) 21, 4, (some (29, false))⟩, false, false, false⟩,
            ⟨⟨some 37, Go.Op.pick (Go.Operand.tmp 29) (Go.Operand.const (Go.Value.bool true)) (Go.Operand.tmp 36), 4, none⟩, false, false, false⟩,
            ⟨⟨some 38, Go.Op.move (Go.Operand.tmp 37), 4, none⟩, false, false, false⟩,
            ⟨⟨some 39, Go.Op.fieldAddr 60 (Go.Operand.tmp 6) 1, 0, (some (38, false))⟩, false, false, false⟩,
            ⟨⟨some 40, Go.Op.load 3 (Go.Operand.tmp 39), 3, (some (38, false))⟩, false, false, false⟩,
            ⟨⟨some 41, Go.Op.binOp Go.BinOp.lss 3 (Go.Operand.tmp 40) (Go.Operand.const (Go.Value.int Go.IntKind.i64 0)) 3, 4, (some (38, false))⟩, false, false, false⟩,
            ⟨⟨some 42, Go.Op.pick (Go.Operand.tmp 38) (Go.Operand.const (Go.Value.bool true)) (Go.Operand.tmp 41), 4, none⟩, false, false, false⟩,
            ⟨⟨some 43, Go.Op.move (Go.Operand.tmp 42), 4, none⟩, false, false, false⟩,
            ⟨⟨some 44, Go.Op.fieldAddr 60 (Go.Operand.tmp 6) 1, 0, (some (43, false))⟩, false, false, false⟩,
            ⟨⟨some 45, Go.Op.load 3 (Go.Operand.tmp 44), 3, (some (43, false))⟩, false, false, false⟩,
            ⟨⟨some 46, Go.Op.move (Go.Operand.tmp 1), 3, (some (43, false))⟩, false, false, false⟩,
            ⟨⟨some 47, Go.Op.binOp Go.BinOp.geq 3 (Go.Operand.tmp 45) (Go.Operand.tmp 46) 3, 4, (some (43, false))⟩, false, false, false⟩,
            ⟨⟨some 48, Go.Op.pick (Go.Operand.tmp 43) (Go.Operand.const (Go.Value.bool true)) (Go.Operand.tmp 47), 4, none⟩, false, false, false⟩,
            ⟨⟨some 49, Go.Op.move (Go.Operand.tmp 48), 4, none⟩, false, false, false⟩,
            ⟨⟨some 50, Go.Op.move (Go.Operand.tmp 5), 3, (some (49, false))⟩, false, false, false⟩,
            ⟨⟨some 51, Go.Op.binOp Go.BinOp.gtr 3 (Go.Operand.tmp 50) (Go.Operand.const (Go.Value.int Go.IntKind.i64 0)) 3, 4, (some (49, false))⟩, false, false, false⟩,
            ⟨⟨some 52, Go.Op.move (Go.Operand.tmp 51), 4, (some (49, false))⟩, false, false, false⟩,
            ⟨⟨some 53, Go.Op.fieldAddr 60 (Go.Operand.tmp 6) 0, 0, (some (52, true))⟩, false, false, false⟩,
            ⟨⟨some 54, Go.Op.fieldAddr 58 (Go.Operand.tmp 53) 0, 0, (some (52, true))⟩, false, false, false⟩,
            ⟨⟨some 55, Go.Op.load 21 (Go.Operand.tmp 54), 21, (some (52, true))⟩, false, false, false⟩,
            ⟨⟨some 56, Go.Op.move (Go.Operand.tmp 0), 40, (some (52, true))⟩, false, false, false⟩,
            ⟨⟨some 57, Go.Op.move (Go.Operand.tmp 5), 3, (some (52, true))⟩, false, false, false⟩,
            ⟨⟨some 58, Go.Op.binOp Go.BinOp.sub 3 (Go.Operand.tmp 57) (Go.Operand.const (Go.Value.int Go.IntKind.i64 1)) 3, 3, (some (52, true))⟩, false, false, false⟩,
            ⟨⟨some 59, Go.Op.indexAddr 40 (Go.Operand.tmp 56) (Go.Operand.tmp 58), 0, (some (52, true))⟩, false, false, false⟩,
            ⟨⟨some 60, Go.Op.fieldAddr 60 (Go.Operand.tmp 59) 0, 0, (some (52, true))⟩, false, false, false⟩,
            ⟨⟨some 61, Go.Op.fieldAddr 58 (Go.Operand.tmp 60) 1, 0, (some (52, true))⟩, false, false, false⟩,
            ⟨⟨some 62, Go.Op.load 21 (Go.Operand.tmp 61), 21, (some (52, true))⟩, false, false, false⟩,
            ⟨⟨some 63, Go.Op.binOp Go.BinOp.leq 21 (Go.Operand.tmp 55) (Go.Operand.tmp 62) 21, 4, (some (52, true))⟩, false, false, false⟩,
            ⟨⟨some 64, Go.Op.pick (Go.Operand.tmp 52) (Go.Operand.tmp 63) (Go.Operand.const (Go.Value.bool false)), 4, (some (49, false))⟩, false, false, false⟩,
            ⟨⟨some 65, Go.Op.pick (Go.Operand.tmp 49) (Go.Operand.const (Go.Value.bool true)) (Go.Operand.tmp 64), 4, none⟩, false, false, false⟩])
          (.cond (Go.Operand.tmp 65)
            (.seq (.region [⟨some 4, Go.Op.assign (Go.Operand.const (Go.Value.bool false)), 4, none⟩])
            .ret)
            .skip))))
        (.region [⟨some 11, Go.Op.move (Go.Operand.tmp 5), 3, none⟩,
          ⟨some 12, Go.Op.binOp Go.BinOp.add 3 (Go.Operand.tmp 11) (Go.Operand.const (Go.Value.int Go.IntKind.i64 1)) 3, 3, none⟩,
          ⟨some 5, Go.Op.assign (Go.Operand.tmp 12), 3, none⟩]))))))
    (.seq (.region [⟨some 4, Go.Op.assign (Go.Operand.const (Go.Value.bool true)), 4, none⟩])
    .ret))) :=
  ⟨foll, Tryz.f26, Tryz.func26, by kernel_rfl, by kernel_rfl, by kernel_rfl, by rw [Tryz.ntmps26]; decide⟩

/-- narrator.narratorref33.step -/
theorem fn28 : FnIs Tryz.prog 28 3 [Go.ResultVar.tmp 6] (.seq (.region [⟨some 3, Go.Op.box 29 (Go.Operand.tmp 0), 0, none⟩,
      ⟨some 6, Go.Op.assign (Go.Operand.const (Go.Value.int Go.IntKind.i64 0)), 3, none⟩])
    (.seq (.seq (.region [⟨some 7, Go.Op.assign (Go.Operand.const (Go.Value.int Go.IntKind.i64 0)), 3, none⟩])
    (.block 0
      (.loop
        (.seq (.seq (.region [⟨some 8, Go.Op.move (Go.Operand.tmp 7), 3, none⟩,
          ⟨some 9, Go.Op.fieldAddr 29 (Go.Operand.tmp 3) 1, 0, none⟩,
          ⟨some 10, Go.Op.load 26 (Go.Operand.tmp 9), 26, none⟩,
          ⟨some 11, Go.Op.move (Go.Operand.tmp 1), 3, none⟩,
          ⟨some 12, Go.Op.indexAddr 26 (Go.Operand.tmp 10) (Go.Operand.tmp 11), 0, none⟩,
          ⟨some 13, Go.Op.load 40 (Go.Operand.tmp 12), 40, none⟩,
          ⟨some 14, Go.Op.call { callee := Go.Callee.builtin Go.Builtin.len, args := #[Go.Operand.tmp 13], argTypes := #[40] }, 3, none⟩,
          ⟨some 15, Go.Op.binOp Go.BinOp.lss 3 (Go.Operand.tmp 8) (Go.Operand.tmp 14) 3, 4, none⟩])
        (.cond (Go.Operand.tmp 15)
          .skip
          (.exit 0)))
        (.seq (.block 1
          (.seq (.region [⟨some 18, Go.Op.fieldAddr 29 (Go.Operand.tmp 3) 1, 0, none⟩,
            ⟨some 19, Go.Op.load 26 (Go.Operand.tmp 18), 26, none⟩,
            ⟨some 20, Go.Op.move (Go.Operand.tmp 1), 3, none⟩,
            ⟨some 21, Go.Op.indexAddr 26 (Go.Operand.tmp 19) (Go.Operand.tmp 20), 0, none⟩,
            ⟨some 22, Go.Op.load 40 (Go.Operand.tmp 21), 40, none⟩,
            ⟨some 23, Go.Op.move (Go.Operand.tmp 7), 3, none⟩,
            ⟨some 24, Go.Op.indexAddr 40 (Go.Operand.tmp 22) (Go.Operand.tmp 23), 0, none⟩,
            ⟨some 25, Go.Op.fieldAddr 60 (Go.Operand.tmp 24) 0, 0, none⟩,
            ⟨some 26, Go.Op.fieldAddr 58 (Go.Operand.tmp 25) 0, 0, none⟩,
            ⟨some 27, Go.Op.load 21 (Go.Operand.tmp 26), 21, none⟩,
            ⟨some 28, Go.Op.move (Go.Operand.tmp 2), 21, none⟩,
            ⟨some 29, Go.Op.binOp Go.BinOp.leq 21 (Go.Operand.tmp 27) (Go.Operand.tmp 28) 21, 4, none⟩,
            ⟨some 30, Go.Op.move (Go.Operand.tmp 29), 4, none⟩,
            ⟨some 31, Go.Op.move (Go.Operand.tmp 2), 21, (some (30, true))⟩,
            ⟨some 32, Go.Op.fieldAddr 29 (Go.Operand.tmp 3) 1, 0, (some (30, true))⟩,
            ⟨some 33, Go.Op.load 26 (Go.Operand.tmp 32), 26, (some (30, true))⟩,
            ⟨some 34, Go.Op.move (Go.Operand.tmp 1), 3, (some (30, true))⟩,
            ⟨some 35, Go.Op.indexAddr 26 (Go.Operand.tmp 33) (Go.Operand.tmp 34), 0, (some (30, true))⟩,
            ⟨some 36, Go.Op.load 40 (Go.Operand.tmp 35), 40, (some (30, true))⟩,
            ⟨some 37, Go.Op.move (Go.Operand.tmp 7), 3, (some (30, true))⟩,
            ⟨some 38, Go.Op.indexAddr 40 (Go.Operand.tmp 36) (Go.Operand.tmp 37), 0, (some (30, true))⟩,
            ⟨some 39, Go.Op.fieldAddr 60 (Go.Operand.tmp 38) 0, 0, (some (30, true))⟩,
            ⟨some 40, Go.Op.fieldAddr 58 (Go.Operand.tmp 39) 1, 0, (some (30, true))⟩,
            ⟨some 41, Go.Op.load 21 (Go.Operand.tmp 40), 21, (some (30, true))⟩,
            ⟨some 42, Go.Op.binOp Go.BinOp.leq 21 (Go.Operand.tmp 31) (Go.Operand.tmp 41) 21, 4, (some (30, true))⟩,
            ⟨some 43, Go.Op.pick (Go.Operand.tmp 30) (Go.Operand.tmp 42) (Go.Operand.const (Go.Value.bool false)), 4, none⟩])
          (.cond (Go.Operand.tmp 43)
            (.seq (.region [⟨some 44, Go.Op.fieldAddr 29 (Go.Operand.tmp 3) 1, 0, none⟩,
              ⟨some 45, Go.Op.load 26 (Go.Operand.tmp 44), 26, none⟩,
              ⟨some 46, Go.Op.move (Go.Operand.tmp 1), 3, none⟩,
              ⟨some 47, Go.Op.indexAddr 26 (Go.Operand.tmp 45) (Go.Operand.tmp 46), 0, none⟩,
              ⟨some 48, Go.Op.load 40 (Go.Operand.tmp 47), 40, none⟩,
              ⟨some 49, Go.Op.move (Go.Operand.tmp 7), 3, none⟩,
              ⟨some 50, Go.Op.indexAddr 40 (Go.Operand.tmp 48) (Go.Operand.tmp 49), 0, none⟩,
              ⟨some 51, Go.Op.fieldAddr 60 (Go.Operand.tmp 50) 1, 0, none⟩,
              ⟨some 52, Go.Op.load 3 (Go.Operand.tmp 51), 3, none⟩,
              ⟨some 6, Go.Op.assign (Go.Operand.tmp 52), 3, none⟩])
            .ret)
            .skip)))
        (.region [⟨some 16, Go.Op.move (Go.Operand.tmp 7), 3, none⟩,
          ⟨some 17, Go.Op.binOp Go.BinOp.add 3 (Go.Operand.tmp 16) (Go.Operand.const (Go.Value.int Go.IntKind.i64 1)) 3, 3, none⟩,
          ⟨some 7, Go.Op.assign (Go.Operand.tmp 17), 3, none⟩]))))))
    (.seq (.region [⟨some 6, Go.Op.assign (Go.Operand.const (Go.Value.int Go.IntKind.i64 (-1))), 3, none⟩])
    .ret))) :=
  ⟨foll, Tryz.f28, Tryz.func28, by kernel_rfl, by kernel_rfl, by kernel_rfl, by rw [Tryz.ntmps28]; decide⟩

/-- sort.Search -/
theorem fn40 : FnIs Tryz.prog 40 2 [Go.ResultVar.tmp 4] (.seq (.region [⟨some 4, Go.Op.assign (Go.Operand.const (Go.Value.int Go.IntKind.i64 0)), 3, none⟩])
    (.seq (.region [⟨some 8, Go.Op.move (Go.Operand.tmp 0), 3, none⟩,
      ⟨some 5, Go.Op.assign (Go.Operand.const (Go.Value.int Go.IntKind.i64 0)), 3, none⟩,
      ⟨some 6, Go.Op.assign (Go.Operand.tmp 8), 3, none⟩])
    (.seq (.block 0
      (.loop
        (.seq (.seq (.region [⟨some 9, Go.Op.move (Go.Operand.tmp 5), 3, none⟩,
          ⟨some 10, Go.Op.move (Go.Operand.tmp 6), 3, none⟩,
          ⟨some 11, Go.Op.binOp Go.BinOp.lss 3 (Go.Operand.tmp 9) (Go.Operand.tmp 10) 3, 4, none⟩])
        (.cond (Go.Operand.tmp 11)
          .skip
          (.exit 0)))
        (.block 1
          (.seq (.region [⟨some 12, Go.Op.move (Go.Operand.tmp 5), 3, none⟩,
            ⟨some 13, Go.Op.move (Go.Operand.tmp 6), 3, none⟩,
            ⟨some 14, Go.Op.binOp Go.BinOp.add 3 (Go.Operand.tmp 12) (Go.Operand.tmp 13) 3, 3, none⟩,
            ⟨some 15, Go.Op.convert 3 74 (Go.Operand.tmp 14), 74, none⟩,
            ⟨some 16, Go.Op.binOp Go.BinOp.shr 74 (Go.Operand.tmp 15) (Go.Operand.const (Go.Value.int Go.IntKind.u64 1)) 74, 74, none⟩,
            ⟨some 17, Go.Op.convert 74 3 (Go.Operand.tmp 16), 3, none⟩,
            ⟨some 7, Go.Op.assign (Go.Operand.tmp 17), 3, none⟩])
          (.seq (.region [⟨some 18, Go.Op.move (Go.Operand.tmp 1), 87, none⟩,
            ⟨some 19, Go.Op.move (Go.Operand.tmp 7), 3, none⟩,
            ⟨some 20, Go.Op.call { callee := Go.Callee.value (Go.Operand.tmp 18), args := #[Go.Operand.tmp 19], argTypes := #[3] }, 4, none⟩,
            ⟨some 21, Go.Op.unOp Go.UnOp.not 4 (Go.Operand.tmp 20), 4, none⟩])
          (.cond (Go.Operand.tmp 21)
            (.region [⟨some 22, Go.Op.move (Go.Operand.tmp 7), 3, none⟩,
              ⟨some 23, Go.Op.binOp Go.BinOp.add 3 (Go.Operand.tmp 22) (Go.Operand.const (Go.Value.int Go.IntKind.i64 1)) 3, 3, none⟩,
              ⟨some 5, Go.Op.assign (Go.Operand.tmp 23), 3, none⟩])
            (.region [⟨some 24, Go.Op.move (Go.Operand.tmp 7), 3, none⟩,
              ⟨some 6, Go.Op.assign (Go.Operand.tmp 24), 3, none⟩]))))))))
    (.seq (.region [⟨some 25, Go.Op.move (Go.Operand.tmp 5), 3, none⟩,
      ⟨some 4, Go.Op.assign (Go.Operand.tmp 25), 3, none⟩])
    .ret)))) :=
  ⟨foll, Tryz.f40, Tryz.func40, by kernel_rfl, by kernel_rfl, by kernel_rfl, by rw [Tryz.ntmps40]; decide⟩

/-- narrator.dfa.next$1 -/
theorem fn41 : FnIs Tryz.prog 41 3 [Go.ResultVar.tmp 4] (.seq (.region [⟨some 4, Go.Op.assign (Go.Operand.const (Go.Value.bool false)), 4, none⟩])
    (.seq (.draw [⟨⟨some 5, Go.Op.load 40 (Go.Operand.tmp 1), 40, none⟩, false, false, false⟩,
      ⟨⟨some 6, Go.Op.move (Go.Operand.tmp 0), 3, none⟩, false, false, false⟩,
      ⟨⟨some 7, Go.Op.indexAddr 40 (Go.Operand.tmp 5) (Go.Operand.tmp 6), 0, none⟩, false, false, false⟩,
      ⟨⟨some 8, Go.Op.fieldAddr 60 (Go.Operand.tmp 7) 0, 0, none⟩, false, false, false⟩,
      ⟨⟨some 9, Go.Op.fieldAddr 58 (Go.Operand.tmp 8) 1, 0, none⟩, false, false, false⟩,
      ⟨⟨some 10, Go.Op.load 21 (Go.Operand.tmp 9), 21, none⟩, false, false, false⟩,
      ⟨⟨some 11, Go.Op.load 21 (Go.Operand.tmp 2), 21, none⟩, false, false, false⟩,
      ⟨⟨some 12, Go.Op.binOp Go.BinOp.geq 21 (Go.Operand.tmp 10) (Go.Operand.tmp 11) 21, 4, none⟩, false, false, false⟩,
      ⟨⟨some 4, Go.Op.assign (Go.Operand.tmp 12), 4, none⟩, false, false, false⟩])
    .ret)) :=
  ⟨foll, Tryz.f41, Tryz.func41, by kernel_rfl, by kernel_rfl, by kernel_rfl, by rw [Tryz.ntmps41]; decide⟩

/-- narrator.narratorref33.char -/
theorem fn42 : FnIs Tryz.prog 42 1 [Go.ResultVar.tmp 2] (.seq (.region [⟨some 2, Go.Op.assign (Go.Operand.const (Go.Value.bool false)), 4, none⟩])
    (.seq (.region [⟨some 3, Go.Op.move (Go.Operand.tmp 0), 21, none⟩,
      ⟨some 4, Go.Op.binOp Go.BinOp.geq 21 (Go.Operand.tmp 3) (Go.Operand.const (Go.Value.int Go.IntKind.i32 0)) 21, 4, none⟩,
      ⟨some 5, Go.Op.move (Go.Operand.tmp 4), 4, none⟩,
      ⟨some 6, Go.Op.move (Go.Operand.tmp 0), 21, (some (5, true))⟩,
      ⟨some 7, Go.Op.binOp Go.BinOp.leq 21 (Go.Operand.tmp 6) (Go.Operand.const (Go.Value.int Go.IntKind.i32 1114111)) 21, 4, (some (5, true))⟩,
      ⟨some 8, Go.Op.pick (Go.Operand.tmp 5) (Go.Operand.tmp 7) (Go.Operand.const (Go.Value.bool false)), 4, none⟩,
      ⟨some 9, Go.Op.move (Go.Operand.tmp 8), 4, none⟩,
      ⟨some 10, Go.Op.move (Go.Operand.tmp 0), 21, (some (9, true))⟩,
      ⟨some 11, Go.Op.binOp Go.BinOp.lss 21 (Go.Operand.tmp 10) (Go.Operand.const (Go.Value.int Go.IntKind.i32 55296)) 21, 4, (some (9, true))⟩,
      ⟨some 12, Go.Op.move (Go.Operand.tmp 11), 4, (some (9, true))⟩,
      ⟨some 13, Go.Op.move (Go.Operand.tmp 0), 21, (some (12, false))⟩,
      ⟨some 14, Go.Op.binOp Go.BinOp.gtr 21 (Go.Operand.tmp 13) (Go.Operand.const (Go.Value.int Go.IntKind.i32 57343)) 21, 4, (some (12, false))⟩,
      ⟨some 15, Go.Op.pick (Go.Operand.tmp 12) (Go.Operand.const (Go.Value.bool true)) (Go.Operand.tmp 14), 4, (some (9, true))⟩,
      ⟨some 16, Go.Op.pick (Go.Operand.tmp 9) (Go.Operand.tmp 15) (Go.Operand.const (Go.Value.bool false)), 4, none⟩,
      ⟨some 2, Go.Op.assign (Go.Operand.tmp 16), 4, none⟩])
    .ret)) :=
  ⟨foll, Tryz.f42, Tryz.func42, by kernel_rfl, by kernel_rfl, by kernel_rfl, by rw [Tryz.ntmps42]; decide⟩

end Go.Proofs.YtefpcfooahogkaaGreatDoor
