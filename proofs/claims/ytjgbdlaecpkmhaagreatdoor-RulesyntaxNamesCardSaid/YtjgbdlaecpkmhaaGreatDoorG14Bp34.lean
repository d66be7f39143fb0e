/- Part of a proof about the functions of this seat. -/
import Derived.Test.YtjgbdlaecpkmhaaGreatDoorG10Base34
/- The prepared code of further functions. Written by a program of mine (gen.py) out of what the loaded dump prints. -/

set_option linter.unusedVariables false
set_option maxRecDepth 100000
namespace Go.Proofs.YtjgbdlaecpkmhaaGreatDoor
open Go Nv

/-- narrator.narratorlaw34.RulesyntaxProper -/
theorem fn3 : FnIs Tryz.prog 3 1 [Go.ResultVar.tmp 2] (.seq (.region [⟨some 2, Go.Op.assign (Go.Operand.const (Go.Value.bool false)), 4, none⟩])
    (.seq (.seq (.region [⟨some 6, Go.Op.move (Go.Operand.tmp 0), 9, none⟩,
      ⟨some 7, Go.Op.call { callee := Go.Callee.builtin Go.Builtin.len, args := #[Go.Operand.tmp 6], argTypes := #[9] }, 3, none⟩,
      ⟨some 8, Go.Op.binOp Go.BinOp.gtr 3 (Go.Operand.tmp 7) (Go.Operand.const (Go.Value.int Go.IntKind.i64 600)) 3, 4, none⟩])
    (.cond (Go.Operand.tmp 8)
      (.seq (.region [⟨some 9, Go.Op.call { callee := Go.Callee.value (Go.Operand.func 9), args := #[], argTypes := #[] }, 4, none⟩,
        ⟨some 2, Go.Op.assign (Go.Operand.tmp 9), 4, none⟩])
      .ret)
      .skip))
    (.seq (.region [⟨some 11, Go.Op.move (Go.Operand.tmp 0), 9, none⟩,
      ⟨some 12, Go.Op.call { callee := Go.Callee.value (Go.Operand.func 10), args := #[Go.Operand.tmp 11], argTypes := #[9] }, 25, none⟩,
      ⟨some 10, Go.Op.move (Go.Operand.tmp 12), 25, none⟩,
      ⟨some 13, Go.Op.extract (Go.Operand.tmp 10) 0, 23, none⟩,
      ⟨some 14, Go.Op.extract (Go.Operand.tmp 10) 1, 3, none⟩,
      ⟨some 15, Go.Op.extract (Go.Operand.tmp 10) 2, 24, none⟩,
      ⟨some 3, Go.Op.assign (Go.Operand.tmp 13), 23, none⟩,
      ⟨some 4, Go.Op.assign (Go.Operand.tmp 14), 3, none⟩,
      ⟨some 5, Go.Op.assign (Go.Operand.tmp 15), 24, none⟩])
    (.seq (.seq (.region [⟨some 16, Go.Op.move (Go.Operand.tmp 5), 24, none⟩,
      ⟨some 17, Go.Op.binOp Go.BinOp.neq 24 (Go.Operand.tmp 16) (Go.Operand.const (Go.Value.int Go.IntKind.i64 0)) 24, 4, none⟩])
    (.cond (Go.Operand.tmp 17)
      (.seq (.region [⟨some 18, Go.Op.move (Go.Operand.tmp 3), 23, none⟩,
        ⟨some 19, Go.Op.call { callee := Go.Callee.builtin Go.Builtin.len, args := #[Go.Operand.tmp 18], argTypes := #[23] }, 3, none⟩,
        ⟨some 20, Go.Op.binOp Go.BinOp.eql 3 (Go.Operand.tmp 19) (Go.Operand.const (Go.Value.int Go.IntKind.i64 0)) 3, 4, none⟩,
        ⟨some 21, Go.Op.move (Go.Operand.tmp 20), 4, none⟩,
        ⟨some 22, Go.Op.move (Go.Operand.tmp 4), 3, (some (21, true))⟩,
        ⟨some 23, Go.Op.binOp Go.BinOp.geq 3 (Go.Operand.tmp 22) (Go.Operand.const (Go.Value.int Go.IntKind.i64 1)) 3, 4, (some (21, true))⟩,
        ⟨some 24, Go.Op.pick (Go.Operand.tmp 21) (Go.Operand.tmp 23) (Go.Operand.const (Go.Value.bool false)), 4, none⟩,
        ⟨some 25, Go.Op.move (Go.Operand.tmp 24), 4, none⟩,
        ⟨some 26, Go.Op.move (Go.Operand.tmp 4), 3, (some (25, true))⟩,
        ⟨some 27, Go.Op.move (Go.Operand.tmp 0), 9, (some (25, true))⟩,
        ⟨some 28, Go.Op.call { callee := Go.Callee.value (Go.Operand.func 11), args := #[Go.Operand.tmp 27, Go.Operand.const (Go.Value.string { data := #[10] })], argTypes := #[9, 9] }, 3, (some (25, true))⟩,
        ⟨some 29, Go.Op.binOp Go.BinOp.add 3 (Go.Operand.tmp 28) (Go.Operand.const (Go.Value.int Go.IntKind.i64 1)) 3, 3, (some (25, true))⟩,
        ⟨some 30, Go.Op.binOp Go.BinOp.leq 3 (Go.Operand.tmp 26) (Go.Operand.tmp 29) 3, 4, (some (25, true))⟩,
        ⟨some 31, Go.Op.pick (Go.Operand.tmp 25) (Go.Operand.tmp 30) (Go.Operand.const (Go.Value.bool false)), 4, none⟩,
        ⟨some 32, Go.Op.move (Go.Operand.tmp 31), 4, none⟩,
        ⟨some 33, Go.Op.call { callee := Go.Callee.value (Go.Operand.func 9), args := #[], argTypes := #[] }, 4, (some (32, true))⟩,
        ⟨some 34, Go.Op.pick (Go.Operand.tmp 32) (Go.Operand.tmp 33) (Go.Operand.const (Go.Value.bool false)), 4, none⟩,
        ⟨some 2, Go.Op.assign (Go.Operand.tmp 34), 4, none⟩])
      .ret)
      .skip))
    (.seq (.region [⟨some 35, Go.Op.move (Go.Operand.tmp 4), 3, none⟩,
      ⟨some 36, Go.Op.binOp Go.BinOp.eql 3 (Go.Operand.tmp 35) (Go.Operand.const (Go.Value.int Go.IntKind.i64 0)) 3, 4, none⟩,
      ⟨some 37, Go.Op.move (Go.Operand.tmp 36), 4, none⟩,
      ⟨some 38, Go.Op.move (Go.Operand.tmp 3), 23, (some (37, true))⟩,
      ⟨some 39, Go.Op.call { callee := Go.Callee.value (Go.Operand.func 12), args := #[Go.Operand.tmp 38], argTypes := #[23] }, 24, (some (37, true))⟩,
      ⟨some 40, Go.Op.binOp Go.BinOp.eql 24 (Go.Operand.tmp 39) (Go.Operand.const (Go.Value.int Go.IntKind.i64 0)) 24, 4, (some (37, true))⟩,
      ⟨some 41, Go.Op.pick (Go.Operand.tmp 37) (Go.Operand.tmp 40) (Go.Operand.const (Go.Value.bool false)), 4, none⟩,
      ⟨some 42, Go.Op.move (Go.Operand.tmp 41), 4, none⟩,
      ⟨some 43, Go.Op.call { callee := Go.Callee.value (Go.Operand.func 9), args := #[], argTypes := #[] }, 4, (some (42, true))⟩,
      ⟨some 44, Go.Op.pick (Go.Operand.tmp 42) (Go.Operand.tmp 43) (Go.Operand.const (Go.Value.bool false)), 4, none⟩,
      ⟨some 2, Go.Op.assign (Go.Operand.tmp 44), 4, none⟩])
    .ret))))) :=
  ⟨foll, Tryz.f3, Tryz.func3, by kernel_rfl, by kernel_rfl, by kernel_rfl, by rw [Tryz.ntmps3]; decide⟩

/-- narrator.narratorlaw34.RulesyntaxJoins -/
theorem fn4 : FnIs Tryz.prog 4 2 [Go.ResultVar.tmp 4] (.seq (.region [⟨some 4, Go.Op.assign (Go.Operand.const (Go.Value.bool false)), 4, none⟩])
    (.seq (.seq (.region [⟨some 15, Go.Op.move (Go.Operand.tmp 0), 9, none⟩,
      ⟨some 16, Go.Op.call { callee := Go.Callee.builtin Go.Builtin.len, args := #[Go.Operand.tmp 15], argTypes := #[9] }, 3, none⟩,
      ⟨some 17, Go.Op.binOp Go.BinOp.gtr 3 (Go.Operand.tmp 16) (Go.Operand.const (Go.Value.int Go.IntKind.i64 300)) 3, 4, none⟩,
      ⟨some 18, Go.Op.move (Go.Operand.tmp 17), 4, none⟩,
      ⟨some 19, Go.Op.move (Go.Operand.tmp 1), 9, (some (18, false))⟩,
      ⟨some 20, Go.Op.call { callee := Go.Callee.builtin Go.Builtin.len, args := #[Go.Operand.tmp 19], argTypes := #[9] }, 3, (some (18, false))⟩,
      ⟨some 21, Go.Op.binOp Go.BinOp.gtr 3 (Go.Operand.tmp 20) (Go.Operand.const (Go.Value.int Go.IntKind.i64 300)) 3, 4, (some (18, false))⟩,
      ⟨some 22, Go.Op.pick (Go.Operand.tmp 18) (Go.Operand.const (Go.Value.bool true)) (Go.Operand.tmp 21), 4, none⟩])
    (.cond (Go.Operand.tmp 22)
      (.seq (.region [⟨some 23, Go.Op.call { callee := Go.Callee.value (Go.Operand.func 9), args := #[], argTypes := #[] }, 4, none⟩,
        ⟨some 4, Go.Op.assign (Go.Operand.tmp 23), 4, none⟩])
      .ret)
      .skip))
    (.seq (.region [⟨some 25, Go.Op.move (Go.Operand.tmp 0), 9, none⟩,
      ⟨some 26, Go.Op.call { callee := Go.Callee.value (Go.Operand.func 10), args := #[Go.Operand.tmp 25], argTypes := #[9] }, 25, none⟩,
      ⟨some 24, Go.Op.move (Go.Operand.tmp 26), 25, none⟩,
      ⟨some 27, Go.Op.extract (Go.Operand.tmp 24) 0, 23, none⟩,
      ⟨some 28, Go.Op.extract (Go.Operand.tmp 24) 1, 3, none⟩,
      ⟨some 29, Go.Op.extract (Go.Operand.tmp 24) 2, 24, none⟩,
      ⟨some 5, Go.Op.assign (Go.Operand.tmp 27), 23, none⟩,
      ⟨some 6, Go.Op.assign (Go.Operand.tmp 28), 3, none⟩,
      ⟨some 7, Go.Op.assign (Go.Operand.tmp 29), 24, none⟩])
    (.seq (.region [⟨some 31, Go.Op.move (Go.Operand.tmp 1), 9, none⟩,
      ⟨some 32, Go.Op.call { callee := Go.Callee.value (Go.Operand.func 10), args := #[Go.Operand.tmp 31], argTypes := #[9] }, 25, none⟩,
      ⟨some 30, Go.Op.move (Go.Operand.tmp 32), 25, none⟩,
      ⟨some 33, Go.Op.extract (Go.Operand.tmp 30) 0, 23, none⟩,
      ⟨some 34, Go.Op.extract (Go.Operand.tmp 30) 1, 3, none⟩,
      ⟨some 35, Go.Op.extract (Go.Operand.tmp 30) 2, 24, none⟩,
      ⟨some 8, Go.Op.assign (Go.Operand.tmp 33), 23, none⟩,
      ⟨some 9, Go.Op.assign (Go.Operand.tmp 34), 3, none⟩,
      ⟨some 10, Go.Op.assign (Go.Operand.tmp 35), 24, none⟩])
    (.seq (.seq (.region [⟨some 36, Go.Op.move (Go.Operand.tmp 7), 24, none⟩,
      ⟨some 37, Go.Op.binOp Go.BinOp.neq 24 (Go.Operand.tmp 36) (Go.Operand.const (Go.Value.int Go.IntKind.i64 0)) 24, 4, none⟩,
      ⟨some 38, Go.Op.move (Go.Operand.tmp 37), 4, none⟩,
      ⟨some 39, Go.Op.move (Go.Operand.tmp 10), 24, (some (38, false))⟩,
      ⟨some 40, Go.Op.binOp Go.BinOp.neq 24 (Go.Operand.tmp 39) (Go.Operand.const (Go.Value.int Go.IntKind.i64 0)) 24, 4, (some (38, false))⟩,
      ⟨some 41, Go.Op.pick (Go.Operand.tmp 38) (Go.Operand.const (Go.Value.bool true)) (Go.Operand.tmp 40), 4, none⟩])
    (.cond (Go.Operand.tmp 41)
      (.seq (.region [⟨some 42, Go.Op.call { callee := Go.Callee.value (Go.Operand.func 9), args := #[], argTypes := #[] }, 4, none⟩,
        ⟨some 4, Go.Op.assign (Go.Operand.tmp 42), 4, none⟩])
      .ret)
      .skip))
    (.seq (.region [⟨some 43, Go.Op.buildSlice 23 0 #[], 23, none⟩,
      ⟨some 44, Go.Op.move (Go.Operand.tmp 5), 23, none⟩,
      ⟨some 45, Go.Op.call { callee := Go.Callee.builtin Go.Builtin.append, args := #[Go.Operand.tmp 43, Go.Operand.tmp 44], argTypes := #[23, 23] }, 23, none⟩,
      ⟨some 46, Go.Op.move (Go.Operand.tmp 8), 23, none⟩,
      ⟨some 47, Go.Op.call { callee := Go.Callee.builtin Go.Builtin.append, args := #[Go.Operand.tmp 45, Go.Operand.tmp 46], argTypes := #[23, 23] }, 23, none⟩,
      ⟨some 11, Go.Op.assign (Go.Operand.tmp 47), 23, none⟩])
    (.seq (.region [⟨some 49, Go.Op.move (Go.Operand.tmp 0), 9, none⟩,
      ⟨some 50, Go.Op.binOp Go.BinOp.add 9 (Go.Operand.tmp 49) (Go.Operand.const (Go.Value.string { data := #[10] })) 9, 9, none⟩,
      ⟨some 51, Go.Op.move (Go.Operand.tmp 1), 9, none⟩,
      ⟨some 52, Go.Op.binOp Go.BinOp.add 9 (Go.Operand.tmp 50) (Go.Operand.tmp 51) 9, 9, none⟩,
      ⟨some 53, Go.Op.call { callee := Go.Callee.value (Go.Operand.func 10), args := #[Go.Operand.tmp 52], argTypes := #[9] }, 25, none⟩,
      ⟨some 48, Go.Op.move (Go.Operand.tmp 53), 25, none⟩,
      ⟨some 54, Go.Op.extract (Go.Operand.tmp 48) 0, 23, none⟩,
      ⟨some 55, Go.Op.extract (Go.Operand.tmp 48) 1, 3, none⟩,
      ⟨some 56, Go.Op.extract (Go.Operand.tmp 48) 2, 24, none⟩,
      ⟨some 12, Go.Op.assign (Go.Operand.tmp 54), 23, none⟩,
      ⟨some 13, Go.Op.assign (Go.Operand.tmp 55), 3, none⟩,
      ⟨some 14, Go.Op.assign (Go.Operand.tmp 56), 24, none⟩])
    (.seq (.seq (.region [⟨some 57, Go.Op.move (Go.Operand.tmp 11), 23, none⟩,
      ⟨some 58, Go.Op.call { callee := Go.Callee.value (Go.Operand.func 12), args := #[Go.Operand.tmp 57], argTypes := #[23] }, 24, none⟩,
      ⟨some 59, Go.Op.binOp Go.BinOp.neq 24 (Go.Operand.tmp 58) (Go.Operand.const (Go.Value.int Go.IntKind.i64 0)) 24, 4, none⟩])
    (.cond (Go.Operand.tmp 59)
      (.seq (.region [⟨some 60, Go.Op.move (Go.Operand.tmp 14), 24, none⟩,
        ⟨some 61, Go.Op.binOp Go.BinOp.neq 24 (Go.Operand.tmp 60) (Go.Operand.const (Go.Value.int Go.IntKind.i64 0)) 24, 4, none⟩,
        ⟨some 62, Go.Op.move (Go.Operand.tmp 61), 4, none⟩,
        ⟨some 63, Go.Op.call { callee := Go.Callee.value (Go.Operand.func 9), args := #[], argTypes := #[] }, 4, (some (62, true))⟩,
        ⟨some 64, Go.Op.pick (Go.Operand.tmp 62) (Go.Operand.tmp 63) (Go.Operand.const (Go.Value.bool false)), 4, none⟩,
        ⟨some 4, Go.Op.assign (Go.Operand.tmp 64), 4, none⟩])
      .ret)
      .skip))
    (.seq (.region [⟨some 65, Go.Op.move (Go.Operand.tmp 14), 24, none⟩,
      ⟨some 66, Go.Op.binOp Go.BinOp.eql 24 (Go.Operand.tmp 65) (Go.Operand.const (Go.Value.int Go.IntKind.i64 0)) 24, 4, none⟩,
      ⟨some 67, Go.Op.move (Go.Operand.tmp 66), 4, none⟩,
      ⟨some 68, Go.Op.move (Go.Operand.tmp 12), 23, (some (67, true))⟩,
      ⟨some 69, Go.Op.move (Go.Operand.tmp 11), 23, (some (67, true))⟩,
      ⟨some 70, Go.Op.call { callee := Go.Callee.value (Go.Operand.func 13), args := #[Go.Operand.tmp 68, Go.Operand.tmp 69], argTypes := #[23, 23] }, 4, (some (67, true))⟩,
      ⟨some 71, Go.Op.pick (Go.Operand.tmp 67) (Go.Operand.tmp 70) (Go.Operand.const (Go.Value.bool false)), 4, none⟩,
      ⟨some 72, Go.Op.move (Go.Operand.tmp 71), 4, none⟩,
      ⟨some 73, Go.Op.call { callee := Go.Callee.value (Go.Operand.func 9), args := #[], argTypes := #[] }, 4, (some (72, true))⟩,
      ⟨some 74, Go.Op.pick (Go.Operand.tmp 72) (Go.Operand.tmp 73) (Go.Operand.const (Go.Value.bool false)), 4, none⟩,
      ⟨some 4, Go.Op.assign (Go.Operand.tmp 74), 4, none⟩])
    .ret))))))))) :=
  ⟨foll, Tryz.f4, Tryz.func4, by kernel_rfl, by kernel_rfl, by kernel_rfl, by rw [Tryz.ntmps4]; decide⟩

/-- narrator.narratorlaw34.RulesyntaxPattern -/
theorem fn5 : FnIs Tryz.prog 5 1 [Go.ResultVar.tmp 2] (.seq (.region [⟨some 2, Go.Op.assign (Go.Operand.const (Go.Value.bool false)), 4, none⟩])
    (.seq (.seq (.region [⟨some 8, Go.Op.move (Go.Operand.tmp 0), 9, none⟩,
      ⟨some 9, Go.Op.call { callee := Go.Callee.builtin Go.Builtin.len, args := #[Go.Operand.tmp 8], argTypes := #[9] }, 3, none⟩,
      ⟨some 10, Go.Op.binOp Go.BinOp.gtr 3 (Go.Operand.tmp 9) (Go.Operand.const (Go.Value.int Go.IntKind.i64 100)) 3, 4, none⟩,
      ⟨some 11, Go.Op.move (Go.Operand.tmp 10), 4, none⟩,
      ⟨some 12, Go.Op.move (Go.Operand.tmp 0), 9, (some (11, false))⟩,
      ⟨some 13, Go.Op.call { callee := Go.Callee.value (Go.Operand.func 14), args := #[Go.Operand.tmp 12, Go.Operand.const (Go.Value.string { data := #[10] })], argTypes := #[9, 9] }, 4, (some (11, false))⟩,
      ⟨some 14, Go.Op.pick (Go.Operand.tmp 11) (Go.Operand.const (Go.Value.bool true)) (Go.Operand.tmp 13), 4, none⟩])
    (.cond (Go.Operand.tmp 14)
      (.seq (.region [⟨some 15, Go.Op.call { callee := Go.Callee.value (Go.Operand.func 9), args := #[], argTypes := #[] }, 4, none⟩,
        ⟨some 2, Go.Op.assign (Go.Operand.tmp 15), 4, none⟩])
      .ret)
      .skip))
    (.seq (.region [⟨some 17, Go.Op.move (Go.Operand.tmp 0), 9, none⟩,
      ⟨some 18, Go.Op.binOp Go.BinOp.add 9 (Go.Operand.const (Go.Value.string { data := #[120, 32, 117, 114, 103, 101, 110, 116, 32, 34] })) (Go.Operand.tmp 17) 9, 9, none⟩,
      ⟨some 19, Go.Op.binOp Go.BinOp.add 9 (Go.Operand.tmp 18) (Go.Operand.const (Go.Value.string { data := #[34, 32] })) 9, 9, none⟩,
      ⟨some 20, Go.Op.call { callee := Go.Callee.value (Go.Operand.func 10), args := #[Go.Operand.tmp 19], argTypes := #[9] }, 25, none⟩,
      ⟨some 16, Go.Op.move (Go.Operand.tmp 20), 25, none⟩,
      ⟨some 21, Go.Op.extract (Go.Operand.tmp 16) 0, 23, none⟩,
      ⟨some 22, Go.Op.extract (Go.Operand.tmp 16) 1, 3, none⟩,
      ⟨some 23, Go.Op.extract (Go.Operand.tmp 16) 2, 24, none⟩,
      ⟨some 3, Go.Op.assign (Go.Operand.tmp 21), 23, none⟩,
      ⟨some 4, Go.Op.assign (Go.Operand.tmp 22), 3, none⟩,
      ⟨some 5, Go.Op.assign (Go.Operand.tmp 23), 24, none⟩])
    (.seq (.region [⟨some 24, Go.Op.move (Go.Operand.tmp 0), 9, none⟩,
      ⟨some 25, Go.Op.build 33 #[(0, Go.Operand.const (Go.Value.string { data := #[120] })), (1, Go.Operand.tmp 24), (3, Go.Operand.const (Go.Value.int Go.IntKind.i64 60)), (4, Go.Operand.const (Go.Value.int Go.IntKind.i64 1))], 33, none⟩,
      ⟨some 6, Go.Op.alloc 33, 0, none⟩,
      ⟨none, Go.Op.store 33 (Go.Operand.tmp 6) (Go.Operand.tmp 25), 0, none⟩])
    (.seq (.seq (.region [⟨some 26, Go.Op.load 33 (Go.Operand.tmp 6), 33, none⟩,
      ⟨some 27, Go.Op.buildSlice 23 1 #[(0, Go.Operand.tmp 26)], 23, none⟩,
      ⟨some 28, Go.Op.call { callee := Go.Callee.value (Go.Operand.func 12), args := #[Go.Operand.tmp 27], argTypes := #[23] }, 24, none⟩,
      ⟨some 7, Go.Op.assign (Go.Operand.tmp 28), 24, none⟩])
    (.seq (.region [⟨some 29, Go.Op.move (Go.Operand.tmp 7), 24, none⟩,
      ⟨some 30, Go.Op.binOp Go.BinOp.neq 24 (Go.Operand.tmp 29) (Go.Operand.const (Go.Value.int Go.IntKind.i64 0)) 24, 4, none⟩])
    (.cond (Go.Operand.tmp 30)
      (.seq (.region [⟨some 31, Go.Op.move (Go.Operand.tmp 5), 24, none⟩,
        ⟨some 32, Go.Op.move (Go.Operand.tmp 7), 24, none⟩,
        ⟨some 33, Go.Op.binOp Go.BinOp.eql 24 (Go.Operand.tmp 31) (Go.Operand.tmp 32) 24, 4, none⟩,
        ⟨some 34, Go.Op.move (Go.Operand.tmp 33), 4, none⟩,
        ⟨some 35, Go.Op.move (Go.Operand.tmp 4), 3, (some (34, true))⟩,
        ⟨some 36, Go.Op.binOp Go.BinOp.eql 3 (Go.Operand.tmp 35) (Go.Operand.const (Go.Value.int Go.IntKind.i64 1)) 3, 4, (some (34, true))⟩,
        ⟨some 37, Go.Op.pick (Go.Operand.tmp 34) (Go.Operand.tmp 36) (Go.Operand.const (Go.Value.bool false)), 4, none⟩,
        ⟨some 38, Go.Op.move (Go.Operand.tmp 37), 4, none⟩,
        ⟨some 39, Go.Op.move (Go.Operand.tmp 3), 23, (some (38, true))⟩,
        ⟨some 40, Go.Op.call { callee := Go.Callee.builtin Go.Builtin.len, args := #[Go.Operand.tmp 39], argTypes := #[23] }, 3, (some (38, true))⟩,
        ⟨some 41, Go.Op.binOp Go.BinOp.eql 3 (Go.Operand.tmp 40) (Go.Operand.const (Go.Value.int Go.IntKind.i64 0)) 3, 4, (some (38, true))⟩,
        ⟨some 42, Go.Op.pick (Go.Operand.tmp 38) (Go.Operand.tmp 41) (Go.Operand.const (Go.Value.bool false)), 4, none⟩,
        ⟨some 43, Go.Op.move (Go.Operand.tmp 42), 4, none⟩,
        ⟨some 44, Go.Op.call { callee := Go.Callee.value (Go.Operand.func 9), args := #[], argTypes := #[] }, 4, (some (43, true))⟩,
        ⟨some 45, Go.Op.pick (Go.Operand.tmp 43) (Go.Operand.tmp 44) (Go.Operand.const (Go.Value.bool false)), 4, none⟩,
        ⟨some 2, Go.Op.assign (Go.Operand.tmp 45), 4, none⟩])
      .ret)
      .skip)))
    (.seq (.region [⟨some 46, Go.Op.move (Go.Operand.tmp 5), 24, none⟩,
      ⟨some 47, Go.Op.binOp Go.BinOp.eql 24 (Go.Operand.tmp 46) (Go.Operand.const (Go.Value.int Go.IntKind.i64 0)) 24, 4, none⟩,
      ⟨some 48, Go.Op.move (Go.Operand.tmp 47), 4, none⟩,
      ⟨some 49, Go.Op.move (Go.Operand.tmp 4), 3, (some (48, true))⟩,
      ⟨some 50, Go.Op.binOp Go.BinOp.eql 3 (Go.Operand.tmp 49) (Go.Operand.const (Go.Value.int Go.IntKind.i64 0)) 3, 4, (some (48, true))⟩,
      ⟨some 51, Go.Op.pick (Go.Operand.tmp 48) (Go.Operand.tmp 50) (Go.Operand.const (Go.Value.bool false)), 4, none⟩,
      ⟨some 52, Go.Op.move (Go.Operand.tmp 51), 4, none⟩,
      ⟨some 53, Go.Op.move (Go.Operand.tmp 3), 23, (some (52, true))⟩,
      ⟨some 54, Go.Op.load 33 (Go.Operand.tmp 6), 33, (some (52, true))⟩,
      ⟨some 55, Go.Op.buildSlice 23 1 #[(0, Go.Operand.tmp 54)], 23, (some (52, true))⟩,
      ⟨some 56, Go.Op.call { callee := Go.Callee.value (Go.Operand.func 13), args := #[Go.Operand.tmp 53, Go.Operand.tmp 55], argTypes := #[23, 23] }, 4, (some (52, true))⟩,
      ⟨some 57, Go.Op.pick (Go.Operand.tmp 52) (Go.Operand.tmp 56) (Go.Operand.const (Go.Value.bool false)), 4, none⟩,
      ⟨some 58, Go.Op.move (Go.Operand.tmp 57), 4, none⟩,
      ⟨some 59, Go.Op.call { callee := Go.Callee.value (Go.Operand.func 9), args := #[], argTypes := #[] }, 4, (some (58, true))⟩,
      ⟨some 60, Go.Op.pick (Go.Operand.tmp 58) (Go.Operand.tmp 59) (Go.Operand.const (Go.Value.bool false)), 4, none⟩,
      ⟨some 2, Go.Op.assign (Go.Operand.tmp 60), 4, none⟩])
    .ret)))))) :=
  ⟨foll, Tryz.f5, Tryz.func5, by kernel_rfl, by kernel_rfl, by kernel_rfl, by rw [Tryz.ntmps5]; decide⟩

/-- narrator.narratorref34.Same -/
theorem fn13 : FnIs Tryz.prog 13 2 [Go.ResultVar.tmp 4] (.seq (.region [⟨some 4, Go.Op.assign (Go.Operand.const (Go.Value.bool false)), 4, none⟩])
    (.seq (.seq (.region [⟨some 6, Go.Op.move (Go.Operand.tmp 0), 23, none⟩,
      ⟨some 7, Go.Op.call { callee := Go.Callee.builtin Go.Builtin.len, args := #[Go.Operand.tmp 6], argTypes := #[23] }, 3, none⟩,
      ⟨some 8, Go.Op.move (Go.Operand.tmp 1), 23, none⟩,
      ⟨some 9, Go.Op.call { callee := Go.Callee.builtin Go.Builtin.len, args := #[Go.Operand.tmp 8], argTypes := #[23] }, 3, none⟩,
      ⟨some 10, Go.Op.binOp Go.BinOp.neq 3 (Go.Operand.tmp 7) (Go.Operand.tmp 9) 3, 4, none⟩])
    (.cond (Go.Operand.tmp 10)
      (.seq (.region [⟨some 4, Go.Op.assign (Go.Operand.const (Go.Value.bool false)), 4, none⟩])
      .ret)
      .skip))
    (.seq (.seq (.region [⟨some 5, Go.Op.assign (Go.Operand.const (Go.Value.int Go.IntKind.i64 0)), 3, none⟩])
    (.block 0
      (.loop
        (.seq (.seq (.region [⟨some 11, Go.Op.move (Go.Operand.tmp 5), 3, none⟩,
          ⟨some 12, Go.Op.move (Go.Operand.tmp 0), 23, none⟩,
          ⟨some 13, Go.Op.call { callee := Go.Callee.builtin Go.Builtin.len, args := #[Go.Operand.tmp 12], argTypes := #[23] }, 3, none⟩,
          ⟨some 14, Go.Op.binOp Go.BinOp.lss 3 (Go.Operand.tmp 11) (Go.Operand.tmp 13) 3, 4, none⟩])
        (.cond (Go.Operand.tmp 14)
          .skip
          (.exit 0)))
        (.seq (.block 1
          (.seq (.draw [⟨⟨some 17, Go.Op.move (Go.Operand.tmp 0), 23, none⟩, false, false, false⟩,
            ⟨⟨some 18, Go.Op.move (Go.Operand.tmp 5), 3, none⟩, false, false, false⟩,
            ⟨⟨some 19, Go.Op.indexAddr 23 (Go.Operand.tmp 17) (Go.Operand.tmp 18), 0, none⟩, false, false, false⟩,
            ⟨⟨some 20, Go.Op.load 33 (Go.Operand.tmp 19), 33, none⟩, false, false, false⟩,
            ⟨⟨some 21, Go.Op.move (Go.Operand.tmp 1), 23, none⟩, false, false, false⟩,
            ⟨⟨some 22, Go.Op.move (Go.Operand.tmp 5), 3, none⟩, false, false, false⟩,
            ⟨⟨some 23, Go.Op.indexAddr 23 (Go.Operand.tmp 21) (Go.Operand.tmp 22), 0, none⟩, false, false, false⟩,
            ⟨⟨some 24, Go.Op.load 33 (Go.Operand.tmp 23), 33, none⟩, false, false, false⟩,
            ⟨⟨some 25, Go.Op.binOp Go.BinOp.neq 33 (Go.Operand.tmp 20) (Go.Operand.tmp 24) 33, 4, none⟩, false, false, false⟩])
          (.cond (Go.Operand.tmp 25)
            (.seq (.region [⟨some 4, Go.Op.assign (Go.Operand.const (Go.Value.bool false)), 4, none⟩])
            .ret)
            .skip)))
        (.region [⟨some 15, Go.Op.move (Go.Operand.tmp 5), 3, none⟩,
          ⟨some 16, Go.Op.binOp Go.BinOp.add 3 (Go.Operand.tmp 15) (Go.Operand.const (Go.Value.int Go.IntKind.i64 1)) 3, 3, none⟩,
          ⟨some 5, Go.Op.assign (Go.Operand.tmp 16), 3, none⟩]))))))
    (.seq (.region [⟨some 4, Go.Op.assign (Go.Operand.const (Go.Value.bool true)), 4, none⟩])
    .ret)))) :=
  ⟨foll, Tryz.f13, Tryz.func13, by kernel_rfl, by kernel_rfl, by kernel_rfl, by rw [Tryz.ntmps13]; decide⟩

end Go.Proofs.YtjgbdlaecpkmhaaGreatDoor
/- The prepared code of further functions. Written by a program of mine (gen.py) out of what the loaded dump prints. -/

set_option linter.unusedVariables false
set_option maxRecDepth 100000
namespace Go.Proofs.YtjgbdlaecpkmhaaGreatDoor
open Go Nv

/-- narrator.rulesyntax.Parse -/
theorem fn10 : FnIs Tryz.prog 10 1 [Go.ResultVar.tmp 2, Go.ResultVar.tmp 3, Go.ResultVar.tmp 4] (.seq (.region [⟨some 2, Go.Op.assign (Go.Operand.const (Go.Value.slice none 0 0)), 23, none⟩,
      ⟨some 3, Go.Op.assign (Go.Operand.const (Go.Value.int Go.IntKind.i64 0)), 3, none⟩,
      ⟨some 4, Go.Op.assign (Go.Operand.const (Go.Value.int Go.IntKind.i64 0)), 24, none⟩])
    (.seq (.region [⟨some 5, Go.Op.assign (Go.Operand.const (Go.Value.slice none 0 0)), 23, none⟩])
    (.seq (.seq (.region [⟨some 15, Go.Op.move (Go.Operand.tmp 0), 9, none⟩,
      ⟨some 16, Go.Op.call { callee := Go.Callee.value (Go.Operand.func 18), args := #[Go.Operand.tmp 15, Go.Operand.const (Go.Value.string { data := #[10] })], argTypes := #[9, 9] }, 37, none⟩,
      ⟨some 17, Go.Op.call { callee := Go.Callee.builtin Go.Builtin.len, args := #[Go.Operand.tmp 16], argTypes := #[37] }, 3, none⟩,
      ⟨some 18, Go.Op.move (Go.Operand.const (Go.Value.int Go.IntKind.i64 0)), 3, none⟩])
    (.block 0
      (.loop
        (.seq (.region [⟨some 19, Go.Op.binOp Go.BinOp.lss 3 (Go.Operand.tmp 18) (Go.Operand.tmp 17) 3, 0, none⟩])
        (.seq (.cond (Go.Operand.tmp 19)
          .skip
          (.exit 0))
        (.seq (.block 1
          (.seq (.region [⟨some 20, Go.Op.move (Go.Operand.tmp 18), 3, none⟩,
            ⟨some 21, Go.Op.indexAddr 37 (Go.Operand.tmp 16) (Go.Operand.tmp 18), 0, none⟩,
            ⟨some 22, Go.Op.load 9 (Go.Operand.tmp 21), 9, none⟩,
            ⟨some 6, Go.Op.assign (Go.Operand.tmp 20), 3, none⟩,
            ⟨some 7, Go.Op.assign (Go.Operand.tmp 22), 9, none⟩])
          (.seq (.region [⟨some 24, Go.Op.move (Go.Operand.tmp 7), 9, none⟩,
            ⟨some 25, Go.Op.call { callee := Go.Callee.value (Go.Operand.func 19), args := #[Go.Operand.tmp 24, Go.Operand.const (Go.Value.string { data := #[34] })], argTypes := #[9, 9] }, 42, none⟩,
            ⟨some 23, Go.Op.move (Go.Operand.tmp 25), 42, none⟩,
            ⟨some 26, Go.Op.extract (Go.Operand.tmp 23) 0, 9, none⟩,
            ⟨some 27, Go.Op.extract (Go.Operand.tmp 23) 1, 9, none⟩,
            ⟨some 28, Go.Op.extract (Go.Operand.tmp 23) 2, 4, none⟩,
            ⟨some 8, Go.Op.assign (Go.Operand.tmp 26), 9, none⟩,
            ⟨some 9, Go.Op.assign (Go.Operand.tmp 27), 9, none⟩,
            ⟨some 10, Go.Op.assign (Go.Operand.tmp 28), 4, none⟩])
          (.seq (.region [⟨some 29, Go.Op.move (Go.Operand.tmp 8), 9, none⟩,
            ⟨some 30, Go.Op.call { callee := Go.Callee.value (Go.Operand.func 21), args := #[Go.Operand.tmp 29], argTypes := #[9] }, 37, none⟩,
            ⟨some 11, Go.Op.assign (Go.Operand.tmp 30), 37, none⟩])
          (.seq (.seq (.region [⟨some 31, Go.Op.move (Go.Operand.tmp 11), 37, none⟩,
            ⟨some 32, Go.Op.call { callee := Go.Callee.builtin Go.Builtin.len, args := #[Go.Operand.tmp 31], argTypes := #[37] }, 3, none⟩,
            ⟨some 33, Go.Op.binOp Go.BinOp.eql 3 (Go.Operand.tmp 32) (Go.Operand.const (Go.Value.int Go.IntKind.i64 0)) 3, 4, none⟩,
            ⟨some 34, Go.Op.move (Go.Operand.tmp 33), 4, none⟩,
            ⟨some 35, Go.Op.move (Go.Operand.tmp 10), 4, (some (34, true))⟩,
            ⟨some 36, Go.Op.unOp Go.UnOp.not 4 (Go.Operand.tmp 35), 4, (some (34, true))⟩,
            ⟨some 37, Go.Op.pick (Go.Operand.tmp 34) (Go.Operand.tmp 36) (Go.Operand.const (Go.Value.bool false)), 4, none⟩,
            ⟨some 38, Go.Op.move (Go.Operand.tmp 37), 4, none⟩,
            ⟨some 39, Go.Op.move (Go.Operand.tmp 11), 37, (some (38, false))⟩,
            ⟨some 40, Go.Op.call { callee := Go.Callee.builtin Go.Builtin.len, args := #[Go.Operand.tmp 39], argTypes := #[37] }, 3, (some (38, false))⟩,
            ⟨some 41, Go.Op.binOp Go.BinOp.gtr 3 (Go.Operand.tmp 40) (Go.Operand.const (Go.Value.int Go.IntKind.i64 0)) 3, 4, (some (38, false))⟩,
            ⟨some 42, Go.Op.move (Go.Operand.tmp 41), 4, (some (38, false))⟩,
            ⟨some 43, Go.Op.move (Go.Operand.tmp 11), 37, (some (42, true))⟩,
            ⟨some 44, Go.Op.indexAddr 37 (Go.Operand.tmp 43) (Go.Operand.const (Go.Value.int Go.IntKind.i64 0)), 0, (some (42, true))⟩,
            ⟨some 45, Go.Op.load 9 (Go.Operand.tmp 44), 9, (some (42, true))⟩,
            ⟨some 46, Go.Op.index 9 (Go.Operand.tmp 45) (Go.Operand.const (Go.Value.int Go.IntKind.i64 0)), 5, (some (42, true))⟩,
            ⟨some 47, Go.Op.binOp Go.BinOp.eql 5 (Go.Operand.tmp 46) (Go.Operand.const (Go.Value.int Go.IntKind.u8 35)) 5, 4, (some (42, true))⟩,
            ⟨some 48, Go.Op.pick (Go.Operand.tmp 42) (Go.Operand.tmp 47) (Go.Operand.const (Go.Value.bool false)), 4, (some (38, false))⟩,
            ⟨some 49, Go.Op.pick (Go.Operand.tmp 38) (Go.Operand.const (Go.Value.bool true)) (Go.Operand.tmp 48), 4, none⟩])
          (.cond (Go.Operand.tmp 49)
            (.exit 1)
            .skip))
          (.seq (.region [⟨some 51, Go.Op.move (Go.Operand.tmp 11), 37, none⟩,
            ⟨some 52, Go.Op.move (Go.Operand.tmp 9), 9, none⟩,
            ⟨some 53, Go.Op.call { callee := Go.Callee.value (Go.Operand.func 22), args := #[Go.Operand.tmp 51, Go.Operand.tmp 52], argTypes := #[37, 9] }, 46, none⟩,
            ⟨some 50, Go.Op.move (Go.Operand.tmp 53), 46, none⟩,
            ⟨some 54, Go.Op.extract (Go.Operand.tmp 50) 0, 33, none⟩,
            ⟨some 55, Go.Op.extract (Go.Operand.tmp 50) 1, 4, none⟩,
            ⟨some 12, Go.Op.alloc 33, 0, none⟩,
            ⟨none, Go.Op.store 33 (Go.Operand.tmp 12) (Go.Operand.tmp 54), 0, none⟩,
            ⟨some 13, Go.Op.assign (Go.Operand.tmp 55), 4, none⟩])
          (.seq (.seq (.region [⟨some 56, Go.Op.move (Go.Operand.tmp 10), 4, none⟩,
            ⟨some 57, Go.Op.unOp Go.UnOp.not 4 (Go.Operand.tmp 56), 4, none⟩,
            ⟨some 58, Go.Op.move (Go.Operand.tmp 57), 4, none⟩,
            ⟨some 59, Go.Op.move (Go.Operand.tmp 13), 4, (some (58, false))⟩,
            ⟨some 60, Go.Op.unOp Go.UnOp.not 4 (Go.Operand.tmp 59), 4, (some (58, false))⟩,
            ⟨some 61, Go.Op.pick (Go.Operand.tmp 58) (Go.Operand.const (Go.Value.bool true)) (Go.Operand.tmp 60), 4, none⟩])
          (.cond (Go.Operand.tmp 61)
            (.seq (.region [⟨some 62, Go.Op.move (Go.Operand.tmp 6), 3, none⟩,
              ⟨some 63, Go.Op.binOp Go.BinOp.add 3 (Go.Operand.tmp 62) (Go.Operand.const (Go.Value.int Go.IntKind.i64 1)) 3, 3, none⟩,
              ⟨some 2, Go.Op.assign (Go.Operand.const (Go.Value.slice none 0 0)), 23, none⟩,
              ⟨some 3, Go.Op.assign (Go.Operand.tmp 63), 3, none⟩,
              ⟨some 4, Go.Op.assign (Go.Operand.const (Go.Value.int Go.IntKind.i64 3)), 24, none⟩])
            .ret)
            .skip))
          (.seq (.region [⟨some 64, Go.Op.move (Go.Operand.tmp 5), 23, none⟩,
            ⟨some 65, Go.Op.load 33 (Go.Operand.tmp 12), 33, none⟩,
            ⟨some 66, Go.Op.buildSlice 23 1 #[(0, Go.Operand.tmp 65)], 23, none⟩,
            ⟨some 67, Go.Op.call { callee := Go.Callee.builtin Go.Builtin.append, args := #[Go.Operand.tmp 64, Go.Operand.tmp 66], argTypes := #[23, 23] }, 23, none⟩,
            ⟨some 5, Go.Op.assign (Go.Operand.tmp 67), 23, none⟩])
          (.seq (.region [⟨some 68, Go.Op.move (Go.Operand.tmp 5), 23, none⟩,
            ⟨some 69, Go.Op.call { callee := Go.Callee.value (Go.Operand.func 12), args := #[Go.Operand.tmp 68], argTypes := #[23] }, 24, none⟩,
            ⟨some 14, Go.Op.assign (Go.Operand.tmp 69), 24, none⟩])
          (.seq (.region [⟨some 70, Go.Op.move (Go.Operand.tmp 14), 24, none⟩,
            ⟨some 71, Go.Op.binOp Go.BinOp.neq 24 (Go.Operand.tmp 70) (Go.Operand.const (Go.Value.int Go.IntKind.i64 0)) 24, 4, none⟩])
          (.cond (Go.Operand.tmp 71)
            (.seq (.region [⟨some 72, Go.Op.move (Go.Operand.tmp 6), 3, none⟩,
              ⟨some 73, Go.Op.binOp Go.BinOp.add 3 (Go.Operand.tmp 72) (Go.Operand.const (Go.Value.int Go.IntKind.i64 1)) 3, 3, none⟩,
              ⟨some 74, Go.Op.move (Go.Operand.tmp 14), 24, none⟩,
              ⟨some 2, Go.Op.assign (Go.Operand.const (Go.Value.slice none 0 0)), 23, none⟩,
              ⟨some 3, Go.Op.assign (Go.Operand.tmp 73), 3, none⟩,
              ⟨some 4, Go.Op.assign (Go.Operand.tmp 74), 24, none⟩])
            .ret)
            .skip)))))))))))
        (.region [⟨some 75, Go.Op.binOp Go.BinOp.add 3 (Go.Operand.tmp 18) (Go.Operand.const (Go.Value.int Go.IntKind.i64 1)) 3, 3, none⟩,
          ⟨some 18, Go.Op.move (Go.Operand.tmp 75), 3, none⟩])))))))
    (.seq (.region [⟨some 76, Go.Op.move (Go.Operand.tmp 5), 23, none⟩,
      ⟨some 2, Go.Op.assign (Go.Operand.tmp 76), 23, none⟩,
      ⟨some 3, Go.Op.assign (Go.Operand.const (Go.Value.int Go.IntKind.i64 0)), 3, none⟩,
      ⟨some 4, Go.Op.assign (Go.Operand.const (Go.Value.int Go.IntKind.i64 0)), 24, none⟩])
    .ret)))) :=
  ⟨foll, Tryz.f10, Tryz.func10, by kernel_rfl, by kernel_rfl, by kernel_rfl, by rw [Tryz.ntmps10]; decide⟩

/-- narrator.rulesyntax.words -/
theorem fn21 : FnIs Tryz.prog 21 1 [Go.ResultVar.tmp 2] (.seq (.region [⟨some 2, Go.Op.assign (Go.Operand.const (Go.Value.slice none 0 0)), 37, none⟩])
    (.seq (.region [⟨some 3, Go.Op.move (Go.Operand.tmp 0), 9, none⟩,
      ⟨some 4, Go.Op.call { callee := Go.Callee.value (Go.Operand.func 36), args := #[Go.Operand.tmp 3, Go.Operand.func 37], argTypes := #[9, 65] }, 37, none⟩,
      ⟨some 2, Go.Op.assign (Go.Operand.tmp 4), 37, none⟩])
    .ret)) :=
  ⟨foll, Tryz.f21, Tryz.func21, by kernel_rfl, by kernel_rfl, by kernel_rfl, by rw [Tryz.ntmps21]; decide⟩

/-- narrator.rulesyntax.line -/
theorem fn22 : FnIs Tryz.prog 22 2 [Go.ResultVar.cell 4 33, Go.ResultVar.tmp 5] (.seq (.region [⟨some 4, Go.Op.alloc 33, 0, none⟩,
      ⟨some 5, Go.Op.assign (Go.Operand.const (Go.Value.bool false)), 4, none⟩])
    (.seq (.region [⟨some 10, Go.Op.move (Go.Operand.tmp 1), 9, none⟩,
      ⟨some 11, Go.Op.call { callee := Go.Callee.value (Go.Operand.func 38), args := #[Go.Operand.tmp 10, Go.Operand.const (Go.Value.string { data := #[32] })], argTypes := #[9, 9] }, 9, none⟩,
      ⟨some 1, Go.Op.assign (Go.Operand.tmp 11), 9, none⟩])
    (.seq (.region [⟨some 13, Go.Op.move (Go.Operand.tmp 1), 9, none⟩,
      ⟨some 14, Go.Op.call { callee := Go.Callee.value (Go.Operand.func 39), args := #[Go.Operand.tmp 13, Go.Operand.const (Go.Value.string { data := #[34] })], argTypes := #[9, 9] }, 67, none⟩,
      ⟨some 12, Go.Op.move (Go.Operand.tmp 14), 67, none⟩,
      ⟨some 15, Go.Op.extract (Go.Operand.tmp 12) 0, 9, none⟩,
      ⟨some 16, Go.Op.extract (Go.Operand.tmp 12) 1, 4, none⟩,
      ⟨some 6, Go.Op.assign (Go.Operand.tmp 15), 9, none⟩,
      ⟨some 7, Go.Op.assign (Go.Operand.tmp 16), 4, none⟩])
    (.seq (.seq (.region [⟨some 17, Go.Op.move (Go.Operand.tmp 7), 4, none⟩,
      ⟨some 18, Go.Op.unOp Go.UnOp.not 4 (Go.Operand.tmp 17), 4, none⟩,
      ⟨some 19, Go.Op.move (Go.Operand.tmp 18), 4, none⟩,
      ⟨some 20, Go.Op.move (Go.Operand.tmp 0), 37, (some (19, false))⟩,
      ⟨some 21, Go.Op.call { callee := Go.Callee.builtin Go.Builtin.len, args := #[Go.Operand.tmp 20], argTypes := #[37] }, 3, (some (19, false))⟩,
      ⟨some 22, Go.Op.binOp Go.BinOp.lss 3 (Go.Operand.tmp 21) (Go.Operand.const (Go.Value.int Go.IntKind.i64 2)) 3, 4, (some (19, false))⟩,
      ⟨some 23, Go.Op.pick (Go.Operand.tmp 19) (Go.Operand.const (Go.Value.bool true)) (Go.Operand.tmp 22), 4, none⟩])
    (.cond (Go.Operand.tmp 23)
      (.seq (.region [⟨some 24, Go.Op.build 33 #[], 33, none⟩,
        ⟨none, Go.Op.store 33 (Go.Operand.tmp 4) (Go.Operand.tmp 24), 0, none⟩,
        ⟨some 5, Go.Op.assign (Go.Operand.const (Go.Value.bool false)), 4, none⟩])
      .ret)
      .skip))
    (.seq (.draw [⟨⟨some 25, Go.Op.move (Go.Operand.tmp 0), 37, none⟩, false, false, true⟩,
      ⟨⟨some 26, Go.Op.indexAddr 37 (Go.Operand.tmp 25) (Go.Operand.const (Go.Value.int Go.IntKind.i64 0)), 0, none⟩, false, false, true⟩,
      ⟨⟨some 27, Go.Op.load 9 (Go.Operand.tmp 26), 9, none⟩, false, false, true⟩,
      ⟨⟨some 28, Go.Op.move (Go.Operand.tmp 6), 9, none⟩, false, false, true⟩,
      ⟨⟨some 29, Go.Op.call { callee := Go.Callee.value (Go.Operand.func 40), args := #[], argTypes := #[] }, 69, none⟩, false, false, true⟩,
      ⟨⟨some 30, Go.Op.move (Go.Operand.tmp 0), 37, none⟩, false, false, true⟩,
      ⟨⟨some 31, Go.Op.indexAddr 37 (Go.Operand.tmp 30) (Go.Operand.const (Go.Value.int Go.IntKind.i64 1)), 0, none⟩, false, false, true⟩,
      ⟨⟨some 32, Go.Op.load 9 (Go.Operand.tmp 31), 9, none⟩, false, false, true⟩,
      ⟨⟨some 33, Go.Op.lookup 69 (Go.Operand.tmp 29) (Go.Operand.tmp 32) false, 3, none⟩, false, false, true⟩,
      ⟨⟨some 34, Go.Op.build 33 #[(0, Go.Operand.tmp 27), (1, Go.Operand.tmp 28), (3, Go.Operand.const (Go.Value.int Go.IntKind.i64 60)), (4, Go.Operand.tmp 33)], 33, none⟩, false, false, true⟩,
      ⟨⟨some 8, Go.Op.alloc 33, 0, none⟩, true, false, false⟩,
      ⟨⟨none, Go.Op.store 33 (Go.Operand.tmp 8) (Go.Operand.tmp 34), 0, none⟩, true, false, false⟩])
    (.seq (.region [⟨some 36, Go.Op.move (Go.Operand.tmp 0), 37, none⟩,
      ⟨some 37, Go.Op.slice 37 (Go.Operand.tmp 36) (some (Go.Operand.const (Go.Value.int Go.IntKind.i64 2))) none none, 37, none⟩,
      ⟨some 38, Go.Op.makeFunc (Go.Fn.func 42) #[] #[Go.Operand.tmp 8], 29, none⟩,
      ⟨some 39, Go.Op.call { callee := Go.Callee.value (Go.Operand.func 41), args := #[Go.Operand.tmp 37, Go.Operand.const (Go.Value.string { data := #[119, 97, 105, 116] }), Go.Operand.tmp 38], argTypes := #[37, 9, 29] }, 71, none⟩,
      ⟨some 35, Go.Op.move (Go.Operand.tmp 39), 71, none⟩,
      ⟨some 40, Go.Op.extract (Go.Operand.tmp 35) 0, 37, none⟩,
      ⟨some 41, Go.Op.extract (Go.Operand.tmp 35) 1, 4, none⟩,
      ⟨some 0, Go.Op.assign (Go.Operand.tmp 40), 37, none⟩,
      ⟨some 9, Go.Op.assign (Go.Operand.tmp 41), 4, none⟩])
    (.seq (.seq (.region [⟨some 42, Go.Op.move (Go.Operand.tmp 9), 4, none⟩,
      ⟨some 43, Go.Op.unOp Go.UnOp.not 4 (Go.Operand.tmp 42), 4, none⟩])
    (.cond (Go.Operand.tmp 43)
      (.seq (.region [⟨some 44, Go.Op.build 33 #[], 33, none⟩,
        ⟨none, Go.Op.store 33 (Go.Operand.tmp 4) (Go.Operand.tmp 44), 0, none⟩,
        ⟨some 5, Go.Op.assign (Go.Operand.const (Go.Value.bool false)), 4, none⟩])
      .ret)
      .skip))
    (.seq (.region [⟨some 46, Go.Op.move (Go.Operand.tmp 0), 37, none⟩,
      ⟨some 47, Go.Op.makeFunc (Go.Fn.func 44) #[] #[Go.Operand.tmp 8], 29, none⟩,
      ⟨some 48, Go.Op.call { callee := Go.Callee.value (Go.Operand.func 41), args := #[Go.Operand.tmp 46, Go.Operand.const (Go.Value.string { data := #[114, 111, 119, 115] }), Go.Operand.tmp 47], argTypes := #[37, 9, 29] }, 71, none⟩,
      ⟨some 45, Go.Op.move (Go.Operand.tmp 48), 71, none⟩,
      ⟨some 49, Go.Op.extract (Go.Operand.tmp 45) 0, 37, none⟩,
      ⟨some 50, Go.Op.extract (Go.Operand.tmp 45) 1, 4, none⟩,
      ⟨some 0, Go.Op.assign (Go.Operand.tmp 49), 37, none⟩,
      ⟨some 9, Go.Op.assign (Go.Operand.tmp 50), 4, none⟩])
    (.seq (.region [⟨some 51, Go.Op.load 33 (Go.Operand.tmp 8), 33, none⟩,
      ⟨some 52, Go.Op.move (Go.Operand.tmp 9), 4, none⟩,
      ⟨some 53, Go.Op.move (Go.Operand.tmp 52), 4, none⟩,
      ⟨some 54, Go.Op.move (Go.Operand.tmp 0), 37, (some (53, true))⟩,
      ⟨some 55, Go.Op.call { callee := Go.Callee.builtin Go.Builtin.len, args := #[Go.Operand.tmp 54], argTypes := #[37] }, 3, (some (53, true))⟩,
      ⟨some 56, Go.Op.binOp Go.BinOp.eql 3 (Go.Operand.tmp 55) (Go.Operand.const (Go.Value.int Go.IntKind.i64 0)) 3, 4, (some (53, true))⟩,
      ⟨some 57, Go.Op.pick (Go.Operand.tmp 53) (Go.Operand.tmp 56) (Go.Operand.const (Go.Value.bool false)), 4, none⟩,
      ⟨none, Go.Op.store 33 (Go.Operand.tmp 4) (Go.Operand.tmp 51), 0, none⟩,
      ⟨some 5, Go.Op.assign (Go.Operand.tmp 57), 4, none⟩])
    .ret))))))))) :=
  ⟨foll, Tryz.f22, Tryz.func22, by kernel_rfl, by kernel_rfl, by kernel_rfl, by rw [Tryz.ntmps22]; decide⟩

/-- narrator.rulesyntax.words$1 -/
theorem fn37 : FnIs Tryz.prog 37 1 [Go.ResultVar.tmp 2] (.seq (.region [⟨some 2, Go.Op.assign (Go.Operand.const (Go.Value.bool false)), 4, none⟩])
    (.seq (.region [⟨some 3, Go.Op.move (Go.Operand.tmp 0), 21, none⟩,
      ⟨some 4, Go.Op.binOp Go.BinOp.eql 21 (Go.Operand.tmp 3) (Go.Operand.const (Go.Value.int Go.IntKind.i32 32)) 21, 4, none⟩,
      ⟨some 2, Go.Op.assign (Go.Operand.tmp 4), 4, none⟩])
    .ret)) :=
  ⟨foll, Tryz.f37, Tryz.func37, by kernel_rfl, by kernel_rfl, by kernel_rfl, by rw [Tryz.ntmps37]; decide⟩

/-- narrator.rulesyntax.classes -/
theorem fn40 : FnIs Tryz.prog 40 0 [Go.ResultVar.tmp 0] (.seq (.region [⟨some 0, Go.Op.assign (Go.Operand.const (Go.Value.map none)), 69, none⟩])
    (.seq (.region [⟨some 1, Go.Op.makeMap 69 none, 69, none⟩,
      ⟨none, Go.Op.insert 69 (Go.Operand.tmp 1) (Go.Operand.const (Go.Value.string { data := #[117, 114, 103, 101, 110, 116] })) (Go.Operand.const (Go.Value.int Go.IntKind.i64 1)), 0, none⟩,
      ⟨none, Go.Op.insert 69 (Go.Operand.tmp 1) (Go.Operand.const (Go.Value.string { data := #[110, 111, 114, 109, 97, 108] })) (Go.Operand.const (Go.Value.int Go.IntKind.i64 2)), 0, none⟩,
      ⟨none, Go.Op.insert 69 (Go.Operand.tmp 1) (Go.Operand.const (Go.Value.string { data := #[108, 97, 116, 101, 114] })) (Go.Operand.const (Go.Value.int Go.IntKind.i64 3)), 0, none⟩,
      ⟨some 2, Go.Op.move (Go.Operand.tmp 1), 69, none⟩,
      ⟨some 0, Go.Op.assign (Go.Operand.tmp 2), 69, none⟩])
    .ret)) :=
  ⟨foll, Tryz.f40, Tryz.func40, by kernel_rfl, by kernel_rfl, by kernel_rfl, by rw [Tryz.ntmps40]; decide⟩

/-- narrator.rulesyntax.option -/
theorem fn41 : FnIs Tryz.prog 41 3 [Go.ResultVar.tmp 6, Go.ResultVar.tmp 7] (.seq (.region [⟨some 6, Go.Op.assign (Go.Operand.const (Go.Value.slice none 0 0)), 37, none⟩,
      ⟨some 7, Go.Op.assign (Go.Operand.const (Go.Value.bool false)), 4, none⟩])
    (.seq (.seq (.region [⟨some 8, Go.Op.move (Go.Operand.tmp 0), 37, none⟩,
      ⟨some 9, Go.Op.call { callee := Go.Callee.builtin Go.Builtin.len, args := #[Go.Operand.tmp 8], argTypes := #[37] }, 3, none⟩,
      ⟨some 10, Go.Op.binOp Go.BinOp.lss 3 (Go.Operand.tmp 9) (Go.Operand.const (Go.Value.int Go.IntKind.i64 2)) 3, 4, none⟩,
      ⟨some 11, Go.Op.move (Go.Operand.tmp 10), 4, none⟩,
      ⟨some 12, Go.Op.move (Go.Operand.tmp 0), 37, (some (11, false))⟩,
      ⟨some 13, Go.Op.indexAddr 37 (Go.Operand.tmp 12) (Go.Operand.const (Go.Value.int Go.IntKind.i64 0)), 0, (some (11, false))⟩,
      ⟨some 14, Go.Op.load 9 (Go.Operand.tmp 13), 9, (some (11, false))⟩,
      ⟨some 15, Go.Op.move (Go.Operand.tmp 1), 9, (some (11, false))⟩,
      ⟨some 16, Go.Op.binOp Go.BinOp.neq 9 (Go.Operand.tmp 14) (Go.Operand.tmp 15) 9, 4, (some (11, false))⟩,
      ⟨some 17, Go.Op.pick (Go.Operand.tmp 11) (Go.Operand.const (Go.Value.bool true)) (Go.Operand.tmp 16), 4, none⟩])
    (.cond (Go.Operand.tmp 17)
      (.seq (.region [⟨some 18, Go.Op.move (Go.Operand.tmp 0), 37, none⟩,
        ⟨some 6, Go.Op.assign (Go.Operand.tmp 18), 37, none⟩,
        ⟨some 7, Go.Op.assign (Go.Operand.const (Go.Value.bool true)), 4, none⟩])
      .ret)
      .skip))
    (.seq (.draw [⟨⟨some 19, Go.Op.move (Go.Operand.tmp 0), 37, none⟩, false, false, false⟩,
      ⟨⟨some 20, Go.Op.slice 37 (Go.Operand.tmp 19) (some (Go.Operand.const (Go.Value.int Go.IntKind.i64 2))) none none, 37, none⟩, false, false, false⟩,
      ⟨⟨some 21, Go.Op.move (Go.Operand.tmp 2), 29, none⟩, false, false, false⟩,
      ⟨⟨some 22, Go.Op.move (Go.Operand.tmp 0), 37, none⟩, false, false, false⟩,
      ⟨⟨some 23, Go.Op.indexAddr 37 (Go.Operand.tmp 22) (Go.Operand.const (Go.Value.int Go.IntKind.i64 1)), 0, none⟩, false, false, false⟩,
      ⟨⟨some 24, Go.Op.load 9 (Go.Operand.tmp 23), 9, none⟩, false, false, false⟩,
      ⟨⟨some 25, Go.Op.call { callee := Go.Callee.value (Go.Operand.tmp 21), args := #[Go.Operand.tmp 24], argTypes := #[9] }, 4, none⟩, false, false, false⟩,
      ⟨⟨some 6, Go.Op.assign (Go.Operand.tmp 20), 37, none⟩, false, false, false⟩,
      ⟨⟨some 7, Go.Op.assign (Go.Operand.tmp 25), 4, none⟩, false, false, false⟩])
    .ret))) :=
  ⟨foll, Tryz.f41, Tryz.func41, by kernel_rfl, by kernel_rfl, by kernel_rfl, by rw [Tryz.ntmps41]; decide⟩

/-- narrator.rulesyntax.line$1 -/
theorem fn42 : FnIs Tryz.prog 42 2 [Go.ResultVar.tmp 3] (.seq (.region [⟨some 3, Go.Op.assign (Go.Operand.const (Go.Value.bool false)), 4, none⟩])
    (.seq (.region [⟨some 7, Go.Op.move (Go.Operand.tmp 0), 9, none⟩,
      ⟨some 8, Go.Op.call { callee := Go.Callee.value (Go.Operand.func 43), args := #[Go.Operand.tmp 7], argTypes := #[9] }, 73, none⟩,
      ⟨some 6, Go.Op.move (Go.Operand.tmp 8), 73, none⟩,
      ⟨some 9, Go.Op.extract (Go.Operand.tmp 6) 0, 3, none⟩,
      ⟨some 10, Go.Op.extract (Go.Operand.tmp 6) 1, 4, none⟩,
      ⟨some 4, Go.Op.assign (Go.Operand.tmp 9), 3, none⟩,
      ⟨some 5, Go.Op.assign (Go.Operand.tmp 10), 4, none⟩])
    (.seq (.region [⟨some 11, Go.Op.move (Go.Operand.tmp 4), 3, none⟩,
      ⟨some 12, Go.Op.fieldAddr 33 (Go.Operand.tmp 1) 5, 0, none⟩,
      ⟨none, Go.Op.store 3 (Go.Operand.tmp 12) (Go.Operand.tmp 11), 0, none⟩])
    (.seq (.region [⟨some 13, Go.Op.move (Go.Operand.tmp 5), 4, none⟩,
      ⟨some 3, Go.Op.assign (Go.Operand.tmp 13), 4, none⟩])
    .ret)))) :=
  ⟨foll, Tryz.f42, Tryz.func42, by kernel_rfl, by kernel_rfl, by kernel_rfl, by rw [Tryz.ntmps42]; decide⟩

/-- narrator.rulesyntax.number -/
theorem fn43 : FnIs Tryz.prog 43 1 [Go.ResultVar.tmp 2, Go.ResultVar.tmp 3] (.seq (.region [⟨some 2, Go.Op.assign (Go.Operand.const (Go.Value.int Go.IntKind.i64 0)), 3, none⟩,
      ⟨some 3, Go.Op.assign (Go.Operand.const (Go.Value.bool false)), 4, none⟩])
    (.seq (.seq (.region [⟨some 6, Go.Op.move (Go.Operand.tmp 0), 9, none⟩,
      ⟨some 7, Go.Op.binOp Go.BinOp.eql 9 (Go.Operand.tmp 6) (Go.Operand.const (Go.Value.string { data := #[] })) 9, 4, none⟩,
      ⟨some 8, Go.Op.move (Go.Operand.tmp 7), 4, none⟩,
      ⟨some 9, Go.Op.move (Go.Operand.tmp 0), 9, (some (8, false))⟩,
      ⟨some 10, Go.Op.call { callee := Go.Callee.builtin Go.Builtin.len, args := #[Go.Operand.tmp 9], argTypes := #[9] }, 3, (some (8, false))⟩,
      ⟨some 11, Go.Op.binOp Go.BinOp.gtr 3 (Go.Operand.tmp 10) (Go.Operand.const (Go.Value.int Go.IntKind.i64 9)) 3, 4, (some (8, false))⟩,
      ⟨some 12, Go.Op.pick (Go.Operand.tmp 8) (Go.Operand.const (Go.Value.bool true)) (Go.Operand.tmp 11), 4, none⟩,
      ⟨some 13, Go.Op.move (Go.Operand.tmp 12), 4, none⟩,
      ⟨some 14, Go.Op.move (Go.Operand.tmp 0), 9, (some (13, false))⟩,
      ⟨some 15, Go.Op.call { callee := Go.Callee.builtin Go.Builtin.len, args := #[Go.Operand.tmp 14], argTypes := #[9] }, 3, (some (13, false))⟩,
      ⟨some 16, Go.Op.binOp Go.BinOp.gtr 3 (Go.Operand.tmp 15) (Go.Operand.const (Go.Value.int Go.IntKind.i64 1)) 3, 4, (some (13, false))⟩,
      ⟨some 17, Go.Op.move (Go.Operand.tmp 16), 4, (some (13, false))⟩,
      ⟨some 18, Go.Op.move (Go.Operand.tmp 0), 9, (some (17, true))⟩,
      ⟨some 19, Go.Op.index 9 (Go.Operand.tmp 18) (Go.Operand.const (Go.Value.int Go.IntKind.i64 0)), 5, (some (17, true))⟩,
      ⟨some 20, Go.Op.binOp Go.BinOp.eql 5 (Go.Operand.tmp 19) (Go.Operand.const (Go.Value.int Go.IntKind.u8 48)) 5, 4, (some (17, true))⟩,
      ⟨some 21, Go.Op.pick (Go.Operand.tmp 17) (Go.Operand.tmp 20) (Go.Operand.const (Go.Value.bool false)), 4, (some (13, false))⟩,
      ⟨some 22, Go.Op.pick (Go.Operand.tmp 13) (Go.Operand.const (Go.Value.bool true)) (Go.Operand.tmp 21), 4, none⟩,
      ⟨some 23, Go.Op.move (Go.Operand.tmp 22), 4, none⟩,
      ⟨some 24, Go.Op.move (Go.Operand.tmp 0), 9, (some (23, false))⟩,
      ⟨some 25, Go.Op.call { callee := Go.Callee.value (Go.Operand.func 57), args := #[Go.Operand.tmp 24, Go.Operand.const (Go.Value.string { data := #[48, 49, 50, 51, 52, 53, 54, 55, 56, 57] })], argTypes := #[9, 9] }, 9, (some (23, false))⟩,
      ⟨some 26, Go.Op.binOp Go.BinOp.neq 9 (Go.Operand.tmp 25) (Go.Operand.const (Go.Value.string { data := #[] })) 9, 4, (some (23, false))⟩,
      ⟨some 27, Go.Op.pick (Go.Operand.tmp 23) (Go.Operand.const (Go.Value.bool true)) (Go.Operand.tmp 26), 4, none⟩])
    (.cond (Go.Operand.tmp 27)
      (.seq (.region [⟨some 2, Go.Op.assign (Go.Operand.const (Go.Value.int Go.IntKind.i64 0)), 3, none⟩,
        ⟨some 3, Go.Op.assign (Go.Operand.const (Go.Value.bool false)), 4, none⟩])
      .ret)
      .skip))
    (.seq (.region [⟨some 29, Go.Op.move (Go.Operand.tmp 0), 9, none⟩,
      ⟨some 30, Go.Op.call { callee := Go.Callee.value (Go.Operand.func 58), args := #[Go.Operand.tmp 29], argTypes := #[9] }, 57, none⟩,
      ⟨some 28, Go.Op.move (Go.Operand.tmp 30), 57, none⟩,
      ⟨some 31, Go.Op.extract (Go.Operand.tmp 28) 0, 3, none⟩,
      ⟨some 32, Go.Op.extract (Go.Operand.tmp 28) 1, 56, none⟩,
      ⟨some 4, Go.Op.assign (Go.Operand.tmp 31), 3, none⟩,
      ⟨some 5, Go.Op.assign (Go.Operand.tmp 32), 56, none⟩])
    (.seq (.draw [⟨⟨some 33, Go.Op.move (Go.Operand.tmp 4), 3, none⟩, false, false, false⟩,
      ⟨⟨some 34, Go.Op.move (Go.Operand.tmp 5), 56, none⟩, false, false, false⟩,
      ⟨⟨some 35, Go.Op.binOp Go.BinOp.eql 56 (Go.Operand.tmp 34) (Go.Operand.const Go.Value.nilIface) 56, 4, none⟩, false, false, false⟩,
      ⟨⟨some 2, Go.Op.assign (Go.Operand.tmp 33), 3, none⟩, false, false, false⟩,
      ⟨⟨some 3, Go.Op.assign (Go.Operand.tmp 35), 4, none⟩, false, false, false⟩])
    .ret)))) :=
  ⟨foll, Tryz.f43, Tryz.func43, by kernel_rfl, by kernel_rfl, by kernel_rfl, by rw [Tryz.ntmps43]; decide⟩

/-- narrator.rulesyntax.line$2 -/
theorem fn44 : FnIs Tryz.prog 44 2 [Go.ResultVar.tmp 3] (.seq (.region [⟨some 3, Go.Op.assign (Go.Operand.const (Go.Value.bool false)), 4, none⟩])
    (.seq (.region [⟨some 12, Go.Op.move (Go.Operand.tmp 0), 9, none⟩,
      ⟨some 13, Go.Op.call { callee := Go.Callee.value (Go.Operand.func 19), args := #[Go.Operand.tmp 12, Go.Operand.const (Go.Value.string { data := #[45] })], argTypes := #[9, 9] }, 42, none⟩,
      ⟨some 11, Go.Op.move (Go.Operand.tmp 13), 42, none⟩,
      ⟨some 14, Go.Op.extract (Go.Operand.tmp 11) 0, 9, none⟩,
      ⟨some 15, Go.Op.extract (Go.Operand.tmp 11) 1, 9, none⟩,
      ⟨some 16, Go.Op.extract (Go.Operand.tmp 11) 2, 4, none⟩,
      ⟨some 4, Go.Op.assign (Go.Operand.tmp 14), 9, none⟩,
      ⟨some 5, Go.Op.assign (Go.Operand.tmp 15), 9, none⟩,
      ⟨some 6, Go.Op.assign (Go.Operand.tmp 16), 4, none⟩])
    (.seq (.region [⟨some 18, Go.Op.move (Go.Operand.tmp 4), 9, none⟩,
      ⟨some 19, Go.Op.call { callee := Go.Callee.value (Go.Operand.func 43), args := #[Go.Operand.tmp 18], argTypes := #[9] }, 73, none⟩,
      ⟨some 17, Go.Op.move (Go.Operand.tmp 19), 73, none⟩,
      ⟨some 20, Go.Op.extract (Go.Operand.tmp 17) 0, 3, none⟩,
      ⟨some 21, Go.Op.extract (Go.Operand.tmp 17) 1, 4, none⟩,
      ⟨some 7, Go.Op.assign (Go.Operand.tmp 20), 3, none⟩,
      ⟨some 8, Go.Op.assign (Go.Operand.tmp 21), 4, none⟩])
    (.seq (.region [⟨some 23, Go.Op.move (Go.Operand.tmp 5), 9, none⟩,
      ⟨some 24, Go.Op.call { callee := Go.Callee.value (Go.Operand.func 43), args := #[Go.Operand.tmp 23], argTypes := #[9] }, 73, none⟩,
      ⟨some 22, Go.Op.move (Go.Operand.tmp 24), 73, none⟩,
      ⟨some 25, Go.Op.extract (Go.Operand.tmp 22) 0, 3, none⟩,
      ⟨some 26, Go.Op.extract (Go.Operand.tmp 22) 1, 4, none⟩,
      ⟨some 9, Go.Op.assign (Go.Operand.tmp 25), 3, none⟩,
      ⟨some 10, Go.Op.assign (Go.Operand.tmp 26), 4, none⟩])
    (.seq (.region [⟨some 27, Go.Op.move (Go.Operand.tmp 7), 3, none⟩,
      ⟨some 28, Go.Op.binOp Go.BinOp.sub 3 (Go.Operand.tmp 27) (Go.Operand.const (Go.Value.int Go.IntKind.i64 1)) 3, 3, none⟩,
      ⟨some 29, Go.Op.move (Go.Operand.tmp 9), 3, none⟩,
      ⟨some 30, Go.Op.fieldAddr 33 (Go.Operand.tmp 1) 2, 0, none⟩,
      ⟨none, Go.Op.store 3 (Go.Operand.tmp 30) (Go.Operand.tmp 28), 0, none⟩,
      ⟨some 31, Go.Op.fieldAddr 33 (Go.Operand.tmp 1) 3, 0, none⟩,
      ⟨none, Go.Op.store 3 (Go.Operand.tmp 31) (Go.Operand.tmp 29), 0, none⟩])
    (.seq (.region [⟨some 32, Go.Op.move (Go.Operand.tmp 8), 4, none⟩,
      ⟨some 33, Go.Op.move (Go.Operand.tmp 32), 4, none⟩,
      ⟨some 34, Go.Op.move (Go.Operand.tmp 10), 4, (some (33, true))⟩,
      ⟨some 35, Go.Op.pick (Go.Operand.tmp 33) (Go.Operand.tmp 34) (Go.Operand.const (Go.Value.bool false)), 4, none⟩,
      ⟨some 3, Go.Op.assign (Go.Operand.tmp 35), 4, none⟩])
    .ret)))))) :=
  ⟨foll, Tryz.f44, Tryz.func44, by kernel_rfl, by kernel_rfl, by kernel_rfl, by rw [Tryz.ntmps44]; decide⟩

end Go.Proofs.YtjgbdlaecpkmhaaGreatDoor
