/- Part of a proof about the functions of this seat. -/
import Derived.Test.YtefpcfooahogkaaDoorG09Base35
import Derived.Test.YtefpcfooahogkaaDoorG08NvP
import Derived.Below
import Derived.Shelf.Strings.Search1
import Derived.Shelf.Strings.Search2
import Derived.Shelf.Strings.Search3
import Derived.Shelf.LaysM
import Derived.Shelf.Strings.Shaped
import Derived.Test.YtefpcfooahogkaaDoorProg
import Derived.Lib.SlicesCompact
import Derived.Lib.Bytealg
/- The prepared code of further functions. Written by a program of mine (gen.py) out of what the loaded dump prints. -/

set_option linter.unusedVariables false
set_option maxRecDepth 100000
namespace Go.Proofs.YtefpcfooahogkaaDoor
open Go Nv

/-- narrator.narratorlaw35.RulecompileCover -/
theorem fn3 : FnIs Tryd.prog 3 1 [Go.ResultVar.tmp 2] (.seq (.region [⟨some 2, Go.Op.assign (Go.Operand.const (Go.Value.bool false)), 4, none⟩])
    (.seq (.seq (.region [⟨some 8, Go.Op.move (Go.Operand.tmp 0), 22, none⟩,
      ⟨some 9, Go.Op.call { callee := Go.Callee.builtin Go.Builtin.len, args := #[Go.Operand.tmp 8], argTypes := #[22] }, 3, none⟩,
      ⟨some 10, Go.Op.binOp Go.BinOp.gtr 3 (Go.Operand.tmp 9) (Go.Operand.const (Go.Value.int Go.IntKind.i64 20)) 3, 4, none⟩])
    (.cond (Go.Operand.tmp 10)
      (.seq (.region [⟨some 11, Go.Op.call { callee := Go.Callee.value (Go.Operand.func 4), args := #[], argTypes := #[] }, 4, none⟩,
        ⟨some 2, Go.Op.assign (Go.Operand.tmp 11), 4, none⟩])
      .ret)
      .skip))
    (.seq (.region [⟨some 12, Go.Op.move (Go.Operand.tmp 0), 22, none⟩,
      ⟨some 13, Go.Op.call { callee := Go.Callee.value (Go.Operand.func 5), args := #[Go.Operand.tmp 12], argTypes := #[22] }, 24, none⟩,
      ⟨some 3, Go.Op.assign (Go.Operand.tmp 13), 24, none⟩])
    (.seq (.seq (.region [⟨some 14, Go.Op.move (Go.Operand.tmp 0), 22, none⟩,
      ⟨some 15, Go.Op.call { callee := Go.Callee.value (Go.Operand.func 6), args := #[Go.Operand.tmp 14], argTypes := #[22] }, 26, none⟩,
      ⟨some 16, Go.Op.binOp Go.BinOp.neq 26 (Go.Operand.tmp 15) (Go.Operand.const (Go.Value.int Go.IntKind.i64 0)) 26, 4, none⟩])
    (.cond (Go.Operand.tmp 16)
      (.seq (.region [⟨some 17, Go.Op.move (Go.Operand.tmp 3), 24, none⟩,
        ⟨some 18, Go.Op.call { callee := Go.Callee.builtin Go.Builtin.len, args := #[Go.Operand.tmp 17], argTypes := #[24] }, 3, none⟩,
        ⟨some 19, Go.Op.binOp Go.BinOp.eql 3 (Go.Operand.tmp 18) (Go.Operand.const (Go.Value.int Go.IntKind.i64 0)) 3, 4, none⟩,
        ⟨some 20, Go.Op.move (Go.Operand.tmp 19), 4, none⟩,
        ⟨some 21, Go.Op.call { callee := Go.Callee.value (Go.Operand.func 4), args := #[], argTypes := #[] }, 4, (some (20, true))⟩,
        ⟨some 22, Go.Op.pick (Go.Operand.tmp 20) (Go.Operand.tmp 21) (Go.Operand.const (Go.Value.bool false)), 4, none⟩,
        ⟨some 2, Go.Op.assign (Go.Operand.tmp 22), 4, none⟩])
      .ret)
      .skip))
    (.seq (.region [⟨some 4, Go.Op.assign (Go.Operand.const (Go.Value.int Go.IntKind.i64 0)), 3, none⟩])
    (.seq (.seq (.region [⟨some 5, Go.Op.assign (Go.Operand.const (Go.Value.int Go.IntKind.i64 0)), 3, none⟩])
    (.block 0
      (.loop
        (.seq (.seq (.region [⟨some 23, Go.Op.move (Go.Operand.tmp 5), 3, none⟩,
          ⟨some 24, Go.Op.move (Go.Operand.tmp 3), 24, none⟩,
          ⟨some 25, Go.Op.call { callee := Go.Callee.builtin Go.Builtin.len, args := #[Go.Operand.tmp 24], argTypes := #[24] }, 3, none⟩,
          ⟨some 26, Go.Op.binOp Go.BinOp.lss 3 (Go.Operand.tmp 23) (Go.Operand.tmp 25) 3, 4, none⟩])
        (.cond (Go.Operand.tmp 26)
          .skip
          (.exit 0)))
        (.seq (.block 1
          (.seq (.seq (.region [⟨some 29, Go.Op.move (Go.Operand.tmp 3), 24, none⟩,
            ⟨some 30, Go.Op.move (Go.Operand.tmp 5), 3, none⟩,
            ⟨some 31, Go.Op.indexAddr 24 (Go.Operand.tmp 29) (Go.Operand.tmp 30), 0, none⟩,
            ⟨some 32, Go.Op.fieldAddr 29 (Go.Operand.tmp 31) 0, 0, none⟩,
            ⟨some 33, Go.Op.load 3 (Go.Operand.tmp 32), 3, none⟩,
            ⟨some 34, Go.Op.move (Go.Operand.tmp 4), 3, none⟩,
            ⟨some 35, Go.Op.binOp Go.BinOp.neq 3 (Go.Operand.tmp 33) (Go.Operand.tmp 34) 3, 4, none⟩,
            ⟨some 36, Go.Op.move (Go.Operand.tmp 35), 4, none⟩,
            ⟨some 37, Go.Op.move (Go.Operand.tmp 3), 24, (some (36, false))⟩,
            ⟨some 38, Go.Op.move (Go.Operand.tmp 5), 3, (some (36, false))⟩,
            ⟨some 39, Go.Op.indexAddr 24 (Go.Operand.tmp 37) (Go.Operand.tmp 38), 0, (some (36, false))⟩,
            ⟨some 40, Go.Op.fieldAddr 29 (Go.Operand.tmp 39) 1, 0, (some (36, false))⟩,
            ⟨some 41, Go.Op.load 3 (Go.Operand.tmp 40), 3, (some (36, false))⟩,
            ⟨some 42, Go.Op.move (Go.Operand.tmp 4), 3, (some (36, false))⟩,
            ⟨some 43, Go.Op.binOp Go.BinOp.leq 3 (Go.Operand.tmp 41) (Go.Operand.tmp 42) 3, 4, (some (36, false))⟩,
            ⟨some 44, Go.Op.pick (Go.Operand.tmp 36) (Go.Operand.const (Go.Value.bool true)) (Go.Operand.tmp 43), 4, none⟩])
          (.cond (Go.Operand.tmp 44)
            (.seq (.region [⟨some 2, Go.Op.assign (Go.Operand.const (Go.Value.bool false)), 4, none⟩])
            .ret)
            .skip))
          (.seq (.region [⟨some 45, Go.Op.move (Go.Operand.tmp 3), 24, none⟩,
            ⟨some 46, Go.Op.move (Go.Operand.tmp 5), 3, none⟩,
            ⟨some 47, Go.Op.indexAddr 24 (Go.Operand.tmp 45) (Go.Operand.tmp 46), 0, none⟩,
            ⟨some 48, Go.Op.fieldAddr 29 (Go.Operand.tmp 47) 1, 0, none⟩,
            ⟨some 49, Go.Op.load 3 (Go.Operand.tmp 48), 3, none⟩,
            ⟨some 4, Go.Op.assign (Go.Operand.tmp 49), 3, none⟩])
          (.seq (.region [⟨some 50, Go.Op.move (Go.Operand.tmp 4), 3, none⟩,
            ⟨some 51, Go.Op.binOp Go.BinOp.eql 3 (Go.Operand.tmp 50) (Go.Operand.const (Go.Value.int Go.IntKind.i64 60)) 3, 4, none⟩,
            ⟨some 6, Go.Op.assign (Go.Operand.tmp 51), 4, none⟩])
          (.seq (.seq (.region [⟨some 7, Go.Op.assign (Go.Operand.const (Go.Value.int Go.IntKind.i64 0)), 3, none⟩])
          (.block 2
            (.loop
              (.seq (.seq (.region [⟨some 52, Go.Op.move (Go.Operand.tmp 7), 3, none⟩,
                ⟨some 53, Go.Op.move (Go.Operand.tmp 0), 22, none⟩,
                ⟨some 54, Go.Op.call { callee := Go.Callee.builtin Go.Builtin.len, args := #[Go.Operand.tmp 53], argTypes := #[22] }, 3, none⟩,
                ⟨some 55, Go.Op.binOp Go.BinOp.lss 3 (Go.Operand.tmp 52) (Go.Operand.tmp 54) 3, 4, none⟩])
              (.cond (Go.Operand.tmp 55)
                .skip
                (.exit 2)))
              (.seq (.block 3
                (.seq (.seq (.draw [⟨⟨some 58, Go.Op.move (Go.Operand.tmp 0), 22, none⟩, false, false, false⟩,
                  ⟨⟨some 59, Go.Op.move (Go.Operand.tmp 7), 3, none⟩, false, false, false⟩,
                  ⟨⟨some 60, Go.Op.indexAddr 22 (Go.Operand.tmp 58) (Go.Operand.tmp 59), 0, none⟩, false, false, false⟩,
                  ⟨⟨some 61, Go.Op.fieldAddr 31 (Go.Operand.tmp 60) 2, 0, none⟩, false, false, false⟩,
                  ⟨⟨some 62, Go.Op.load 3 (Go.Operand.tmp 61), 3, none⟩, false, false, false⟩,
                  ⟨⟨some 63, Go.Op.move (Go.Operand.tmp 3), 24, none⟩, false, false, false⟩,
                  ⟨⟨some 64, Go.Op.move (Go.Operand.tmp 5), 3, none⟩, false, false, false⟩,
                  ⟨⟨some 65, Go.Op.indexAddr 24 (Go.Operand.tmp 63) (Go.Operand.tmp 64), 0, none⟩, false, false, false⟩,
                  ⟨⟨some 66, Go.Op.fieldAddr 29 (Go.Operand.tmp 65) 1, 0, none⟩, false, false, false⟩,
                  ⟨⟨some 67, Go.Op.load 3 (Go.Operand.tmp 66), 3, none⟩, false, false, false⟩,
                  ⟨⟨some 68, Go.Op.binOp Go.BinOp.lss 3 (Go.Operand.tmp 62) (Go.Operand.tmp 67) 3, 4, none⟩, false, false, false⟩,
                  ⟨⟨some 69, Go.Op.move (Go.Operand.tmp 68), 4, none⟩, false, false, false⟩,
                  ⟨⟨some 70, Go.Op.move (Go.Operand.tmp 0), 22, (some (69, true))⟩, false, false, false⟩,
                  ⟨⟨some 71, Go.Op.move (Go.Operand.tmp 7), 3, (some (69, true))⟩, false, false, false⟩,
                  ⟨⟨some 72, Go.Op.indexAddr 22 (Go.Operand.tmp 70) (Go.Operand.tmp 71), 0, (some (69, true))⟩, false, false, false⟩,
                  ⟨⟨some 73, Go.Op.fieldAddr 31 (Go.Operand.tmp 72) 3, 0, (some (69, true))⟩, false, false, false⟩,
                  ⟨⟨some 74, Go.Op.load 3 (Go.Operand.tmp 73), 3, (some (69, true))⟩, false, false, false⟩,
                  ⟨⟨some 75, Go.Op.move (Go.Operand.tmp 3), 24, (some (69, true))⟩, false, false, false⟩,
                  ⟨⟨some 76, Go.Op.move (Go.Operand.tmp 5), 3, (some (69, true))⟩, false, false, false⟩,
                  ⟨⟨some 77, Go.Op.indexAddr 24 (Go.Operand.tmp 75) (Go.Operand.tmp 76), 0, (some (69, true))⟩, false, false, false⟩,
                  ⟨⟨some 78, Go.Op.fieldAddr 29 (Go.Operand.tmp 77) 0, 0, (some (69, true))⟩, false, false, false⟩,
                  ⟨⟨some 79, Go.Op.load 3 (Go.Operand.tmp 78), 3, (some (69, true))⟩, false, false, false⟩,
                  ⟨⟨some 80, Go.Op.binOp Go.BinOp.gtr 3 (Go.Operand.tmp 74) (Go.Operand.tmp 79) 3, 4, (some (69, true))⟩, false, false, false⟩,
                  ⟨⟨some 81, Go.Op.pick (Go.Operand.tmp 69) (Go.Operand.tmp 80) (Go.Operand.const (Go.Value.bool false)), 4, none⟩, false, false, false⟩,
                  ⟨⟨some 82, Go.Op.move (Go.Operand.tmp 81), 4, none⟩, false, false, false⟩,
                  ⟨⟨some 83, Go.Op.move (Go.Operand.tmp 0), 22, (some (82, true))⟩, false, false, false⟩,
                  ⟨⟨some 84, Go.Op.move (Go.Operand.tmp 7), 3, (some (82, true))⟩, false, false, false⟩,
                  ⟨⟨some 85, Go.Op.indexAddr 22 (Go.Operand.tmp 83) (Go.Operand.tmp 84), 0, (some (82, true))⟩, false, false, false⟩,
                  ⟨⟨some 86, Go.Op.fieldAddr 31 (Go.Operand.tmp 85) 2, 0, (some (82, true))⟩, false, false, false⟩,
                  ⟨⟨some 87, Go.Op.load 3 (Go.Operand.tmp 86), 3, (some (82, true))⟩, false, false, false⟩,
                  ⟨⟨some 88, Go.Op.move (Go.Operand.tmp 3), 24, (some (82, true))⟩, false, false, false⟩,
                  ⟨⟨some 89, Go.Op.move (Go.Operand.tmp 5), 3, (some (82, true))⟩, false, false, false⟩,
                  ⟨⟨some 90, Go.Op.indexAddr 24 (Go.Operand.tmp 88) (Go.Operand.tmp 89), 0, (some (82, true))⟩, false, false, false⟩,
                  ⟨⟨some 91, Go.Op.fieldAddr 29 (Go.Operand.tmp 90) 0, 0, (some (82, true))⟩, false, false, false⟩,
                  ⟨⟨some 92, Go.Op.load 3 (Go.Operand.tmp 91), 3, (some (82, true))⟩, false, false, false⟩,
                  ⟨⟨some 93, Go.Op.binOp Go.BinOp.gtr 3 (Go.Operand.tmp 87) (Go.Operand.tmp 92) 3, 4, (some (82, true))⟩, false, false, false⟩,
                  ⟨⟨some 94, Go.Op.move (Go.Operand.tmp 93), 4, (some (82, true))⟩, false, false, false⟩,
                  ⟨⟨some 95, Go.Op.move (Go.Operand.tmp 0), 22, (some (94, false))⟩, false, false, false⟩,
                  ⟨⟨some 96, Go.Op.move (Go.Operand.tmp 7), 3, (some (94, false))⟩, false, false, false⟩,
                  ⟨⟨some 97, Go.Op.indexAddr 22 (Go.Operand.tmp 95) (Go.Operand.tmp 96), 0, (some (94, false))⟩, false, false, false⟩,
                  ⟨⟨some 98, Go.Op.fieldAddr 31 (Go.Operand.tmp 97) 3, 0, (some (94, false))⟩, false, false, false⟩,
                  ⟨⟨some 99, Go.Op.load 3 (Go.Operand.tmp 98), 3, (some (94, false))⟩, false, false, false⟩,
                  ⟨⟨some 100, Go.Op.move (Go.Operand.tmp 3), 24, (some (94, false))⟩, false, false, false⟩,
                  ⟨⟨some 101, Go.Op.move (Go.Operand.tmp 5), 3, (some (94, false))⟩, false, false, false⟩,
                  ⟨⟨some 102, Go.Op.indexAddr 24 (Go.Operand.tmp 100) (Go.Operand.tmp 101), 0, (some (94, false))⟩, false, false, false⟩,
                  ⟨⟨some 103, Go.Op.fieldAddr 29 (Go.Operand.tmp 102) 1, 0, (some (94, false))⟩, false, false, false⟩,
                  ⟨⟨some 104, Go.Op.load 3 (Go.Operand.tmp 103), 3, (some (94, false))⟩, false, false, false⟩,
                  ⟨⟨some 105, Go.Op.binOp Go.BinOp.lss 3 (Go.Operand.tmp 99) (Go.Operand.tmp 104) 3, 4, (some (94, false))⟩, false, false, false⟩,
                  ⟨⟨some 106, Go.Op.pick (Go.Operand.tmp 94) (Go.Operand.const (Go.Value.bool true)) (Go.Operand.tmp 105), 4, (some (82, true))⟩, false, false, false⟩,
                  ⟨⟨some 107, Go.Op.pick (Go.Operand.tmp 82) (Go.Operand.tmp 106) (Go.Operand.const (Go.Value.bool false)), 4, none⟩, false, false, false⟩])
                (.cond (Go.Operand.tmp 107)
                  (.seq (.region [⟨some 2, Go.Op.assign (Go.Operand.const (Go.Value.bool false)), 4, none⟩])
                  .ret)
                  .skip))
                (.region [⟨some 108, Go.Op.move (Go.Operand.tmp 6), 4, none⟩,
                  ⟨some 109, Go.Op.move (Go.Operand.tmp 108), 4, none⟩,
                  ⟨some 110, Go.Op.move (Go.Operand.tmp 0), 22, (some (109, false))⟩,
                  ⟨some 111, Go.Op.move (Go.Operand.tmp 7), 3, (some (109, false))⟩,
                  ⟨some 112, Go.Op.indexAddr 22 (Go.Operand.tmp 110) (Go.Operand.tmp 111), 0, (some (109, false))⟩,
                  ⟨some 113, Go.Op.fieldAddr 31 (Go.Operand.tmp 112) 2, 0, (some (109, false))⟩,
                  ⟨some 114, Go.Op.load 3 (Go.Operand.tmp 113), 3, (some (109, false))⟩,
                  ⟨some 115, Go.Op.move (Go.Operand.tmp 4), 3, (some (109, false))⟩,
                  ⟨some 116, Go.Op.binOp Go.BinOp.eql 3 (Go.Operand.tmp 114) (Go.Operand.tmp 115) 3, 4, (some (109, false))⟩,
                  ⟨some 117, Go.Op.pick (Go.Operand.tmp 109) (Go.Operand.const (Go.Value.bool true)) (Go.Operand.tmp 116), 4, none⟩,
                  ⟨some 118, Go.Op.move (Go.Operand.tmp 117), 4, none⟩,
                  ⟨some 119, Go.Op.move (Go.Operand.tmp 0), 22, (some (118, false))⟩,
                  ⟨some 120, Go.Op.move (Go.Operand.tmp 7), 3, (some (118, false))⟩,
                  ⟨some 121, Go.Op.indexAddr 22 (Go.Operand.tmp 119) (Go.Operand.tmp 120), 0, (some (118, false))⟩,
                  ⟨some 122, Go.Op.fieldAddr 31 (Go.Operand.tmp 121) 3, 0, (some (118, false))⟩,
                  ⟨some 123, Go.Op.load 3 (Go.Operand.tmp 122), 3, (some (118, false))⟩,
                  ⟨some 124, Go.Op.move (Go.Operand.tmp 4), 3, (some (118, false))⟩,
                  ⟨some 125, Go.Op.binOp Go.BinOp.eql 3 (Go.Operand.tmp 123) (Go.Operand.tmp 124) 3, 4, (some (118, false))⟩,
                  ⟨some 126, Go.Op.pick (Go.Operand.tmp 118) (Go.Operand.const (Go.Value.bool true)) (Go.Operand.tmp 125), 4, none⟩,
                  ⟨some 6, Go.Op.assign (Go.Operand.tmp 126), 4, none⟩])))
              (.region [⟨some 56, Go.Op.move (Go.Operand.tmp 7), 3, none⟩,
                ⟨some 57, Go.Op.binOp Go.BinOp.add 3 (Go.Operand.tmp 56) (Go.Operand.const (Go.Value.int Go.IntKind.i64 1)) 3, 3, none⟩,
                ⟨some 7, Go.Op.assign (Go.Operand.tmp 57), 3, none⟩]))))))
          (.seq (.region [⟨some 127, Go.Op.move (Go.Operand.tmp 6), 4, none⟩,
            ⟨some 128, Go.Op.unOp Go.UnOp.not 4 (Go.Operand.tmp 127), 4, none⟩])
          (.cond (Go.Operand.tmp 128)
            (.seq (.region [⟨some 2, Go.Op.assign (Go.Operand.const (Go.Value.bool false)), 4, none⟩])
            .ret)
            .skip)))))))
        (.region [⟨some 27, Go.Op.move (Go.Operand.tmp 5), 3, none⟩,
          ⟨some 28, Go.Op.binOp Go.BinOp.add 3 (Go.Operand.tmp 27) (Go.Operand.const (Go.Value.int Go.IntKind.i64 1)) 3, 3, none⟩,
          ⟨some 5, Go.Op.assign (Go.Operand.tmp 28), 3, none⟩]))))))
    (.seq (.region [⟨some 129, Go.Op.move (Go.Operand.tmp 4), 3, none⟩,
      ⟨some 130, Go.Op.binOp Go.BinOp.eql 3 (Go.Operand.tmp 129) (Go.Operand.const (Go.Value.int Go.IntKind.i64 60)) 3, 4, none⟩,
      ⟨some 131, Go.Op.move (Go.Operand.tmp 130), 4, none⟩,
      ⟨some 132, Go.Op.call { callee := Go.Callee.value (Go.Operand.func 4), args := #[], argTypes := #[] }, 4, (some (131, true))⟩,
      ⟨some 133, Go.Op.pick (Go.Operand.tmp 131) (Go.Operand.tmp 132) (Go.Operand.const (Go.Value.bool false)), 4, none⟩,
      ⟨some 2, Go.Op.assign (Go.Operand.tmp 133), 4, none⟩])
    .ret))))))) :=
  ⟨foll, Tryd.f3, Tryd.func3, by kernel_rfl, by kernel_rfl, by kernel_rfl, by rw [Tryd.ntmps3]; decide⟩

/-- narrator.rulecompile.Bands -/
theorem fn5 : FnIs Tryd.prog 5 1 [Go.ResultVar.tmp 2] (.seq (.region [⟨some 2, Go.Op.assign (Go.Operand.const (Go.Value.slice none 0 0)), 24, none⟩])
    (.seq (.seq (.region [⟨some 8, Go.Op.move (Go.Operand.tmp 0), 22, none⟩,
      ⟨some 9, Go.Op.call { callee := Go.Callee.value (Go.Operand.func 6), args := #[Go.Operand.tmp 8], argTypes := #[22] }, 26, none⟩,
      ⟨some 10, Go.Op.binOp Go.BinOp.neq 26 (Go.Operand.tmp 9) (Go.Operand.const (Go.Value.int Go.IntKind.i64 0)) 26, 4, none⟩])
    (.cond (Go.Operand.tmp 10)
      (.seq (.region [⟨some 2, Go.Op.assign (Go.Operand.const (Go.Value.slice none 0 0)), 24, none⟩])
      .ret)
      .skip))
    (.seq (.region [⟨some 11, Go.Op.buildSlice 35 2 #[(0, Go.Operand.const (Go.Value.int Go.IntKind.i64 0)), (1, Go.Operand.const (Go.Value.int Go.IntKind.i64 60))], 35, none⟩,
      ⟨some 3, Go.Op.assign (Go.Operand.tmp 11), 35, none⟩])
    (.seq (.seq (.region [⟨some 12, Go.Op.move (Go.Operand.tmp 0), 22, none⟩,
      ⟨some 13, Go.Op.call { callee := Go.Callee.builtin Go.Builtin.len, args := #[Go.Operand.tmp 12], argTypes := #[22] }, 3, none⟩,
      ⟨some 14, Go.Op.move (Go.Operand.const (Go.Value.int Go.IntKind.i64 0)), 3, none⟩])
    (.block 0
      (.loop
        (.seq (.region [⟨some 15, Go.Op.binOp Go.BinOp.lss 3 (Go.Operand.tmp 14) (Go.Operand.tmp 13) 3, 0, none⟩])
        (.seq (.cond (Go.Operand.tmp 15)
          .skip
          (.exit 0))
        (.seq (.block 1
          (.seq (.region [⟨some 16, Go.Op.indexAddr 22 (Go.Operand.tmp 12) (Go.Operand.tmp 14), 0, none⟩,
            ⟨some 17, Go.Op.load 31 (Go.Operand.tmp 16), 31, none⟩,
            ⟨some 5, Go.Op.alloc 31, 0, none⟩,
            ⟨none, Go.Op.store 31 (Go.Operand.tmp 5) (Go.Operand.tmp 17), 0, none⟩])
          (.region [⟨some 18, Go.Op.move (Go.Operand.tmp 3), 35, none⟩,
            ⟨some 19, Go.Op.fieldAddr 31 (Go.Operand.tmp 5) 2, 0, none⟩,
            ⟨some 20, Go.Op.load 3 (Go.Operand.tmp 19), 3, none⟩,
            ⟨some 21, Go.Op.fieldAddr 31 (Go.Operand.tmp 5) 3, 0, none⟩,
            ⟨some 22, Go.Op.load 3 (Go.Operand.tmp 21), 3, none⟩,
            ⟨some 23, Go.Op.buildSlice 35 2 #[(0, Go.Operand.tmp 20), (1, Go.Operand.tmp 22)], 35, none⟩,
            ⟨some 24, Go.Op.call { callee := Go.Callee.builtin Go.Builtin.append, args := #[Go.Operand.tmp 18, Go.Operand.tmp 23], argTypes := #[35, 35] }, 35, none⟩,
            ⟨some 3, Go.Op.assign (Go.Operand.tmp 24), 35, none⟩])))
        (.region [⟨some 25, Go.Op.binOp Go.BinOp.add 3 (Go.Operand.tmp 14) (Go.Operand.const (Go.Value.int Go.IntKind.i64 1)) 3, 3, none⟩,
          ⟨some 14, Go.Op.move (Go.Operand.tmp 25), 3, none⟩])))))))
    (.seq (.region [⟨some 26, Go.Op.move (Go.Operand.tmp 3), 35, none⟩,
      ⟨some 27, Go.Op.call { callee := Go.Callee.value (Go.Operand.func 9), args := #[Go.Operand.tmp 26], argTypes := #[35] }, 0, none⟩])
    (.seq (.region [⟨some 28, Go.Op.move (Go.Operand.tmp 3), 35, none⟩,
      ⟨some 29, Go.Op.call { callee := Go.Callee.value (Go.Operand.func 10), args := #[Go.Operand.tmp 28], argTypes := #[35] }, 35, none⟩,
      ⟨some 3, Go.Op.assign (Go.Operand.tmp 29), 35, none⟩])
    (.seq (.region [⟨some 6, Go.Op.assign (Go.Operand.const (Go.Value.slice none 0 0)), 24, none⟩])
    (.seq (.seq (.region [⟨some 7, Go.Op.assign (Go.Operand.const (Go.Value.int Go.IntKind.i64 1)), 3, none⟩])
    (.block 2
      (.loop
        (.seq (.seq (.region [⟨some 30, Go.Op.move (Go.Operand.tmp 7), 3, none⟩,
          ⟨some 31, Go.Op.move (Go.Operand.tmp 3), 35, none⟩,
          ⟨some 32, Go.Op.call { callee := Go.Callee.builtin Go.Builtin.len, args := #[Go.Operand.tmp 31], argTypes := #[35] }, 3, none⟩,
          ⟨some 33, Go.Op.binOp Go.BinOp.lss 3 (Go.Operand.tmp 30) (Go.Operand.tmp 32) 3, 4, none⟩])
        (.cond (Go.Operand.tmp 33)
          .skip
          (.exit 2)))
        (.seq (.block 3
          (.draw [⟨⟨some 36, Go.Op.move (Go.Operand.tmp 6), 24, none⟩, false, false, true⟩,
            ⟨⟨some 37, Go.Op.move (Go.Operand.tmp 3), 35, none⟩, false, false, false⟩,
            ⟨⟨some 38, Go.Op.move (Go.Operand.tmp 7), 3, none⟩, false, false, false⟩,
            ⟨⟨some 39, Go.Op.binOp Go.BinOp.sub 3 (Go.Operand.tmp 38) (Go.Operand.const (Go.Value.int Go.IntKind.i64 1)) 3, 3, none⟩, false, false, false⟩,
            ⟨⟨some 40, Go.Op.indexAddr 35 (Go.Operand.tmp 37) (Go.Operand.tmp 39), 0, none⟩, false, false, false⟩,
            ⟨⟨some 41, Go.Op.load 3 (Go.Operand.tmp 40), 3, none⟩, false, false, false⟩,
            ⟨⟨some 42, Go.Op.move (Go.Operand.tmp 3), 35, none⟩, false, false, false⟩,
            ⟨⟨some 43, Go.Op.move (Go.Operand.tmp 7), 3, none⟩, false, false, false⟩,
            ⟨⟨some 44, Go.Op.indexAddr 35 (Go.Operand.tmp 42) (Go.Operand.tmp 43), 0, none⟩, false, false, false⟩,
            ⟨⟨some 45, Go.Op.load 3 (Go.Operand.tmp 44), 3, none⟩, false, false, false⟩,
            ⟨⟨some 46, Go.Op.build 29 #[(0, Go.Operand.tmp 41), (1, Go.Operand.tmp 45)], 29, none⟩, false, false, false⟩,
            ⟨⟨some 47, Go.Op.buildSlice 24 1 #[(0, Go.Operand.tmp 46)], 24, none⟩, true, false, false⟩,
            ⟨⟨some 48, Go.Op.call { callee := Go.Callee.builtin Go.Builtin.append, args := #[Go.Operand.tmp 36, Go.Operand.tmp 47], argTypes := #[24, 24] }, 24, none⟩, true, false, false⟩,
            ⟨⟨some 6, Go.Op.assign (Go.Operand.tmp 48), 24, none⟩, false, false, false⟩]))
        (.region [⟨some 34, Go.Op.move (Go.Operand.tmp 7), 3, none⟩,
          ⟨some 35, Go.Op.binOp Go.BinOp.add 3 (Go.Operand.tmp 34) (Go.Operand.const (Go.Value.int Go.IntKind.i64 1)) 3, 3, none⟩,
          ⟨some 7, Go.Op.assign (Go.Operand.tmp 35), 3, none⟩]))))))
    (.seq (.region [⟨some 49, Go.Op.move (Go.Operand.tmp 6), 24, none⟩,
      ⟨some 2, Go.Op.assign (Go.Operand.tmp 49), 24, none⟩])
    .ret))))))))) :=
  ⟨foll, Tryd.f5, Tryd.func5, by kernel_rfl, by kernel_rfl, by kernel_rfl, by rw [Tryd.ntmps5]; decide⟩

/-- narrator.rulesyntax.Check -/
theorem fn6 : FnIs Tryd.prog 6 1 [Go.ResultVar.tmp 2] (.seq (.region [⟨some 2, Go.Op.assign (Go.Operand.const (Go.Value.int Go.IntKind.i64 0)), 26, none⟩])
    (.seq (.seq (.region [⟨some 7, Go.Op.move (Go.Operand.tmp 0), 22, none⟩,
      ⟨some 8, Go.Op.call { callee := Go.Callee.builtin Go.Builtin.len, args := #[Go.Operand.tmp 7], argTypes := #[22] }, 3, none⟩,
      ⟨some 9, Go.Op.binOp Go.BinOp.gtr 3 (Go.Operand.tmp 8) (Go.Operand.const (Go.Value.int Go.IntKind.i64 16)) 3, 4, none⟩])
    (.cond (Go.Operand.tmp 9)
      (.seq (.region [⟨some 2, Go.Op.assign (Go.Operand.const (Go.Value.int Go.IntKind.i64 5)), 26, none⟩])
      .ret)
      .skip))
    (.seq (.region [⟨some 10, Go.Op.makeMap 38 none, 38, none⟩,
      ⟨some 3, Go.Op.assign (Go.Operand.tmp 10), 38, none⟩])
    (.seq (.seq (.region [⟨some 11, Go.Op.move (Go.Operand.tmp 0), 22, none⟩,
      ⟨some 12, Go.Op.call { callee := Go.Callee.builtin Go.Builtin.len, args := #[Go.Operand.tmp 11], argTypes := #[22] }, 3, none⟩,
      ⟨some 13, Go.Op.move (Go.Operand.const (Go.Value.int Go.IntKind.i64 0)), 3, none⟩])
    (.block 0
      (.loop
        (.seq (.region [⟨some 14, Go.Op.binOp Go.BinOp.lss 3 (Go.Operand.tmp 13) (Go.Operand.tmp 12) 3, 0, none⟩])
        (.seq (.cond (Go.Operand.tmp 14)
          .skip
          (.exit 0))
        (.seq (.block 1
          (.seq (.region [⟨some 15, Go.Op.indexAddr 22 (Go.Operand.tmp 11) (Go.Operand.tmp 13), 0, none⟩,
            ⟨some 16, Go.Op.load 31 (Go.Operand.tmp 15), 31, none⟩,
            ⟨some 5, Go.Op.alloc 31, 0, none⟩,
            ⟨none, Go.Op.store 31 (Go.Operand.tmp 5) (Go.Operand.tmp 16), 0, none⟩])
          (.seq (.seq (.region [⟨some 17, Go.Op.fieldAddr 31 (Go.Operand.tmp 5) 0, 0, none⟩,
            ⟨some 18, Go.Op.load 9 (Go.Operand.tmp 17), 9, none⟩,
            ⟨some 19, Go.Op.call { callee := Go.Callee.value (Go.Operand.func 11), args := #[Go.Operand.tmp 18], argTypes := #[9] }, 4, none⟩,
            ⟨some 20, Go.Op.unOp Go.UnOp.not 4 (Go.Operand.tmp 19), 4, none⟩])
          (.cond (Go.Operand.tmp 20)
            (.seq (.region [⟨some 2, Go.Op.assign (Go.Operand.const (Go.Value.int Go.IntKind.i64 6)), 26, none⟩])
            .ret)
            .skip))
          (.seq (.seq (.region [⟨some 21, Go.Op.move (Go.Operand.tmp 3), 38, none⟩,
            ⟨some 22, Go.Op.fieldAddr 31 (Go.Operand.tmp 5) 0, 0, none⟩,
            ⟨some 23, Go.Op.load 9 (Go.Operand.tmp 22), 9, none⟩,
            ⟨some 24, Go.Op.lookup 38 (Go.Operand.tmp 21) (Go.Operand.tmp 23) false, 4, none⟩])
          (.cond (Go.Operand.tmp 24)
            (.seq (.region [⟨some 2, Go.Op.assign (Go.Operand.const (Go.Value.int Go.IntKind.i64 7)), 26, none⟩])
            .ret)
            .skip))
          (.seq (.region [⟨some 25, Go.Op.move (Go.Operand.tmp 3), 38, none⟩,
            ⟨some 26, Go.Op.fieldAddr 31 (Go.Operand.tmp 5) 0, 0, none⟩,
            ⟨some 27, Go.Op.load 9 (Go.Operand.tmp 26), 9, none⟩,
            ⟨none, Go.Op.mapUpdate 38 (Go.Operand.tmp 25) (Go.Operand.tmp 27) (Go.Operand.const (Go.Value.bool true)), 0, none⟩])
          (.seq (.region [⟨some 28, Go.Op.load 31 (Go.Operand.tmp 5), 31, none⟩,
            ⟨some 29, Go.Op.call { callee := Go.Callee.value (Go.Operand.func 12), args := #[Go.Operand.tmp 28], argTypes := #[31] }, 26, none⟩,
            ⟨some 6, Go.Op.assign (Go.Operand.tmp 29), 26, none⟩])
          (.seq (.region [⟨some 30, Go.Op.move (Go.Operand.tmp 6), 26, none⟩,
            ⟨some 31, Go.Op.binOp Go.BinOp.neq 26 (Go.Operand.tmp 30) (Go.Operand.const (Go.Value.int Go.IntKind.i64 0)) 26, 4, none⟩])
          (.cond (Go.Operand.tmp 31)
            (.seq (.region [⟨some 32, Go.Op.move (Go.Operand.tmp 6), 26, none⟩,
              ⟨some 2, Go.Op.assign (Go.Operand.tmp 32), 26, none⟩])
            .ret)
            .skip))))))))
        (.region [⟨some 33, Go.Op.binOp Go.BinOp.add 3 (Go.Operand.tmp 13) (Go.Operand.const (Go.Value.int Go.IntKind.i64 1)) 3, 3, none⟩,
          ⟨some 13, Go.Op.move (Go.Operand.tmp 33), 3, none⟩])))))))
    (.seq (.region [⟨some 2, Go.Op.assign (Go.Operand.const (Go.Value.int Go.IntKind.i64 0)), 26, none⟩])
    .ret))))) :=
  ⟨foll, Tryd.f6, Tryd.func6, by kernel_rfl, by kernel_rfl, by kernel_rfl, by rw [Tryd.ntmps6]; decide⟩

/-- narrator.narratorref35.SameSpans -/
theorem fn7 : FnIs Tryd.prog 7 2 [Go.ResultVar.tmp 4] (.seq (.region [⟨some 4, Go.Op.assign (Go.Operand.const (Go.Value.bool false)), 4, none⟩])
    (.seq (.seq (.region [⟨some 6, Go.Op.move (Go.Operand.tmp 0), 24, none⟩,
      ⟨some 7, Go.Op.call { callee := Go.Callee.builtin Go.Builtin.len, args := #[Go.Operand.tmp 6], argTypes := #[24] }, 3, none⟩,
      ⟨some 8, Go.Op.move (Go.Operand.tmp 1), 24, none⟩,
      ⟨some 9, Go.Op.call { callee := Go.Callee.builtin Go.Builtin.len, args := #[Go.Operand.tmp 8], argTypes := #[24] }, 3, none⟩,
      ⟨some 10, Go.Op.binOp Go.BinOp.neq 3 (Go.Operand.tmp 7) (Go.Operand.tmp 9) 3, 4, none⟩])
    (.cond (Go.Operand.tmp 10)
      (.seq (.region [⟨some 4, Go.Op.assign (Go.Operand.const (Go.Value.bool false)), 4, none⟩])
      .ret)
      .skip))
    (.seq (.seq (.region [⟨some 5, Go.Op.assign (Go.Operand.const (Go.Value.int Go.IntKind.i64 0)), 3, none⟩])
    (.block 0
      (.loop
        (.seq (.seq (.region [⟨some 11, Go.Op.move (Go.Operand.tmp 5), 3, none⟩,
          ⟨some 12, Go.Op.move (Go.Operand.tmp 0), 24, none⟩,
          ⟨some 13, Go.Op.call { callee := Go.Callee.builtin Go.Builtin.len, args := #[Go.Operand.tmp 12], argTypes := #[24] }, 3, none⟩,
          ⟨some 14, Go.Op.binOp Go.BinOp.lss 3 (Go.Operand.tmp 11) (Go.Operand.tmp 13) 3, 4, none⟩])
        (.cond (Go.Operand.tmp 14)
          .skip
          (.exit 0)))
        (.seq (.block 1
          (.seq (.draw [⟨⟨some 17, Go.Op.move (Go.Operand.tmp 0), 24, none⟩, false, false, false⟩,
            ⟨⟨some 18, Go.Op.move (Go.Operand.tmp 5), 3, none⟩, false, false, false⟩,
            ⟨⟨some 19, Go.Op.indexAddr 24 (Go.Operand.tmp 17) (Go.Operand.tmp 18), 0, none⟩, false, false, false⟩,
            ⟨⟨some 20, Go.Op.load 29 (Go.Operand.tmp 19), 29, none⟩, false, false, false⟩,
            ⟨⟨some 21, Go.Op.move (Go.Operand.tmp 1), 24, none⟩, false, false, false⟩,
            ⟨⟨some 22, Go.Op.move (Go.Operand.tmp 5), 3, none⟩, false, false, false⟩,
            ⟨⟨some 23, Go.Op.indexAddr 24 (Go.Operand.tmp 21) (Go.Operand.tmp 22), 0, none⟩, false, false, false⟩,
            ⟨⟨some 24, Go.Op.load 29 (Go.Operand.tmp 23), 29, none⟩, false, false, false⟩,
            ⟨⟨some 25, Go.Op.binOp Go.BinOp.neq 29 (Go.Operand.tmp 20) (Go.Operand.tmp 24) 29, 4, none⟩, false, false, false⟩])
          (.cond (Go.Operand.tmp 25)
            (.seq (.region [⟨some 4, Go.Op.assign (Go.Operand.const (Go.Value.bool false)), 4, none⟩])
            .ret)
            .skip)))
        (.region [⟨some 15, Go.Op.move (Go.Operand.tmp 5), 3, none⟩,
          ⟨some 16, Go.Op.binOp Go.BinOp.add 3 (Go.Operand.tmp 15) (Go.Operand.const (Go.Value.int Go.IntKind.i64 1)) 3, 3, none⟩,
          ⟨some 5, Go.Op.assign (Go.Operand.tmp 16), 3, none⟩]))))))
    (.seq (.region [⟨some 4, Go.Op.assign (Go.Operand.const (Go.Value.bool true)), 4, none⟩])
    .ret)))) :=
  ⟨foll, Tryd.f7, Tryd.func7, by kernel_rfl, by kernel_rfl, by kernel_rfl, by rw [Tryd.ntmps7]; decide⟩

/-- narrator.rulesyntax.name -/
theorem fn11 : FnIs Tryd.prog 11 1 [Go.ResultVar.tmp 2] (.seq (.region [⟨some 2, Go.Op.assign (Go.Operand.const (Go.Value.bool false)), 4, none⟩])
    (.seq (.seq (.region [⟨some 4, Go.Op.move (Go.Operand.tmp 0), 9, none⟩,
      ⟨some 5, Go.Op.binOp Go.BinOp.eql 9 (Go.Operand.tmp 4) (Go.Operand.const (Go.Value.string { data := #[] })) 9, 4, none⟩,
      ⟨some 6, Go.Op.move (Go.Operand.tmp 5), 4, none⟩,
      ⟨some 7, Go.Op.move (Go.Operand.tmp 0), 9, (some (6, false))⟩,
      ⟨some 8, Go.Op.call { callee := Go.Callee.builtin Go.Builtin.len, args := #[Go.Operand.tmp 7], argTypes := #[9] }, 3, (some (6, false))⟩,
      ⟨some 9, Go.Op.binOp Go.BinOp.gtr 3 (Go.Operand.tmp 8) (Go.Operand.const (Go.Value.int Go.IntKind.i64 16)) 3, 4, (some (6, false))⟩,
      ⟨some 10, Go.Op.pick (Go.Operand.tmp 6) (Go.Operand.const (Go.Value.bool true)) (Go.Operand.tmp 9), 4, none⟩,
      ⟨some 11, Go.Op.move (Go.Operand.tmp 10), 4, none⟩,
      ⟨some 12, Go.Op.move (Go.Operand.tmp 0), 9, (some (11, false))⟩,
      ⟨some 13, Go.Op.slice 9 (Go.Operand.tmp 12) none (some (Go.Operand.const (Go.Value.int Go.IntKind.i64 1))) none, 9, (some (11, false))⟩,
      ⟨some 14, Go.Op.call { callee := Go.Callee.value (Go.Operand.func 20), args := #[Go.Operand.const (Go.Value.string { data := #[97, 98, 99, 100, 101, 102, 103, 104, 105, 106, 107, 108, 109, 110, 111, 112, 113, 114, 115, 116, 117, 118, 119, 120, 121, 122] }), Go.Operand.tmp 13], argTypes := #[9, 9] }, 4, (some (11, false))⟩,
      ⟨some 15, Go.Op.unOp Go.UnOp.not 4 (Go.Operand.tmp 14), 4, (some (11, false))⟩,
      ⟨some 16, Go.Op.pick (Go.Operand.tmp 11) (Go.Operand.const (Go.Value.bool true)) (Go.Operand.tmp 15), 4, none⟩])
    (.cond (Go.Operand.tmp 16)
      (.seq (.region [⟨some 2, Go.Op.assign (Go.Operand.const (Go.Value.bool false)), 4, none⟩])
      .ret)
      .skip))
    (.seq (.seq (.region [⟨some 17, Go.Op.move (Go.Operand.tmp 0), 9, none⟩,
      ⟨some 18, Go.Op.call { callee := Go.Callee.builtin Go.Builtin.len, args := #[Go.Operand.tmp 17], argTypes := #[9] }, 3, none⟩,
      ⟨some 19, Go.Op.move (Go.Operand.const (Go.Value.int Go.IntKind.i64 0)), 3, none⟩])
    (.block 0
      (.loop
        (.seq (.region [⟨some 20, Go.Op.binOp Go.BinOp.lss 3 (Go.Operand.tmp 19) (Go.Operand.tmp 18) 3, 4, none⟩])
        (.seq (.cond (Go.Operand.tmp 20)
          .skip
          (.exit 0))
        (.seq (.block 1
          (.seq (.region [⟨some 21, Go.Op.move (Go.Operand.tmp 19), 3, none⟩,
            ⟨some 3, Go.Op.assign (Go.Operand.tmp 21), 3, none⟩])
          (.seq (.region [⟨some 22, Go.Op.move (Go.Operand.tmp 0), 9, none⟩,
            ⟨some 23, Go.Op.move (Go.Operand.tmp 3), 3, none⟩,
            ⟨some 24, Go.Op.move (Go.Operand.tmp 3), 3, none⟩,
            ⟨some 25, Go.Op.binOp Go.BinOp.add 3 (Go.Operand.tmp 24) (Go.Operand.const (Go.Value.int Go.IntKind.i64 1)) 3, 3, none⟩,
            ⟨some 26, Go.Op.slice 9 (Go.Operand.tmp 22) (some (Go.Operand.tmp 23)) (some (Go.Operand.tmp 25)) none, 9, none⟩,
            ⟨some 27, Go.Op.call { callee := Go.Callee.value (Go.Operand.func 20), args := #[Go.Operand.const (Go.Value.string { data := #[97, 98, 99, 100, 101, 102, 103, 104, 105, 106, 107, 108, 109, 110, 111, 112, 113, 114, 115, 116, 117, 118, 119, 120, 121, 122, 48, 49, 50, 51, 52, 53, 54, 55, 56, 57, 45] }), Go.Operand.tmp 26], argTypes := #[9, 9] }, 4, none⟩,
            ⟨some 28, Go.Op.unOp Go.UnOp.not 4 (Go.Operand.tmp 27), 4, none⟩])
          (.cond (Go.Operand.tmp 28)
            (.seq (.region [⟨some 2, Go.Op.assign (Go.Operand.const (Go.Value.bool false)), 4, none⟩])
            .ret)
            .skip))))
        (.region [⟨some 29, Go.Op.binOp Go.BinOp.add 3 (Go.Operand.tmp 19) (Go.Operand.const (Go.Value.int Go.IntKind.i64 1)) 3, 3, none⟩,
          ⟨some 19, Go.Op.move (Go.Operand.tmp 29), 3, none⟩])))))))
    (.seq (.region [⟨some 2, Go.Op.assign (Go.Operand.const (Go.Value.bool true)), 4, none⟩])
    .ret)))) :=
  ⟨foll, Tryd.f11, Tryd.func11, by kernel_rfl, by kernel_rfl, by kernel_rfl, by rw [Tryd.ntmps11]; decide⟩

/-- narrator.rulesyntax.check -/
theorem fn12 : FnIs Tryd.prog 12 1 [Go.ResultVar.tmp 2] (.seq (.region [⟨some 1, Go.Op.box 31 (Go.Operand.tmp 0), 0, none⟩,
      ⟨some 2, Go.Op.assign (Go.Operand.const (Go.Value.int Go.IntKind.i64 0)), 26, none⟩])
    (.seq (.block 0
      (.seq (.block 4
        (.seq (.block 3
          (.block 2
            (.seq (.block 1
              (.seq (.seq (.seq (.region [⟨some 6, Go.Op.fieldAddr 31 (Go.Operand.tmp 1) 4, 0, none⟩,
                ⟨some 7, Go.Op.load 3 (Go.Operand.tmp 6), 3, none⟩,
                ⟨some 8, Go.Op.binOp Go.BinOp.lss 3 (Go.Operand.tmp 7) (Go.Operand.const (Go.Value.int Go.IntKind.i64 1)) 3, 4, none⟩,
                ⟨some 9, Go.Op.move (Go.Operand.tmp 8), 4, none⟩,
                ⟨some 10, Go.Op.fieldAddr 31 (Go.Operand.tmp 1) 4, 0, (some (9, false))⟩,
                ⟨some 11, Go.Op.load 3 (Go.Operand.tmp 10), 3, (some (9, false))⟩,
                ⟨some 12, Go.Op.binOp Go.BinOp.gtr 3 (Go.Operand.tmp 11) (Go.Operand.const (Go.Value.int Go.IntKind.i64 3)) 3, 4, (some (9, false))⟩,
                ⟨some 13, Go.Op.pick (Go.Operand.tmp 9) (Go.Operand.const (Go.Value.bool true)) (Go.Operand.tmp 12), 4, none⟩,
                ⟨some 5, Go.Op.assign (Go.Operand.tmp 13), 4, none⟩])
              (.cond (Go.Operand.tmp 5)
                (.exit 1)
                .skip))
              (.seq (.seq (.region [⟨some 15, Go.Op.fieldAddr 31 (Go.Operand.tmp 1) 2, 0, none⟩,
                ⟨some 16, Go.Op.load 3 (Go.Operand.tmp 15), 3, none⟩,
                ⟨some 17, Go.Op.binOp Go.BinOp.lss 3 (Go.Operand.tmp 16) (Go.Operand.const (Go.Value.int Go.IntKind.i64 0)) 3, 4, none⟩,
                ⟨some 18, Go.Op.move (Go.Operand.tmp 17), 4, none⟩,
                ⟨some 19, Go.Op.fieldAddr 31 (Go.Operand.tmp 1) 2, 0, (some (18, false))⟩,
                ⟨some 20, Go.Op.load 3 (Go.Operand.tmp 19), 3, (some (18, false))⟩,
                ⟨some 21, Go.Op.fieldAddr 31 (Go.Operand.tmp 1) 3, 0, (some (18, false))⟩,
                ⟨some 22, Go.Op.load 3 (Go.Operand.tmp 21), 3, (some (18, false))⟩,
                ⟨some 23, Go.Op.binOp Go.BinOp.geq 3 (Go.Operand.tmp 20) (Go.Operand.tmp 22) 3, 4, (some (18, false))⟩,
                ⟨some 24, Go.Op.pick (Go.Operand.tmp 18) (Go.Operand.const (Go.Value.bool true)) (Go.Operand.tmp 23), 4, none⟩,
                ⟨some 25, Go.Op.move (Go.Operand.tmp 24), 4, none⟩,
                ⟨some 26, Go.Op.fieldAddr 31 (Go.Operand.tmp 1) 3, 0, (some (25, false))⟩,
                ⟨some 27, Go.Op.load 3 (Go.Operand.tmp 26), 3, (some (25, false))⟩,
                ⟨some 28, Go.Op.binOp Go.BinOp.gtr 3 (Go.Operand.tmp 27) (Go.Operand.const (Go.Value.int Go.IntKind.i64 60)) 3, 4, (some (25, false))⟩,
                ⟨some 29, Go.Op.pick (Go.Operand.tmp 25) (Go.Operand.const (Go.Value.bool true)) (Go.Operand.tmp 28), 4, none⟩,
                ⟨some 14, Go.Op.assign (Go.Operand.tmp 29), 4, none⟩])
              (.cond (Go.Operand.tmp 14)
                (.exit 2)
                .skip))
              (.seq (.seq (.region [⟨some 31, Go.Op.fieldAddr 31 (Go.Operand.tmp 1) 5, 0, none⟩,
                ⟨some 32, Go.Op.load 3 (Go.Operand.tmp 31), 3, none⟩,
                ⟨some 33, Go.Op.binOp Go.BinOp.lss 3 (Go.Operand.tmp 32) (Go.Operand.const (Go.Value.int Go.IntKind.i64 0)) 3, 4, none⟩,
                ⟨some 34, Go.Op.move (Go.Operand.tmp 33), 4, none⟩,
                ⟨some 35, Go.Op.fieldAddr 31 (Go.Operand.tmp 1) 5, 0, (some (34, false))⟩,
                ⟨some 36, Go.Op.load 3 (Go.Operand.tmp 35), 3, (some (34, false))⟩,
                ⟨some 37, Go.Op.binOp Go.BinOp.gtr 3 (Go.Operand.tmp 36) (Go.Operand.const (Go.Value.int Go.IntKind.i64 60000)) 3, 4, (some (34, false))⟩,
                ⟨some 38, Go.Op.pick (Go.Operand.tmp 34) (Go.Operand.const (Go.Value.bool true)) (Go.Operand.tmp 37), 4, none⟩,
                ⟨some 39, Go.Op.move (Go.Operand.tmp 38), 4, none⟩,
                ⟨some 40, Go.Op.fieldAddr 31 (Go.Operand.tmp 1) 5, 0, (some (39, false))⟩,
                ⟨some 41, Go.Op.load 3 (Go.Operand.tmp 40), 3, (some (39, false))⟩,
                ⟨some 42, Go.Op.binOp Go.BinOp.gtr 3 (Go.Operand.tmp 41) (Go.Operand.const (Go.Value.int Go.IntKind.i64 0)) 3, 4, (some (39, false))⟩,
                ⟨some 43, Go.Op.move (Go.Operand.tmp 42), 4, (some (39, false))⟩,
                ⟨some 44, Go.Op.fieldAddr 31 (Go.Operand.tmp 1) 4, 0, (some (43, true))⟩,
                ⟨some 45, Go.Op.load 3 (Go.Operand.tmp 44), 3, (some (43, true))⟩,
                ⟨some 46, Go.Op.binOp Go.BinOp.neq 3 (Go.Operand.tmp 45) (Go.Operand.const (Go.Value.int Go.IntKind.i64 3)) 3, 4, (some (43, true))⟩,
                ⟨some 47, Go.Op.pick (Go.Operand.tmp 43) (Go.Operand.tmp 46) (Go.Operand.const (Go.Value.bool false)), 4, (some (39, false))⟩,
                ⟨some 48, Go.Op.pick (Go.Operand.tmp 39) (Go.Operand.const (Go.Value.bool true)) (Go.Operand.tmp 47), 4, none⟩,
                ⟨some 30, Go.Op.assign (Go.Operand.tmp 48), 4, none⟩])
              (.cond (Go.Operand.tmp 30)
                (.exit 3)
                .skip))
              (.seq (.region [⟨some 50, Go.Op.fieldAddr 31 (Go.Operand.tmp 1) 1, 0, none⟩,
                ⟨some 51, Go.Op.load 9 (Go.Operand.tmp 50), 9, none⟩,
                ⟨some 52, Go.Op.call { callee := Go.Callee.value (Go.Operand.func 20), args := #[Go.Operand.tmp 51, Go.Operand.const (Go.Value.string { data := #[10] })], argTypes := #[9, 9] }, 4, none⟩,
                ⟨some 49, Go.Op.assign (Go.Operand.tmp 52), 4, none⟩])
              (.cond (Go.Operand.tmp 49)
                (.exit 4)
                .skip)))))
              (.exit 0)))
            (.seq (.seq (.region [⟨some 2, Go.Op.assign (Go.Operand.const (Go.Value.int Go.IntKind.i64 9)), 26, none⟩])
            .ret)
            (.exit 0)))))
        (.seq (.seq (.region [⟨some 2, Go.Op.assign (Go.Operand.const (Go.Value.int Go.IntKind.i64 2)), 26, none⟩])
        .ret)
        (.exit 0))))
      (.seq (.seq (.region [⟨some 2, Go.Op.assign (Go.Operand.const (Go.Value.int Go.IntKind.i64 3)), 26, none⟩])
      .ret)
      (.exit 0))))
    (.seq (.region [⟨some 54, Go.Op.fieldAddr 31 (Go.Operand.tmp 1) 1, 0, none⟩,
      ⟨some 55, Go.Op.load 9 (Go.Operand.tmp 54), 9, none⟩,
      ⟨some 56, Go.Op.call { callee := Go.Callee.value (Go.Operand.func 16), args := #[Go.Operand.tmp 55], argTypes := #[9] }, 47, none⟩,
      ⟨some 53, Go.Op.move (Go.Operand.tmp 56), 47, none⟩,
      ⟨some 57, Go.Op.extract (Go.Operand.tmp 53) 0, 46, none⟩,
      ⟨some 58, Go.Op.extract (Go.Operand.tmp 53) 1, 26, none⟩,
      ⟨some 3, Go.Op.alloc 46, 0, none⟩,
      ⟨none, Go.Op.store 46 (Go.Operand.tmp 3) (Go.Operand.tmp 57), 0, none⟩,
      ⟨some 4, Go.Op.assign (Go.Operand.tmp 58), 26, none⟩])
    (.seq (.region [⟨some 59, Go.Op.move (Go.Operand.tmp 4), 26, none⟩,
      ⟨some 2, Go.Op.assign (Go.Operand.tmp 59), 26, none⟩])
    .ret)))) :=
  ⟨foll, Tryd.f12, Tryd.func12, by kernel_rfl, by kernel_rfl, by kernel_rfl, by rw [Tryd.ntmps12]; decide⟩

end Go.Proofs.YtefpcfooahogkaaDoor
/- Calls of the library by its contracts. -/


set_option linter.unusedVariables false
set_option linter.unusedSimpArgs false
namespace Nv
open Go Go.RowKit

def sc : AV → Bool
  | .d (.int _ _) => true
  | .d (.bool _) => true
  | .d (.str _) => true
  | _ => false
def scv : AV → Value
  | .d (.int k n) => .int k n
  | .d (.bool b) => .bool b
  | .d (.str s) => .string ⟨s.toArray⟩
  | _ => undef

section
variable {P : Program} {ρ ρ' : RHO} {σ σ' : ST} {I I' : Nat → Prop} {w w' : World}

theorem sc_inv {a : AV} {v : Value} (h : sc a = true) (hv : V ρ σ I w a v) : v = scv a := by
  cases hv <;> try (simp [sc] at h; done)
  rename_i x hx
  cases x <;> simp [sc] at h
  · exact hx.int_inv
  · exact hx.bool_inv
  · exact hx.str_inv
theorem sc_V (ρ : RHO) (σ : ST) (I : Nat → Prop) (w : World) {a : AV} (h : sc a = true) : V ρ σ I w a (scv a) := by
  cases a <;> simp [sc] at h
  rename_i x
  cases x <;> simp [sc] at h
  · exact .d (.int _ _)
  · exact .d (.bool _)
  · exact .d (.str _)

theorem scs_inv {args : List AV} {vs : Array Value} (h : args.all sc = true) (hv : VL ρ σ I w args vs) : vs = (args.map scv).toArray := by
  apply Array.ext
  · simp [hv.1]
  · intro i h1 h2
    have hl : i < args.length := by rw [hv.1]; exact h1
    have := sc_inv (List.all_eq_true.1 h _ (List.getElem_mem hl)) (hv.2 i _ (List.getElem?_eq_getElem hl))
    simp only [Array.getD_eq_getD_getElem?, h1, Array.getElem?_eq_getElem, Option.getD_some] at this
    simp [this]

theorem Step.heap (h : w'.heap = w.heap) (ha : Around w w') : Step ρ I w σ ρ I w' σ :=
  ⟨fun _ _ _ => by rw [h], fun _ h => h, fun _ h => .inl h, fun _ h => .inl h, by rw [h]; exact Nat.le_refl _, fun b blk h => ⟨blk, h, Compat.refl _ _⟩, ha⟩
theorem RS.heap (hr : RS P ρ I w σ) (h : w'.heap = w.heap) (ha : Around w w') : RS P ρ I w' σ :=
  ⟨fun i blk hi => RB.heap h (hr.blk i blk hi) hr (Step.heap h ha), hr.inj, hr.sep, fun B hB => by rw [h]; exact hr.bound B hB, (Step.heap h ha).tabs hr⟩

/-- A contract over worlds, at arguments and a result that hold no address: the heap is avl it was. -/
theorem PCall.of_calls {f : FuncId} {args : List AV} {r : AV} (ha : args.all sc = true) (hr : sc r = true)
    (h : ∀ w : World, Calls P f (args.map scv).toArray w fun e w' => e = .returned (scv r) ∧ w'.heap = w.heap ∧ Around w w') : PCall P f args r := by
  intro σ ρ I w vs hrs hv
  rw [scs_inv ha hv]
  refine (h w).mono ?_
  rintro e w' ⟨rfl, hh, ha⟩
  exact ⟨ρ, I, σ, .ret r, Step.heap hh ha, hrs.heap hh ha, sc_V _ _ _ _ hr, rfl, rfl⟩

/-- A contract over worlds that hold the program's tables; the heap may grow. -/
theorem PCall.of_callsT {f : FuncId} {args : List AV} {r : AV} (ha : args.all sc = true) (hr : sc r = true)
    (h : ∀ (w : World) (I : Nat → Prop), Tabs P I w → Calls P f (args.map scv).toArray w fun e w' => e = .returned (scv r) ∧ Below w.heap.size w w') : PCall P f args r := by
  intro σ ρ I w vs hrs hv
  rw [scs_inv ha hv]
  refine (h w I hrs.tabs).mono ?_
  rintro e w' ⟨rfl, hb⟩
  have hx : Ext w w' := ⟨hb.size, ⟨hb.os, hb.tape, hb.output⟩⟩
  exact ⟨ρ, I, σ, .ret r, Step.more hx hb.block, hrs.more hx hb.block, sc_V _ _ _ _ hr, rfl, rfl⟩

theorem PCall.of_calls' {f : FuncId} {args : List AV} {r : AV} (ha : args.all sc = true) (hr : sc r = true)
    (h : ∀ w : World, Calls P f (args.map scv).toArray w fun e w' => e = .returned (scv r) ∧ w' = w) : PCall P f args r :=
  .of_calls ha hr fun w => (h w).mono fun e w' ⟨h1, h2⟩ => ⟨h1, by rw [h2], h2 ▸ Around.refl w⟩
end
end Nv
namespace Go.Proofs.YtefpcfooahogkaaDoor
open Go.Shelf
def Tryd.lays144_ren : Go.Shelf.Ren := ⟨fun | 144 => 20 | 143 => 40 | 219 => 57 | 217 => 63 | 225 => 64 | 224 => 65 | 267 => 66 | 266 => 71 | 314 => 72 | n => n, fun | 9 => 9 | 4 => 4 | 3 => 3 | 5 => 5 | 46 => 53 | 146 => 116 | 51 => 80 | n => n, fun | 1 => 2 | n => n⟩
theorem Tryd.lays144 : Go.Proofs.Lays.n144 Tryd.prog Tryd.lays144_ren where
  mixed := by kernel_rfl
  f143 := Tryd.func40.trans (congrArg some (by kernel_rfl))
  f144 := Tryd.func20.trans (congrArg some (by kernel_rfl))
  f217 := Tryd.func63.trans (congrArg some (by kernel_rfl))
  f219 := Tryd.func57.trans (congrArg some (by kernel_rfl))
  f224 := Tryd.func65.trans (congrArg some (by kernel_rfl))
  f225 := Tryd.func64.trans (congrArg some (by kernel_rfl))
  f266 := Tryd.func71.trans (congrArg some (by kernel_rfl))
  f267 := Tryd.func66.trans (congrArg some (by kernel_rfl))
  f314 := Tryd.func72.trans (congrArg some (by kernel_rfl))
  t3 := Tryd.underlying3
  a3 := Tryd.isAgg3
  z3 := Tryd.sizeOf3
  v3 := Tryd.zeroValue3
  t4 := Tryd.underlying4
  a4 := Tryd.isAgg4
  z4 := Tryd.sizeOf4
  v4 := Tryd.zeroValue4
  t5 := Tryd.underlying5
  a5 := Tryd.isAgg5
  z5 := Tryd.sizeOf5
  v5 := Tryd.zeroValue5
  t9 := Tryd.underlying9
  a9 := Tryd.isAgg9
  z9 := Tryd.sizeOf9
  v9 := Tryd.zeroValue9
  t46 := Tryd.underlying53
  a46 := Tryd.isAgg53
  z46 := Tryd.sizeOf53
  v46 := Tryd.zeroValue53
  t51 := Tryd.underlying80
  a51 := Tryd.isAgg80
  z51 := Tryd.sizeOf80
  v51 := Tryd.zeroValue80
  t146 := Tryd.underlying116
  a146 := Tryd.isAgg116
  z146 := Tryd.sizeOf116
  v146 := Tryd.zeroValue116
  g1 := by kernel_rfl
open Go.RowKit Go.Lib Nv
theorem contains_one (s : List UInt8) (c : UInt8) : PCall Tryd.prog 20 [.d (.str s), .d (.str [c])] (.d (.bool (decide (0 ≤ Lib.indexByte s c)))) :=
  .of_calls' rfl rfl fun w => Any.strings_Contains_one Tryd.lays144 ⟨s.toArray⟩ c w
end Go.Proofs.YtefpcfooahogkaaDoor
/- Rules, and the bands of rows that they make: plain, no program. -/


set_option linter.unusedVariables false
set_option linter.unusedSimpArgs false
namespace Rul
open Go

structure Rule where
  name : List UInt8
  pat : List UInt8
  lo : Int
  hi : Int
  cls : Int
  wait : Int
  deriving DecidableEq, Inhabited

/-- The letters, and what may stand in a name. -/
def letters : List UInt8 := [97, 98, 99, 100, 101, 102, 103, 104, 105, 106, 107, 108, 109, 110, 111, 112, 113, 114, 115, 116, 117, 118, 119, 120, 121, 122]
def signs : List UInt8 := letters ++ [48, 49, 50, 51, 52, 53, 54, 55, 56, 57] ++ [45]
def isIn (l : List UInt8) (c : UInt8) : Bool := decide (0 ≤ Lib.indexByte l c)
def nameB (s : List UInt8) : Bool := match s with
  | [] => false
  | c :: _ => decide (s.length ≤ 16) && isIn letters c && s.all (isIn signs)
def rangeBad (r : Rule) : Bool := decide (r.lo < 0) || decide (r.hi ≤ r.lo) || decide (60 < r.hi)
def waitBad (r : Rule) : Bool := decide (r.wait < 0) || decide (60000 < r.wait) || (decide (0 < r.wait) && !decide (r.cls = 3))
/-- The error of a rule but for its name; pe is that of its pattern. -/
def ruleE (pe : List UInt8 → Int) (r : Rule) : Int :=
  if r.cls < 1 ∨ 3 < r.cls then 9
  else if rangeBad r = true ∨ waitBad r = true then 2
  else if isIn r.pat 10 = true then 3
  else pe r.pat
def chkFrom (pe : List UInt8 → Int) (used : List (List UInt8)) : List Rule → Int
  | [] => 0
  | r :: l => if nameB r.name = false then 6 else if r.name ∈ used then 7 else if ruleE pe r = 0 then chkFrom pe (used ++ [r.name]) l else ruleE pe r
def chkR (pe : List UInt8 → Int) (l : List Rule) : Int := if 16 < l.length then 5 else chkFrom pe [] l

theorem range_of {pe : List UInt8 → Int} : ∀ (l : List Rule) (used : List (List UInt8)), chkFrom pe used l = 0 → ∀ r, r ∈ l → 0 ≤ r.lo ∧ r.lo < r.hi ∧ r.hi ≤ 60
  | [], _, _, r, h => by cases h
  | x :: l, used, h, r, hr => by
    unfold chkFrom at h
    split at h
    · omega
    · split at h
      · omega
      · split at h
        · rename_i h3
          rcases List.mem_cons.1 hr with rfl | hr
          · unfold ruleE at h3
            split at h3
            · omega
            · split at h3
              · omega
              · rename_i hb
                simp only [rangeBad, Bool.or_eq_true, decide_eq_true_eq] at hb
                omega
          · exact range_of l _ h r hr
        · rename_i h3; exact absurd h h3
theorem range_ok {pe : List UInt8 → Int} {l : List Rule} (h : chkR pe l = 0) : ∀ r, r ∈ l → 0 ≤ r.lo ∧ r.lo < r.hi ∧ r.hi ≤ 60 := by
  unfold chkR at h
  split at h
  · omega
  · exact range_of l _ h

/-- The cuts in ascending order, each once. -/
def cutsOf (l : List Rule) : List Int := [0, 60] ++ l.flatMap fun r => [r.lo, r.hi]
def sortI (l : List Int) : List Int := l.mergeSort fun x y => decide (x ≤ y)
def cuts (l : List Rule) : List Int := Lib.compact (sortI (cutsOf l))
def spans : List Int → List (Int × Int)
  | a :: b :: l => (a, b) :: spans (b :: l)
  | _ => []
def bandsR (pe : List UInt8 → Int) (l : List Rule) : List (Int × Int) := if chkR pe l = 0 then spans (cuts l) else []

theorem sortI_sorted (l : List Int) : List.Pairwise (fun x y : Int => x ≤ y) (sortI l) := by
  have := List.pairwise_mergeSort (le := fun x y : Int => decide (x ≤ y)) (fun a b c h1 h2 => by simp at *; omega) (fun a b => by simp; omega) l
  exact this.imp (fun h => by simpa using h)
theorem mem_sortI {l : List Int} {x : Int} : x ∈ sortI l ↔ x ∈ l := List.mem_mergeSort

theorem sortI_len (l : List Int) : (sortI l).length = l.length := by simp [sortI]
theorem get_arr (l : List Int) (j : Nat) (h : j < l.length) : l.toArray[j]! = l.getD j 0 := by
  rw [getElem!_pos l.toArray j (by simpa using h), List.getD_eq_getElem?_getD, List.getElem?_eq_getElem h]; simp
theorem sorted_get {l : List Int} (h : List.Pairwise (fun x y : Int => x ≤ y) l) {i j : Nat} (hij : i ≤ j) (hj : j < l.length) : l.getD i 0 ≤ l.getD j 0 := by
  rcases Nat.lt_or_eq_of_le hij with hlt | rfl
  · have := List.pairwise_iff_getElem.1 h i j (by omega) hj hlt
    simp only [List.getD_eq_getElem?_getD, List.getElem?_eq_getElem hj, List.getElem?_eq_getElem (show i < l.length by omega), Option.getD_some]
    exact this
  · exact Int.le_refl _
theorem compact_mem {l : List Int} {x : Int} : x ∈ Lib.compact l ↔ x ∈ l := by
  unfold Lib.compact Lib.compactUpTo
  constructor
  · intro h
    obtain ⟨j, hj, rfl⟩ := List.mem_map.1 h
    have hj' : j < l.length := by simpa using (List.mem_filter.1 hj).1
    rw [get_arr l j hj', List.getD_eq_getElem?_getD, List.getElem?_eq_getElem hj']
    exact List.getElem_mem hj'
  · intro h
    obtain ⟨j, hj, rfl⟩ := List.getElem_of_mem h
    have key : ∀ n (hn : n < l.length), l.getD n 0 ∈ ((List.range l.length).filter (Lib.keeps l.toArray)).map (l.toArray[·]!) := by
      intro n
      induction n with
      | zero =>
        intro hn
        exact List.mem_map.2 ⟨0, List.mem_filter.2 ⟨by simpa using hn, by simp [Lib.keeps]⟩, get_arr l 0 hn⟩
      | succ n ih =>
        intro hn
        by_cases hk : Lib.keeps l.toArray (n + 1) = true
        · exact List.mem_map.2 ⟨n + 1, List.mem_filter.2 ⟨by simpa using hn, hk⟩, get_arr l _ hn⟩
        · have he : l.toArray[n + 1]! = l.toArray[n]! := by
            simp only [Lib.keeps, decide_eq_true_eq, Nat.add_sub_cancel, not_or, ne_eq] at hk
            exact Classical.not_not.1 hk.2
          rw [get_arr l _ hn, get_arr l n (by omega)] at he
          rw [he]; exact ih (by omega)
    have := key j hj
    rwa [List.getD_eq_getElem?_getD, List.getElem?_eq_getElem hj] at this
theorem compact_asc {l : List Int} (h : List.Pairwise (fun x y : Int => x ≤ y) l) : List.Pairwise (fun x y : Int => x < y) (Lib.compact l) := by
  unfold Lib.compact Lib.compactUpTo
  rw [List.pairwise_map]
  refine List.Pairwise.imp_of_mem ?_ ((List.pairwise_lt_range (n := l.length)).filter _)
  intro i j hi hj hij
  have hi' : i < l.length := by simpa using (List.mem_filter.1 hi).1
  have hj' : j < l.length := by simpa using (List.mem_filter.1 hj).1
  have hk := (List.mem_filter.1 hj).2
  simp only [Lib.keeps, decide_eq_true_eq] at hk
  have hne : l.toArray[j]! ≠ l.toArray[j - 1]! := hk.resolve_left (by omega)
  rw [get_arr l j hj', get_arr l (j - 1) (by omega)] at hne
  rw [get_arr l j hj', get_arr l i hi']
  have h1 := sorted_get h (show i ≤ j - 1 by omega) (by omega)
  have h2 := sorted_get h (show j - 1 ≤ j by omega) hj'
  omega
theorem asc_get {l : List Int} (h : List.Pairwise (fun x y : Int => x < y) l) {i j : Nat} (hij : i < j) (hj : j < l.length) : l.getD i 0 < l.getD j 0 := by
  have := List.pairwise_iff_getElem.1 h i j (by omega) hj hij
  simp only [List.getD_eq_getElem?_getD, List.getElem?_eq_getElem hj, List.getElem?_eq_getElem (show i < l.length by omega), Option.getD_some]
  exact this
theorem mem_get {l : List Int} {x : Int} (h : x ∈ l) : ∃ j, j < l.length ∧ l.getD j 0 = x := by
  obtain ⟨j, hj, rfl⟩ := List.getElem_of_mem h
  exact ⟨j, hj, by simp [List.getD_eq_getElem?_getD, hj]⟩
theorem get_mem {l : List Int} {j : Nat} (h : j < l.length) : l.getD j 0 ∈ l := by
  rw [List.getD_eq_getElem?_getD, List.getElem?_eq_getElem h]; exact List.getElem_mem h
/-- No cut lies between two that follow each other. -/
theorem gap {l : List Int} (h : List.Pairwise (fun x y : Int => x < y) l) {i : Nat} (hi : i + 1 < l.length) {x : Int} (hx : x ∈ l) : x ≤ l.getD i 0 ∨ l.getD (i + 1) 0 ≤ x := by
  obtain ⟨j, hj, rfl⟩ := mem_get hx
  rcases Nat.lt_or_ge i j with hlt | hge
  · rcases Nat.lt_or_eq_of_le hlt with h2 | h2
    · exact .inr (Int.le_of_lt (asc_get h h2 hj))
    · exact .inr (by rw [← h2]; exact Int.le_refl _)
  · rcases Nat.lt_or_eq_of_le hge with h2 | h2
    · exact .inl (Int.le_of_lt (asc_get h h2 (by omega)))
    · exact .inl (by rw [h2]; exact Int.le_refl _)
theorem spans_len : ∀ l : List Int, (spans l).length = l.length - 1
  | [] => rfl
  | [_] => rfl
  | a :: b :: l => by rw [spans, List.length_cons, spans_len (b :: l)]; simp
theorem spans_get : ∀ (l : List Int) (i : Nat), i + 1 < l.length → (spans l).getD i default = (l.getD i 0, l.getD (i + 1) 0)
  | [], i, h => by simp at h
  | [_], i, h => by simp at h
  | a :: b :: l, 0, h => rfl
  | a :: b :: l, i + 1, h => by
    rw [spans, List.getD_cons_succ, spans_get (b :: l) i (by simp at h ⊢; omega)]; rfl

section
variable {pe : List UInt8 → Int} {l : List Rule} (h : chkR pe l = 0)
theorem cuts_asc (l : List Rule) : List.Pairwise (fun x y : Int => x < y) (cuts l) := compact_asc (sortI_sorted _)
theorem mem_cuts {x : Int} : x ∈ cuts l ↔ x = 0 ∨ x = 60 ∨ ∃ r, r ∈ l ∧ (x = r.lo ∨ x = r.hi) := by
  rw [cuts, compact_mem, mem_sortI, cutsOf]
  simp [List.mem_flatMap]
include h in
theorem cuts_range {x : Int} (hx : x ∈ cuts l) : 0 ≤ x ∧ x ≤ 60 := by
  rcases mem_cuts.1 hx with rfl | rfl | ⟨r, hr, rfl | rfl⟩
  · omega
  · omega
  · have := range_ok h r hr; omega
  · have := range_ok h r hr; omega
theorem cuts_two (l : List Rule) : 2 ≤ (cuts l).length := by
  obtain ⟨i, hi, h0⟩ := mem_get (mem_cuts (l := l).2 (.inl rfl) : (0 : Int) ∈ cuts l)
  obtain ⟨j, hj, h1⟩ := mem_get (mem_cuts (l := l).2 (.inr (.inl rfl)) : (60 : Int) ∈ cuts l)
  have : i ≠ j := fun e => by subst e; omega
  omega
include h in
theorem cuts_first : (cuts l).getD 0 0 = 0 := by
  have h2 := cuts_two l
  obtain ⟨i, hi, h0⟩ := mem_get (mem_cuts (l := l).2 (.inl rfl) : (0 : Int) ∈ cuts l)
  have h3 := cuts_range h (get_mem (show 0 < (cuts l).length by omega))
  rcases Nat.eq_zero_or_pos i with rfl | hp
  · exact h0
  · have := asc_get (cuts_asc l) hp hi; omega
include h in
theorem cuts_last : (cuts l).getD ((cuts l).length - 1) 0 = 60 := by
  have h2 := cuts_two l
  obtain ⟨i, hi, h0⟩ := mem_get (mem_cuts (l := l).2 (.inr (.inl rfl)) : (60 : Int) ∈ cuts l)
  have h3 := cuts_range h (get_mem (show (cuts l).length - 1 < (cuts l).length by omega))
  rcases Nat.lt_or_eq_of_le (show i ≤ (cuts l).length - 1 by omega) with hp | rfl
  · have := asc_get (cuts_asc l) hp (by omega); omega
  · exact h0
/-- A rule covers a band whole or not at all. -/
theorem whole {r : Rule} (hr : r ∈ l) {i : Nat} (hi : i + 1 < (cuts l).length) (h1 : r.lo < (cuts l).getD (i + 1) 0) (h2 : (cuts l).getD i 0 < r.hi) : r.lo ≤ (cuts l).getD i 0 ∧ (cuts l).getD (i + 1) 0 ≤ r.hi := by
  have a := gap (cuts_asc l) hi (mem_cuts.2 (.inr (.inr ⟨r, hr, .inl rfl⟩)))
  have b := gap (cuts_asc l) hi (mem_cuts.2 (.inr (.inr ⟨r, hr, .inr rfl⟩)))
  omega
include h in
theorem needed {i : Nat} (hi : i + 1 < (cuts l).length) : (cuts l).getD (i + 1) 0 = 60 ∨ ∃ r, r ∈ l ∧ (r.lo = (cuts l).getD (i + 1) 0 ∨ r.hi = (cuts l).getD (i + 1) 0) := by
  have h1 := asc_get (cuts_asc l) (show i < i + 1 by omega) hi
  have h2 := cuts_range h (get_mem (show i < (cuts l).length by omega))
  rcases mem_cuts.1 (get_mem hi) with h3 | h3 | ⟨r, hr, h3⟩
  · omega
  · exact .inl h3
  · exact .inr ⟨r, hr, by omega⟩
end
end Rul
