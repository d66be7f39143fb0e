/- Part of a proof about the functions of this seat. -/
import Derived.Test.YtefpcfooahogkaaGreatDoorG09Base3z
import Derived.Shelf.Strings.Search1
import Derived.Shelf.Strings.Search2
import Derived.Shelf.Strings.Search3
import Derived.Shelf.LaysM
import Derived.Shelf.Strings.Shaped
import Derived.Test.YtefpcfooahogkaaGreatDoorProg
import Derived.Test.YtefpcfooahogkaaGreatDoorG11De3z
import Derived.Lib.SlicesCompact
import Derived.Lib.Bytealg
import Derived.Test.YtefpcfooahogkaaGreatDoorG12G03z
/- The prepared code of further functions. Written by a program of mine (gen.py) out of what the loaded dump prints. -/

set_option linter.unusedVariables false
set_option maxRecDepth 100000
namespace Go.Proofs.YtefpcfooahogkaaGreatDoor
open Go Nv

/-- narrator.rulecompile.Bands -/
theorem fn8 : FnIs Tryz.prog 8 1 [Go.ResultVar.tmp 2] (.seq (.region [⟨some 2, Go.Op.assign (Go.Operand.const (Go.Value.slice none 0 0)), 22, none⟩])
    (.seq (.seq (.region [⟨some 8, Go.Op.move (Go.Operand.tmp 0), 34, none⟩,
      ⟨some 9, Go.Op.call { callee := Go.Callee.value (Go.Operand.func 15), args := #[Go.Operand.tmp 8], argTypes := #[34] }, 41, none⟩,
      ⟨some 10, Go.Op.binOp Go.BinOp.neq 41 (Go.Operand.tmp 9) (Go.Operand.const (Go.Value.int Go.IntKind.i64 0)) 41, 4, none⟩])
    (.cond (Go.Operand.tmp 10)
      (.seq (.region [⟨some 2, Go.Op.assign (Go.Operand.const (Go.Value.slice none 0 0)), 22, none⟩])
      .ret)
      .skip))
    (.seq (.region [⟨some 11, Go.Op.buildSlice 27 2 #[(0, Go.Operand.const (Go.Value.int Go.IntKind.i64 0)), (1, Go.Operand.const (Go.Value.int Go.IntKind.i64 60))], 27, none⟩,
      ⟨some 3, Go.Op.assign (Go.Operand.tmp 11), 27, none⟩])
    (.seq (.seq (.region [⟨some 12, Go.Op.move (Go.Operand.tmp 0), 34, none⟩,
      ⟨some 13, Go.Op.call { callee := Go.Callee.builtin Go.Builtin.len, args := #[Go.Operand.tmp 12], argTypes := #[34] }, 3, none⟩,
      ⟨some 14, Go.Op.move (Go.Operand.const (Go.Value.int Go.IntKind.i64 0)), 3, none⟩])
    (.block 0
      (.loop
        (.seq (.region [⟨some 15, Go.Op.binOp Go.BinOp.lss 3 (Go.Operand.tmp 14) (Go.Operand.tmp 13) 3, 0, none⟩])
        (.seq (.cond (Go.Operand.tmp 15)
          .skip
          (.exit 0))
        (.seq (.block 1
          (.seq (.region [⟨some 16, Go.Op.indexAddr 34 (Go.Operand.tmp 12) (Go.Operand.tmp 14), 0, none⟩,
            ⟨some 17, Go.Op.load 33 (Go.Operand.tmp 16), 33, none⟩,
            ⟨some 5, Go.Op.alloc 33, 0, none⟩,
            ⟨none, Go.Op.store 33 (Go.Operand.tmp 5) (Go.Operand.tmp 17), 0, none⟩])
          (.region [⟨some 18, Go.Op.move (Go.Operand.tmp 3), 27, none⟩,
            ⟨some 19, Go.Op.fieldAddr 33 (Go.Operand.tmp 5) 2, 0, none⟩,
            ⟨some 20, Go.Op.load 3 (Go.Operand.tmp 19), 3, none⟩,
            ⟨some 21, Go.Op.fieldAddr 33 (Go.Operand.tmp 5) 3, 0, none⟩,
            ⟨some 22, Go.Op.load 3 (Go.Operand.tmp 21), 3, none⟩,
            ⟨some 23, Go.Op.buildSlice 27 2 #[(0, Go.Operand.tmp 20), (1, Go.Operand.tmp 22)], 27, none⟩,
            ⟨some 24, Go.Op.call { callee := Go.Callee.builtin Go.Builtin.append, args := #[Go.Operand.tmp 18, Go.Operand.tmp 23], argTypes := #[27, 27] }, 27, none⟩,
            ⟨some 3, Go.Op.assign (Go.Operand.tmp 24), 27, none⟩])))
        (.region [⟨some 25, Go.Op.binOp Go.BinOp.add 3 (Go.Operand.tmp 14) (Go.Operand.const (Go.Value.int Go.IntKind.i64 1)) 3, 3, none⟩,
          ⟨some 14, Go.Op.move (Go.Operand.tmp 25), 3, none⟩])))))))
    (.seq (.region [⟨some 26, Go.Op.move (Go.Operand.tmp 3), 27, none⟩,
      ⟨some 27, Go.Op.call { callee := Go.Callee.value (Go.Operand.func 16), args := #[Go.Operand.tmp 26], argTypes := #[27] }, 0, none⟩])
    (.seq (.region [⟨some 28, Go.Op.move (Go.Operand.tmp 3), 27, none⟩,
      ⟨some 29, Go.Op.call { callee := Go.Callee.value (Go.Operand.func 17), args := #[Go.Operand.tmp 28], argTypes := #[27] }, 27, none⟩,
      ⟨some 3, Go.Op.assign (Go.Operand.tmp 29), 27, none⟩])
    (.seq (.region [⟨some 6, Go.Op.assign (Go.Operand.const (Go.Value.slice none 0 0)), 22, none⟩])
    (.seq (.seq (.region [⟨some 7, Go.Op.assign (Go.Operand.const (Go.Value.int Go.IntKind.i64 1)), 3, none⟩])
    (.block 2
      (.loop
        (.seq (.seq (.region [⟨some 30, Go.Op.move (Go.Operand.tmp 7), 3, none⟩,
          ⟨some 31, Go.Op.move (Go.Operand.tmp 3), 27, none⟩,
          ⟨some 32, Go.Op.call { callee := Go.Callee.builtin Go.Builtin.len, args := #[Go.Operand.tmp 31], argTypes := #[27] }, 3, none⟩,
          ⟨some 33, Go.Op.binOp Go.BinOp.lss 3 (Go.Operand.tmp 30) (Go.Operand.tmp 32) 3, 4, none⟩])
        (.cond (Go.Operand.tmp 33)
          .skip
          (.exit 2)))
        (.seq (.block 3
          (.draw [⟨⟨some 36, Go.Op.move (Go.Operand.tmp 6), 22, none⟩, false, false, true⟩,
            ⟨⟨some 37, Go.Op.move (Go.Operand.tmp 3), 27, none⟩, false, false, false⟩,
            ⟨⟨some 38, Go.Op.move (Go.Operand.tmp 7), 3, none⟩, false, false, false⟩,
            ⟨⟨some 39, Go.Op.binOp Go.BinOp.sub 3 (Go.Operand.tmp 38) (Go.Operand.const (Go.Value.int Go.IntKind.i64 1)) 3, 3, none⟩, false, false, false⟩,
            ⟨⟨some 40, Go.Op.indexAddr 27 (Go.Operand.tmp 37) (Go.Operand.tmp 39), 0, none⟩, false, false, false⟩,
            ⟨⟨some 41, Go.Op.load 3 (Go.Operand.tmp 40), 3, none⟩, false, false, false⟩,
            ⟨⟨some 42, Go.Op.move (Go.Operand.tmp 3), 27, none⟩, false, false, false⟩,
            ⟨⟨some 43, Go.Op.move (Go.Operand.tmp 7), 3, none⟩, false, false, false⟩,
            ⟨⟨some 44, Go.Op.indexAddr 27 (Go.Operand.tmp 42) (Go.Operand.tmp 43), 0, none⟩, false, false, false⟩,
            ⟨⟨some 45, Go.Op.load 3 (Go.Operand.tmp 44), 3, none⟩, false, false, false⟩,
            ⟨⟨some 46, Go.Op.build 38 #[(0, Go.Operand.tmp 41), (1, Go.Operand.tmp 45)], 38, none⟩, false, false, false⟩,
            ⟨⟨some 47, Go.Op.buildSlice 22 1 #[(0, Go.Operand.tmp 46)], 22, none⟩, true, false, false⟩,
            ⟨⟨some 48, Go.Op.call { callee := Go.Callee.builtin Go.Builtin.append, args := #[Go.Operand.tmp 36, Go.Operand.tmp 47], argTypes := #[22, 22] }, 22, none⟩, true, false, false⟩,
            ⟨⟨some 6, Go.Op.assign (Go.Operand.tmp 48), 22, none⟩, false, false, false⟩]))
        (.region [⟨some 34, Go.Op.move (Go.Operand.tmp 7), 3, none⟩,
          ⟨some 35, Go.Op.binOp Go.BinOp.add 3 (Go.Operand.tmp 34) (Go.Operand.const (Go.Value.int Go.IntKind.i64 1)) 3, 3, none⟩,
          ⟨some 7, Go.Op.assign (Go.Operand.tmp 35), 3, none⟩]))))))
    (.seq (.region [⟨some 49, Go.Op.move (Go.Operand.tmp 6), 22, none⟩,
      ⟨some 2, Go.Op.assign (Go.Operand.tmp 49), 22, none⟩])
    .ret))))))))) :=
  ⟨foll, Tryz.f8, Tryz.func8, by kernel_rfl, by kernel_rfl, by kernel_rfl, by rw [Tryz.ntmps8]; decide⟩

/-- narrator.narratorref35.SameSpans -/
theorem fn9 : FnIs Tryz.prog 9 2 [Go.ResultVar.tmp 4] (.seq (.region [⟨some 4, Go.Op.assign (Go.Operand.const (Go.Value.bool false)), 4, none⟩])
    (.seq (.seq (.region [⟨some 6, Go.Op.move (Go.Operand.tmp 0), 22, none⟩,
      ⟨some 7, Go.Op.call { callee := Go.Callee.builtin Go.Builtin.len, args := #[Go.Operand.tmp 6], argTypes := #[22] }, 3, none⟩,
      ⟨some 8, Go.Op.move (Go.Operand.tmp 1), 22, none⟩,
      ⟨some 9, Go.Op.call { callee := Go.Callee.builtin Go.Builtin.len, args := #[Go.Operand.tmp 8], argTypes := #[22] }, 3, none⟩,
      ⟨some 10, Go.Op.binOp Go.BinOp.neq 3 (Go.Operand.tmp 7) (Go.Operand.tmp 9) 3, 4, none⟩])
    (.cond (Go.Operand.tmp 10)
      (.seq (.region [⟨some 4, Go.Op.assign (Go.Operand.const (Go.Value.bool false)), 4, none⟩])
      .ret)
      .skip))
    (.seq (.seq (.region [⟨some 5, Go.Op.assign (Go.Operand.const (Go.Value.int Go.IntKind.i64 0)), 3, none⟩])
    (.block 0
      (.loop
        (.seq (.seq (.region [⟨some 11, Go.Op.move (Go.Operand.tmp 5), 3, none⟩,
          ⟨some 12, Go.Op.move (Go.Operand.tmp 0), 22, none⟩,
          ⟨some 13, Go.Op.call { callee := Go.Callee.builtin Go.Builtin.len, args := #[Go.Operand.tmp 12], argTypes := #[22] }, 3, none⟩,
          ⟨some 14, Go.Op.binOp Go.BinOp.lss 3 (Go.Operand.tmp 11) (Go.Operand.tmp 13) 3, 4, none⟩])
        (.cond (Go.Operand.tmp 14)
          .skip
          (.exit 0)))
        (.seq (.block 1
          (.seq (.draw [⟨⟨some 17, Go.Op.move (Go.Operand.tmp 0), 22, none⟩, false, false, false⟩,
            ⟨⟨some 18, Go.Op.move (Go.Operand.tmp 5), 3, none⟩, false, false, false⟩,
            ⟨⟨some 19, Go.Op.indexAddr 22 (Go.Operand.tmp 17) (Go.Operand.tmp 18), 0, none⟩, false, false, false⟩,
            ⟨⟨some 20, Go.Op.load 38 (Go.Operand.tmp 19), 38, none⟩, false, false, false⟩,
            ⟨⟨some 21, Go.Op.move (Go.Operand.tmp 1), 22, none⟩, false, false, false⟩,
            ⟨⟨some 22, Go.Op.move (Go.Operand.tmp 5), 3, none⟩, false, false, false⟩,
            ⟨⟨some 23, Go.Op.indexAddr 22 (Go.Operand.tmp 21) (Go.Operand.tmp 22), 0, none⟩, false, false, false⟩,
            ⟨⟨some 24, Go.Op.load 38 (Go.Operand.tmp 23), 38, none⟩, false, false, false⟩,
            ⟨⟨some 25, Go.Op.binOp Go.BinOp.neq 38 (Go.Operand.tmp 20) (Go.Operand.tmp 24) 38, 4, none⟩, false, false, false⟩])
          (.cond (Go.Operand.tmp 25)
            (.seq (.region [⟨some 4, Go.Op.assign (Go.Operand.const (Go.Value.bool false)), 4, none⟩])
            .ret)
            .skip)))
        (.region [⟨some 15, Go.Op.move (Go.Operand.tmp 5), 3, none⟩,
          ⟨some 16, Go.Op.binOp Go.BinOp.add 3 (Go.Operand.tmp 15) (Go.Operand.const (Go.Value.int Go.IntKind.i64 1)) 3, 3, none⟩,
          ⟨some 5, Go.Op.assign (Go.Operand.tmp 16), 3, none⟩]))))))
    (.seq (.region [⟨some 4, Go.Op.assign (Go.Operand.const (Go.Value.bool true)), 4, none⟩])
    .ret)))) :=
  ⟨foll, Tryz.f9, Tryz.func9, by kernel_rfl, by kernel_rfl, by kernel_rfl, by rw [Tryz.ntmps9]; decide⟩

/-- narrator.rulesyntax.Check -/
theorem fn15 : FnIs Tryz.prog 15 1 [Go.ResultVar.tmp 2] (.seq (.region [⟨some 2, Go.Op.assign (Go.Operand.const (Go.Value.int Go.IntKind.i64 0)), 41, none⟩])
    (.seq (.seq (.region [⟨some 7, Go.Op.move (Go.Operand.tmp 0), 34, none⟩,
      ⟨some 8, Go.Op.call { callee := Go.Callee.builtin Go.Builtin.len, args := #[Go.Operand.tmp 7], argTypes := #[34] }, 3, none⟩,
      ⟨some 9, Go.Op.binOp Go.BinOp.gtr 3 (Go.Operand.tmp 8) (Go.Operand.const (Go.Value.int Go.IntKind.i64 16)) 3, 4, none⟩])
    (.cond (Go.Operand.tmp 9)
      (.seq (.region [⟨some 2, Go.Op.assign (Go.Operand.const (Go.Value.int Go.IntKind.i64 5)), 41, none⟩])
      .ret)
      .skip))
    (.seq (.region [⟨some 10, Go.Op.makeMap 69 none, 69, none⟩,
      ⟨some 3, Go.Op.assign (Go.Operand.tmp 10), 69, none⟩])
    (.seq (.seq (.region [⟨some 11, Go.Op.move (Go.Operand.tmp 0), 34, none⟩,
      ⟨some 12, Go.Op.call { callee := Go.Callee.builtin Go.Builtin.len, args := #[Go.Operand.tmp 11], argTypes := #[34] }, 3, none⟩,
      ⟨some 13, Go.Op.move (Go.Operand.const (Go.Value.int Go.IntKind.i64 0)), 3, none⟩])
    (.block 0
      (.loop
        (.seq (.region [⟨some 14, Go.Op.binOp Go.BinOp.lss 3 (Go.Operand.tmp 13) (Go.Operand.tmp 12) 3, 0, none⟩])
        (.seq (.cond (Go.Operand.tmp 14)
          .skip
          (.exit 0))
        (.seq (.block 1
          (.seq (.region [⟨some 15, Go.Op.indexAddr 34 (Go.Operand.tmp 11) (Go.Operand.tmp 13), 0, none⟩,
            ⟨some 16, Go.Op.load 33 (Go.Operand.tmp 15), 33, none⟩,
            ⟨some 5, Go.Op.alloc 33, 0, none⟩,
            ⟨none, Go.Op.store 33 (Go.Operand.tmp 5) (Go.Operand.tmp 16), 0, none⟩])
          (.seq (.seq (.region [⟨some 17, Go.Op.fieldAddr 33 (Go.Operand.tmp 5) 0, 0, none⟩,
            ⟨some 18, Go.Op.load 9 (Go.Operand.tmp 17), 9, none⟩,
            ⟨some 19, Go.Op.call { callee := Go.Callee.value (Go.Operand.func 29), args := #[Go.Operand.tmp 18], argTypes := #[9] }, 4, none⟩,
            ⟨some 20, Go.Op.unOp Go.UnOp.not 4 (Go.Operand.tmp 19), 4, none⟩])
          (.cond (Go.Operand.tmp 20)
            (.seq (.region [⟨some 2, Go.Op.assign (Go.Operand.const (Go.Value.int Go.IntKind.i64 6)), 41, none⟩])
            .ret)
            .skip))
          (.seq (.seq (.region [⟨some 21, Go.Op.move (Go.Operand.tmp 3), 69, none⟩,
            ⟨some 22, Go.Op.fieldAddr 33 (Go.Operand.tmp 5) 0, 0, none⟩,
            ⟨some 23, Go.Op.load 9 (Go.Operand.tmp 22), 9, none⟩,
            ⟨some 24, Go.Op.lookup 69 (Go.Operand.tmp 21) (Go.Operand.tmp 23) false, 4, none⟩])
          (.cond (Go.Operand.tmp 24)
            (.seq (.region [⟨some 2, Go.Op.assign (Go.Operand.const (Go.Value.int Go.IntKind.i64 7)), 41, none⟩])
            .ret)
            .skip))
          (.seq (.region [⟨some 25, Go.Op.move (Go.Operand.tmp 3), 69, none⟩,
            ⟨some 26, Go.Op.fieldAddr 33 (Go.Operand.tmp 5) 0, 0, none⟩,
            ⟨some 27, Go.Op.load 9 (Go.Operand.tmp 26), 9, none⟩,
            ⟨none, Go.Op.mapUpdate 69 (Go.Operand.tmp 25) (Go.Operand.tmp 27) (Go.Operand.const (Go.Value.bool true)), 0, none⟩])
          (.seq (.region [⟨some 28, Go.Op.load 33 (Go.Operand.tmp 5), 33, none⟩,
            ⟨some 29, Go.Op.call { callee := Go.Callee.value (Go.Operand.func 30), args := #[Go.Operand.tmp 28], argTypes := #[33] }, 41, none⟩,
            ⟨some 6, Go.Op.assign (Go.Operand.tmp 29), 41, none⟩])
          (.seq (.region [⟨some 30, Go.Op.move (Go.Operand.tmp 6), 41, none⟩,
            ⟨some 31, Go.Op.binOp Go.BinOp.neq 41 (Go.Operand.tmp 30) (Go.Operand.const (Go.Value.int Go.IntKind.i64 0)) 41, 4, none⟩])
          (.cond (Go.Operand.tmp 31)
            (.seq (.region [⟨some 32, Go.Op.move (Go.Operand.tmp 6), 41, none⟩,
              ⟨some 2, Go.Op.assign (Go.Operand.tmp 32), 41, none⟩])
            .ret)
            .skip))))))))
        (.region [⟨some 33, Go.Op.binOp Go.BinOp.add 3 (Go.Operand.tmp 13) (Go.Operand.const (Go.Value.int Go.IntKind.i64 1)) 3, 3, none⟩,
          ⟨some 13, Go.Op.move (Go.Operand.tmp 33), 3, none⟩])))))))
    (.seq (.region [⟨some 2, Go.Op.assign (Go.Operand.const (Go.Value.int Go.IntKind.i64 0)), 41, none⟩])
    .ret))))) :=
  ⟨foll, Tryz.f15, Tryz.func15, by kernel_rfl, by kernel_rfl, by kernel_rfl, by rw [Tryz.ntmps15]; decide⟩

/-- narrator.rulesyntax.name -/
theorem fn29 : FnIs Tryz.prog 29 1 [Go.ResultVar.tmp 2] (.seq (.region [⟨some 2, Go.Op.assign (Go.Operand.const (Go.Value.bool false)), 4, none⟩])
    (.seq (.seq (.region [⟨some 4, Go.Op.move (Go.Operand.tmp 0), 9, none⟩,
      ⟨some 5, Go.Op.binOp Go.BinOp.eql 9 (Go.Operand.tmp 4) (Go.Operand.const (Go.Value.string { data := #[] })) 9, 4, none⟩,
      ⟨some 6, Go.Op.move (Go.Operand.tmp 5), 4, none⟩,
      ⟨some 7, Go.Op.move (Go.Operand.tmp 0), 9, (some (6, false))⟩,
      ⟨some 8, Go.Op.call { callee := Go.Callee.builtin Go.Builtin.len, args := #[Go.Operand.tmp 7], argTypes := #[9] }, 3, (some (6, false))⟩,
      ⟨some 9, Go.Op.binOp Go.BinOp.gtr 3 (Go.Operand.tmp 8) (Go.Operand.const (Go.Value.int Go.IntKind.i64 16)) 3, 4, (some (6, false))⟩,
      ⟨some 10, Go.Op.pick (Go.Operand.tmp 6) (Go.Operand.const (Go.Value.bool true)) (Go.Operand.tmp 9), 4, none⟩,
      ⟨some 11, Go.Op.move (Go.Operand.tmp 10), 4, none⟩,
      ⟨some 12, Go.Op.move (Go.Operand.tmp 0), 9, (some (11, false))⟩,
      ⟨some 13, Go.Op.slice 9 (Go.Operand.tmp 12) none (some (Go.Operand.const (Go.Value.int Go.IntKind.i64 1))) none, 9, (some (11, false))⟩,
      ⟨some 14, Go.Op.call { callee := Go.Callee.value (Go.Operand.func 45), args := #[Go.Operand.const (Go.Value.string { data := #[97, 98, 99, 100, 101, 102, 103, 104, 105, 106, 107, 108, 109, 110, 111, 112, 113, 114, 115, 116, 117, 118, 119, 120, 121, 122] }), Go.Operand.tmp 13], argTypes := #[9, 9] }, 4, (some (11, false))⟩,
      ⟨some 15, Go.Op.unOp Go.UnOp.not 4 (Go.Operand.tmp 14), 4, (some (11, false))⟩,
      ⟨some 16, Go.Op.pick (Go.Operand.tmp 11) (Go.Operand.const (Go.Value.bool true)) (Go.Operand.tmp 15), 4, none⟩])
    (.cond (Go.Operand.tmp 16)
      (.seq (.region [⟨some 2, Go.Op.assign (Go.Operand.const (Go.Value.bool false)), 4, none⟩])
      .ret)
      .skip))
    (.seq (.seq (.region [⟨some 17, Go.Op.move (Go.Operand.tmp 0), 9, none⟩,
      ⟨some 18, Go.Op.call { callee := Go.Callee.builtin Go.Builtin.len, args := #[Go.Operand.tmp 17], argTypes := #[9] }, 3, none⟩,
      ⟨some 19, Go.Op.move (Go.Operand.const (Go.Value.int Go.IntKind.i64 0)), 3, none⟩])
    (.block 0
      (.loop
        (.seq (.region [⟨some 20, Go.Op.binOp Go.BinOp.lss 3 (Go.Operand.tmp 19) (Go.Operand.tmp 18) 3, 4, none⟩])
        (.seq (.cond (Go.Operand.tmp 20)
          .skip
          (.exit 0))
        (.seq (.block 1
          (.seq (.region [⟨some 21, Go.Op.move (Go.Operand.tmp 19), 3, none⟩,
            ⟨some 3, Go.Op.assign (Go.Operand.tmp 21), 3, none⟩])
          (.seq (.region [⟨some 22, Go.Op.move (Go.Operand.tmp 0), 9, none⟩,
            ⟨some 23, Go.Op.move (Go.Operand.tmp 3), 3, none⟩,
            ⟨some 24, Go.Op.move (Go.Operand.tmp 3), 3, none⟩,
            ⟨some 25, Go.Op.binOp Go.BinOp.add 3 (Go.Operand.tmp 24) (Go.Operand.const (Go.Value.int Go.IntKind.i64 1)) 3, 3, none⟩,
            ⟨some 26, Go.Op.slice 9 (Go.Operand.tmp 22) (some (Go.Operand.tmp 23)) (some (Go.Operand.tmp 25)) none, 9, none⟩,
            ⟨some 27, Go.Op.call { callee := Go.Callee.value (Go.Operand.func 45), args := #[Go.Operand.const (Go.Value.string { data := #[97, 98, 99, 100, 101, 102, 103, 104, 105, 106, 107, 108, 109, 110, 111, 112, 113, 114, 115, 116, 117, 118, 119, 120, 121, 122, 48, 49, 50, 51, 52, 53, 54, 55, 56, 57, 45] }), Go.Operand.tmp 26], argTypes := #[9, 9] }, 4, none⟩,
            ⟨some 28, Go.Op.unOp Go.UnOp.not 4 (Go.Operand.tmp 27), 4, none⟩])
          (.cond (Go.Operand.tmp 28)
            (.seq (.region [⟨some 2, Go.Op.assign (Go.Operand.const (Go.Value.bool false)), 4, none⟩])
            .ret)
            .skip))))
        (.region [⟨some 29, Go.Op.binOp Go.BinOp.add 3 (Go.Operand.tmp 19) (Go.Operand.const (Go.Value.int Go.IntKind.i64 1)) 3, 3, none⟩,
          ⟨some 19, Go.Op.move (Go.Operand.tmp 29), 3, none⟩])))))))
    (.seq (.region [⟨some 2, Go.Op.assign (Go.Operand.const (Go.Value.bool true)), 4, none⟩])
    .ret)))) :=
  ⟨foll, Tryz.f29, Tryz.func29, by kernel_rfl, by kernel_rfl, by kernel_rfl, by rw [Tryz.ntmps29]; decide⟩

/-- narrator.rulesyntax.check -/
theorem fn30 : FnIs Tryz.prog 30 1 [Go.ResultVar.tmp 2] (.seq (.region [⟨some 1, Go.Op.box 33 (Go.Operand.tmp 0), 0, none⟩,
      ⟨some 2, Go.Op.assign (Go.Operand.const (Go.Value.int Go.IntKind.i64 0)), 41, none⟩])
    (.seq (.block 0
      (.seq (.block 4
        (.seq (.block 3
          (.block 2
            (.seq (.block 1
              (.seq (.seq (.seq (.region [⟨some 6, Go.Op.fieldAddr 33 (Go.Operand.tmp 1) 4, 0, none⟩,
                ⟨some 7, Go.Op.load 3 (Go.Operand.tmp 6), 3, none⟩,
                ⟨some 8, Go.Op.binOp Go.BinOp.lss 3 (Go.Operand.tmp 7) (Go.Operand.const (Go.Value.int Go.IntKind.i64 1)) 3, 4, none⟩,
                ⟨some 9, Go.Op.move (Go.Operand.tmp 8), 4, none⟩,
                ⟨some 10, Go.Op.fieldAddr 33 (Go.Operand.tmp 1) 4, 0, (some (9, false))⟩,
                ⟨some 11, Go.Op.load 3 (Go.Operand.tmp 10), 3, (some (9, false))⟩,
                ⟨some 12, Go.Op.binOp Go.BinOp.gtr 3 (Go.Operand.tmp 11) (Go.Operand.const (Go.Value.int Go.IntKind.i64 3)) 3, 4, (some (9, false))⟩,
                ⟨some 13, Go.Op.pick (Go.Operand.tmp 9) (Go.Operand.const (Go.Value.bool true)) (Go.Operand.tmp 12), 4, none⟩,
                ⟨some 5, Go.Op.assign (Go.Operand.tmp 13), 4, none⟩])
              (.cond (Go.Operand.tmp 5)
                (.exit 1)
                .skip))
              (.seq (.seq (.region [⟨some 15, Go.Op.fieldAddr 33 (Go.Operand.tmp 1) 2, 0, none⟩,
                ⟨some 16, Go.Op.load 3 (Go.Operand.tmp 15), 3, none⟩,
                ⟨some 17, Go.Op.binOp Go.BinOp.lss 3 (Go.Operand.tmp 16) (Go.Operand.const (Go.Value.int Go.IntKind.i64 0)) 3, 4, none⟩,
                ⟨some 18, Go.Op.move (Go.Operand.tmp 17), 4, none⟩,
                ⟨some 19, Go.Op.fieldAddr 33 (Go.Operand.tmp 1) 2, 0, (some (18, false))⟩,
                ⟨some 20, Go.Op.load 3 (Go.Operand.tmp 19), 3, (some (18, false))⟩,
                ⟨some 21, Go.Op.fieldAddr 33 (Go.Operand.tmp 1) 3, 0, (some (18, false))⟩,
                ⟨some 22, Go.Op.load 3 (Go.Operand.tmp 21), 3, (some (18, false))⟩,
                ⟨some 23, Go.Op.binOp Go.BinOp.geq 3 (Go.Operand.tmp 20) (Go.Operand.tmp 22) 3, 4, (some (18, false))⟩,
                ⟨some 24, Go.Op.pick (Go.Operand.tmp 18) (Go.Operand.const (Go.Value.bool true)) (Go.Operand.tmp 23), 4, none⟩,
                ⟨some 25, Go.Op.move (Go.Operand.tmp 24), 4, none⟩,
                ⟨some 26, Go.Op.fieldAddr 33 (Go.Operand.tmp 1) 3, 0, (some (25, false))⟩,
                ⟨some 27, Go.Op.load 3 (Go.Operand.tmp 26), 3, (some (25, false))⟩,
                ⟨some 28, Go.Op.binOp Go.BinOp.gtr 3 (Go.Operand.tmp 27) (Go.Operand.const (Go.Value.int Go.IntKind.i64 60)) 3, 4, (some (25, false))⟩,
                ⟨some 29, Go.Op.pick (Go.Operand.tmp 25) (Go.Operand.const (Go.Value.bool true)) (Go.Operand.tmp 28), 4, none⟩,
                ⟨some 14, Go.Op.assign (Go.Operand.tmp 29), 4, none⟩])
              (.cond (Go.Operand.tmp 14)
                (.exit 2)
                .skip))
              (.seq (.seq (.region [⟨some 31, Go.Op.fieldAddr 33 (Go.Operand.tmp 1) 5, 0, none⟩,
                ⟨some 32, Go.Op.load 3 (Go.Operand.tmp 31), 3, none⟩,
                ⟨some 33, Go.Op.binOp Go.BinOp.lss 3 (Go.Operand.tmp 32) (Go.Operand.const (Go.Value.int Go.IntKind.i64 0)) 3, 4, none⟩,
                ⟨some 34, Go.Op.move (Go.Operand.tmp 33), 4, none⟩,
                ⟨some 35, Go.Op.fieldAddr 33 (Go.Operand.tmp 1) 5, 0, (some (34, false))⟩,
                ⟨some 36, Go.Op.load 3 (Go.Operand.tmp 35), 3, (some (34, false))⟩,
                ⟨some 37, Go.Op.binOp Go.BinOp.gtr 3 (Go.Operand.tmp 36) (Go.Operand.const (Go.Value.int Go.IntKind.i64 60000)) 3, 4, (some (34, false))⟩,
                ⟨some 38, Go.Op.pick (Go.Operand.tmp 34) (Go.Operand.const (Go.Value.bool true)) (Go.Operand.tmp 37), 4, none⟩,
                ⟨some 39, Go.Op.move (Go.Operand.tmp 38), 4, none⟩,
                ⟨some 40, Go.Op.fieldAddr 33 (Go.Operand.tmp 1) 5, 0, (some (39, false))⟩,
                ⟨some 41, Go.Op.load 3 (Go.Operand.tmp 40), 3, (some (39, false))⟩,
                ⟨some 42, Go.Op.binOp Go.BinOp.gtr 3 (Go.Operand.tmp 41) (Go.Operand.const (Go.Value.int Go.IntKind.i64 0)) 3, 4, (some (39, false))⟩,
                ⟨some 43, Go.Op.move (Go.Operand.tmp 42), 4, (some (39, false))⟩,
                ⟨some 44, Go.Op.fieldAddr 33 (Go.Operand.tmp 1) 4, 0, (some (43, true))⟩,
                ⟨some 45, Go.Op.load 3 (Go.Operand.tmp 44), 3, (some (43, true))⟩,
                ⟨some 46, Go.Op.binOp Go.BinOp.neq 3 (Go.Operand.tmp 45) (Go.Operand.const (Go.Value.int Go.IntKind.i64 3)) 3, 4, (some (43, true))⟩,
                ⟨some 47, Go.Op.pick (Go.Operand.tmp 43) (Go.Operand.tmp 46) (Go.Operand.const (Go.Value.bool false)), 4, (some (39, false))⟩,
                ⟨some 48, Go.Op.pick (Go.Operand.tmp 39) (Go.Operand.const (Go.Value.bool true)) (Go.Operand.tmp 47), 4, none⟩,
                ⟨some 30, Go.Op.assign (Go.Operand.tmp 48), 4, none⟩])
              (.cond (Go.Operand.tmp 30)
                (.exit 3)
                .skip))
              (.seq (.region [⟨some 50, Go.Op.fieldAddr 33 (Go.Operand.tmp 1) 1, 0, none⟩,
                ⟨some 51, Go.Op.load 9 (Go.Operand.tmp 50), 9, none⟩,
                ⟨some 52, Go.Op.call { callee := Go.Callee.value (Go.Operand.func 45), args := #[Go.Operand.tmp 51, Go.Operand.const (Go.Value.string { data := #[10] })], argTypes := #[9, 9] }, 4, none⟩,
                ⟨some 49, Go.Op.assign (Go.Operand.tmp 52), 4, none⟩])
              (.cond (Go.Operand.tmp 49)
                (.exit 4)
                .skip)))))
              (.exit 0)))
            (.seq (.seq (.region [⟨some 2, Go.Op.assign (Go.Operand.const (Go.Value.int Go.IntKind.i64 9)), 41, none⟩])
            .ret)
            (.exit 0)))))
        (.seq (.seq (.region [⟨some 2, Go.Op.assign (Go.Operand.const (Go.Value.int Go.IntKind.i64 2)), 41, none⟩])
        .ret)
        (.exit 0))))
      (.seq (.seq (.region [⟨some 2, Go.Op.assign (Go.Operand.const (Go.Value.int Go.IntKind.i64 3)), 41, none⟩])
      .ret)
      (.exit 0))))
    (.seq (.region [⟨some 54, Go.Op.fieldAddr 33 (Go.Operand.tmp 1) 1, 0, none⟩,
      ⟨some 55, Go.Op.load 9 (Go.Operand.tmp 54), 9, none⟩,
      ⟨some 56, Go.Op.call { callee := Go.Callee.value (Go.Operand.func 21), args := #[Go.Operand.tmp 55], argTypes := #[9] }, 53, none⟩,
      ⟨some 53, Go.Op.move (Go.Operand.tmp 56), 53, none⟩,
      ⟨some 57, Go.Op.extract (Go.Operand.tmp 53) 0, 52, none⟩,
      ⟨some 58, Go.Op.extract (Go.Operand.tmp 53) 1, 41, none⟩,
      ⟨some 3, Go.Op.alloc 52, 0, none⟩,
      ⟨none, Go.Op.store 52 (Go.Operand.tmp 3) (Go.Operand.tmp 57), 0, none⟩,
      ⟨some 4, Go.Op.assign (Go.Operand.tmp 58), 41, none⟩])
    (.seq (.region [⟨some 59, Go.Op.move (Go.Operand.tmp 4), 41, none⟩,
      ⟨some 2, Go.Op.assign (Go.Operand.tmp 59), 41, none⟩])
    .ret)))) :=
  ⟨foll, Tryz.f30, Tryz.func30, by kernel_rfl, by kernel_rfl, by kernel_rfl, by rw [Tryz.ntmps30]; decide⟩

end Go.Proofs.YtefpcfooahogkaaGreatDoor
namespace Go.Proofs.YtefpcfooahogkaaGreatDoor
open Go.Shelf
def Tryz.lays144_ren : Go.Shelf.Ren := ⟨fun | 144 => 45 | 143 => 67 | 219 => 78 | 217 => 84 | 225 => 85 | 224 => 86 | 267 => 87 | 266 => 91 | 314 => 92 | n => n, fun | 9 => 9 | 4 => 4 | 3 => 3 | 5 => 5 | 46 => 74 | 146 => 136 | 51 => 103 | n => n, fun | 1 => 2 | n => n⟩
theorem Tryz.lays144 : Go.Proofs.Lays.n144 Tryz.prog Tryz.lays144_ren where
  mixed := by kernel_rfl
  f143 := Tryz.func67.trans (congrArg some (by kernel_rfl))
  f144 := Tryz.func45.trans (congrArg some (by kernel_rfl))
  f217 := Tryz.func84.trans (congrArg some (by kernel_rfl))
  f219 := Tryz.func78.trans (congrArg some (by kernel_rfl))
  f224 := Tryz.func86.trans (congrArg some (by kernel_rfl))
  f225 := Tryz.func85.trans (congrArg some (by kernel_rfl))
  f266 := Tryz.func91.trans (congrArg some (by kernel_rfl))
  f267 := Tryz.func87.trans (congrArg some (by kernel_rfl))
  f314 := Tryz.func92.trans (congrArg some (by kernel_rfl))
  t3 := Tryz.underlying3
  a3 := Tryz.isAgg3
  z3 := Tryz.sizeOf3
  v3 := Tryz.zeroValue3
  t4 := Tryz.underlying4
  a4 := Tryz.isAgg4
  z4 := Tryz.sizeOf4
  v4 := Tryz.zeroValue4
  t5 := Tryz.underlying5
  a5 := Tryz.isAgg5
  z5 := Tryz.sizeOf5
  v5 := Tryz.zeroValue5
  t9 := Tryz.underlying9
  a9 := Tryz.isAgg9
  z9 := Tryz.sizeOf9
  v9 := Tryz.zeroValue9
  t46 := Tryz.underlying74
  a46 := Tryz.isAgg74
  z46 := Tryz.sizeOf74
  v46 := Tryz.zeroValue74
  t51 := Tryz.underlying103
  a51 := Tryz.isAgg103
  z51 := Tryz.sizeOf103
  v51 := Tryz.zeroValue103
  t146 := Tryz.underlying136
  a146 := Tryz.isAgg136
  z146 := Tryz.sizeOf136
  v146 := Tryz.zeroValue136
  g1 := by kernel_rfl
open Go.RowKit Go.Lib Nv
theorem contains_one (s : List UInt8) (c : UInt8) : PCall Tryz.prog 45 [.d (.str s), .d (.str [c])] (.d (.bool (decide (0 ≤ Lib.indexByte s c)))) :=
  .of_calls' rfl rfl fun w => Any.strings_Contains_one Tryz.lays144 ⟨s.toArray⟩ c w
end Go.Proofs.YtefpcfooahogkaaGreatDoor
/- Rules, and the bands of rows that they make: plain, no program. -/


set_option linter.unusedVariables false
set_option linter.unusedSimpArgs false
namespace Rul
open Go

structure Rule where
  name : List UInt8
  pat : List UInt8
  lo : Int
  hi : Int
  cls : Int
  wait : Int
  deriving DecidableEq, Inhabited

/-- The letters, and what may stand in a name. -/
def letters : List UInt8 := [97, 98, 99, 100, 101, 102, 103, 104, 105, 106, 107, 108, 109, 110, 111, 112, 113, 114, 115, 116, 117, 118, 119, 120, 121, 122]
def signs : List UInt8 := letters ++ [48, 49, 50, 51, 52, 53, 54, 55, 56, 57] ++ [45]
def isIn (l : List UInt8) (c : UInt8) : Bool := decide (0 ≤ Lib.indexByte l c)
def nameB (s : List UInt8) : Bool := match s with
  | [] => false
  | c :: _ => decide (s.length ≤ 16) && isIn letters c && s.all (isIn signs)
def rangeBad (r : Rule) : Bool := decide (r.lo < 0) || decide (r.hi ≤ r.lo) || decide (60 < r.hi)
def waitBad (r : Rule) : Bool := decide (r.wait < 0) || decide (60000 < r.wait) || (decide (0 < r.wait) && !decide (r.cls = 3))
/-- The error of a rule but for its name; pe is that of its pattern. -/
def ruleE (pe : List UInt8 → Int) (r : Rule) : Int :=
  if r.cls < 1 ∨ 3 < r.cls then 9
  else if rangeBad r = true ∨ waitBad r = true then 2
  else if isIn r.pat 10 = true then 3
  else pe r.pat
def chkFrom (pe : List UInt8 → Int) (used : List (List UInt8)) : List Rule → Int
  | [] => 0
  | r :: l => if nameB r.name = false then 6 else if r.name ∈ used then 7 else if ruleE pe r = 0 then chkFrom pe (used ++ [r.name]) l else ruleE pe r
def chkR (pe : List UInt8 → Int) (l : List Rule) : Int := if 16 < l.length then 5 else chkFrom pe [] l

theorem range_of {pe : List UInt8 → Int} : ∀ (l : List Rule) (used : List (List UInt8)), chkFrom pe used l = 0 → ∀ r, r ∈ l → 0 ≤ r.lo ∧ r.lo < r.hi ∧ r.hi ≤ 60
  | [], _, _, r, h => by cases h
  | x :: l, used, h, r, hr => by
    unfold chkFrom at h
    split at h
    · omega
    · split at h
      · omega
      · split at h
        · rename_i h3
          rcases List.mem_cons.1 hr with rfl | hr
          · unfold ruleE at h3
            split at h3
            · omega
            · split at h3
              · omega
              · rename_i hb
                simp only [rangeBad, Bool.or_eq_true, decide_eq_true_eq] at hb
                omega
          · exact range_of l _ h r hr
        · rename_i h3; exact absurd h h3
theorem range_ok {pe : List UInt8 → Int} {l : List Rule} (h : chkR pe l = 0) : ∀ r, r ∈ l → 0 ≤ r.lo ∧ r.lo < r.hi ∧ r.hi ≤ 60 := by
  unfold chkR at h
  split at h
  · omega
  · exact range_of l _ h

/-- The cuts in ascending order, each once. -/
def cutsOf (l : List Rule) : List Int := [0, 60] ++ l.flatMap fun r => [r.lo, r.hi]
def sortI (l : List Int) : List Int := l.mergeSort fun x y => decide (x ≤ y)
def cuts (l : List Rule) : List Int := Lib.compact (sortI (cutsOf l))
def spans : List Int → List (Int × Int)
  | a :: b :: l => (a, b) :: spans (b :: l)
  | _ => []
def bandsR (pe : List UInt8 → Int) (l : List Rule) : List (Int × Int) := if chkR pe l = 0 then spans (cuts l) else []

theorem sortI_sorted (l : List Int) : List.Pairwise (fun x y : Int => x ≤ y) (sortI l) := by
  have := List.pairwise_mergeSort (le := fun x y : Int => decide (x ≤ y)) (fun a b c h1 h2 => by simp at *; omega) (fun a b => by simp; omega) l
  exact this.imp (fun h => by simpa using h)
theorem mem_sortI {l : List Int} {x : Int} : x ∈ sortI l ↔ x ∈ l := List.mem_mergeSort

theorem sortI_len (l : List Int) : (sortI l).length = l.length := by simp [sortI]
theorem get_arr (l : List Int) (j : Nat) (h : j < l.length) : l.toArray[j]! = l.getD j 0 := by
  rw [getElem!_pos l.toArray j (by simpa using h), List.getD_eq_getElem?_getD, List.getElem?_eq_getElem h]; simp
theorem sorted_get {l : List Int} (h : List.Pairwise (fun x y : Int => x ≤ y) l) {i j : Nat} (hij : i ≤ j) (hj : j < l.length) : l.getD i 0 ≤ l.getD j 0 := by
  rcases Nat.lt_or_eq_of_le hij with hlt | rfl
  · have := List.pairwise_iff_getElem.1 h i j (by omega) hj hlt
    simp only [List.getD_eq_getElem?_getD, List.getElem?_eq_getElem hj, List.getElem?_eq_getElem (show i < l.length by omega), Option.getD_some]
    exact this
  · exact Int.le_refl _
theorem compact_mem {l : List Int} {x : Int} : x ∈ Lib.compact l ↔ x ∈ l := by
  unfold Lib.compact Lib.compactUpTo
  constructor
  · intro h
    obtain ⟨j, hj, rfl⟩ := List.mem_map.1 h
    have hj' : j < l.length := by simpa using (List.mem_filter.1 hj).1
    rw [get_arr l j hj', List.getD_eq_getElem?_getD, List.getElem?_eq_getElem hj']
    exact List.getElem_mem hj'
  · intro h
    obtain ⟨j, hj, rfl⟩ := List.getElem_of_mem h
    have key : ∀ n (hn : n < l.length), l.getD n 0 ∈ ((List.range l.length).filter (Lib.keeps l.toArray)).map (l.toArray[·]!) := by
      intro n
      induction n with
      | zero =>
        intro hn
        exact List.mem_map.2 ⟨0, List.mem_filter.2 ⟨by simpa using hn, by simp [Lib.keeps]⟩, get_arr l 0 hn⟩
      | succ n ih =>
        intro hn
        by_cases hk : Lib.keeps l.toArray (n + 1) = true
        · exact List.mem_map.2 ⟨n + 1, List.mem_filter.2 ⟨by simpa using hn, hk⟩, get_arr l _ hn⟩
        · have he : l.toArray[n + 1]! = l.toArray[n]! := by
            simp only [Lib.keeps, decide_eq_true_eq, Nat.add_sub_cancel, not_or, ne_eq] at hk
            exact Classical.not_not.1 hk.2
          rw [get_arr l _ hn, get_arr l n (by omega)] at he
          rw [he]; exact ih (by omega)
    have := key j hj
    rwa [List.getD_eq_getElem?_getD, List.getElem?_eq_getElem hj] at this
theorem compact_asc {l : List Int} (h : List.Pairwise (fun x y : Int => x ≤ y) l) : List.Pairwise (fun x y : Int => x < y) (Lib.compact l) := by
  unfold Lib.compact Lib.compactUpTo
  rw [List.pairwise_map]
  refine List.Pairwise.imp_of_mem ?_ ((List.pairwise_lt_range (n := l.length)).filter _)
  intro i j hi hj hij
  have hi' : i < l.length := by simpa using (List.mem_filter.1 hi).1
  have hj' : j < l.length := by simpa using (List.mem_filter.1 hj).1
  have hk := (List.mem_filter.1 hj).2
  simp only [Lib.keeps, decide_eq_true_eq] at hk
  have hne : l.toArray[j]! ≠ l.toArray[j - 1]! := hk.resolve_left (by omega)
  rw [get_arr l j hj', get_arr l (j - 1) (by omega)] at hne
  rw [get_arr l j hj', get_arr l i hi']
  have h1 := sorted_get h (show i ≤ j - 1 by omega) (by omega)
  have h2 := sorted_get h (show j - 1 ≤ j by omega) hj'
  omega
theorem asc_get {l : List Int} (h : List.Pairwise (fun x y : Int => x < y) l) {i j : Nat} (hij : i < j) (hj : j < l.length) : l.getD i 0 < l.getD j 0 := by
  have := List.pairwise_iff_getElem.1 h i j (by omega) hj hij
  simp only [List.getD_eq_getElem?_getD, List.getElem?_eq_getElem hj, List.getElem?_eq_getElem (show i < l.length by omega), Option.getD_some]
  exact this
theorem mem_get {l : List Int} {x : Int} (h : x ∈ l) : ∃ j, j < l.length ∧ l.getD j 0 = x := by
  obtain ⟨j, hj, rfl⟩ := List.getElem_of_mem h
  exact ⟨j, hj, by simp [List.getD_eq_getElem?_getD, hj]⟩
theorem get_mem {l : List Int} {j : Nat} (h : j < l.length) : l.getD j 0 ∈ l := by
  rw [List.getD_eq_getElem?_getD, List.getElem?_eq_getElem h]; exact List.getElem_mem h
/-- No cut lies between two that follow each other. -/
theorem gap {l : List Int} (h : List.Pairwise (fun x y : Int => x < y) l) {i : Nat} (hi : i + 1 < l.length) {x : Int} (hx : x ∈ l) : x ≤ l.getD i 0 ∨ l.getD (i + 1) 0 ≤ x := by
  obtain ⟨j, hj, rfl⟩ := mem_get hx
  rcases Nat.lt_or_ge i j with hlt | hge
  · rcases Nat.lt_or_eq_of_le hlt with h2 | h2
    · exact .inr (Int.le_of_lt (asc_get h h2 hj))
    · exact .inr (by rw [← h2]; exact Int.le_refl _)
  · rcases Nat.lt_or_eq_of_le hge with h2 | h2
    · exact .inl (Int.le_of_lt (asc_get h h2 (by omega)))
    · exact .inl (by rw [h2]; exact Int.le_refl _)
theorem spans_len : ∀ l : List Int, (spans l).length = l.length - 1
  | [] => rfl
  | [_] => rfl
  | a :: b :: l => by rw [spans, List.length_cons, spans_len (b :: l)]; simp
theorem spans_get : ∀ (l : List Int) (i : Nat), i + 1 < l.length → (spans l).getD i default = (l.getD i 0, l.getD (i + 1) 0)
  | [], i, h => by simp at h
  | [_], i, h => by simp at h
  | a :: b :: l, 0, h => rfl
  | a :: b :: l, i + 1, h => by
    rw [spans, List.getD_cons_succ, spans_get (b :: l) i (by simp at h ⊢; omega)]; rfl

section
variable {pe : List UInt8 → Int} {l : List Rule} (h : chkR pe l = 0)
theorem cuts_asc (l : List Rule) : List.Pairwise (fun x y : Int => x < y) (cuts l) := compact_asc (sortI_sorted _)
theorem mem_cuts {x : Int} : x ∈ cuts l ↔ x = 0 ∨ x = 60 ∨ ∃ r, r ∈ l ∧ (x = r.lo ∨ x = r.hi) := by
  rw [cuts, compact_mem, mem_sortI, cutsOf]
  simp [List.mem_flatMap]
include h in
theorem cuts_range {x : Int} (hx : x ∈ cuts l) : 0 ≤ x ∧ x ≤ 60 := by
  rcases mem_cuts.1 hx with rfl | rfl | ⟨r, hr, rfl | rfl⟩
  · omega
  · omega
  · have := range_ok h r hr; omega
  · have := range_ok h r hr; omega
theorem cuts_two (l : List Rule) : 2 ≤ (cuts l).length := by
  obtain ⟨i, hi, h0⟩ := mem_get (mem_cuts (l := l).2 (.inl rfl) : (0 : Int) ∈ cuts l)
  obtain ⟨j, hj, h1⟩ := mem_get (mem_cuts (l := l).2 (.inr (.inl rfl)) : (60 : Int) ∈ cuts l)
  have : i ≠ j := fun e => by subst e; omega
  omega
include h in
theorem cuts_first : (cuts l).getD 0 0 = 0 := by
  have h2 := cuts_two l
  obtain ⟨i, hi, h0⟩ := mem_get (mem_cuts (l := l).2 (.inl rfl) : (0 : Int) ∈ cuts l)
  have h3 := cuts_range h (get_mem (show 0 < (cuts l).length by omega))
  rcases Nat.eq_zero_or_pos i with rfl | hp
  · exact h0
  · have := asc_get (cuts_asc l) hp hi; omega
include h in
theorem cuts_last : (cuts l).getD ((cuts l).length - 1) 0 = 60 := by
  have h2 := cuts_two l
  obtain ⟨i, hi, h0⟩ := mem_get (mem_cuts (l := l).2 (.inr (.inl rfl)) : (60 : Int) ∈ cuts l)
  have h3 := cuts_range h (get_mem (show (cuts l).length - 1 < (cuts l).length by omega))
  rcases Nat.lt_or_eq_of_le (show i ≤ (cuts l).length - 1 by omega) with hp | rfl
  · have := asc_get (cuts_asc l) hp (by omega); omega
  · exact h0
/-- A rule covers a band whole or not at all. -/
theorem whole {r : Rule} (hr : r ∈ l) {i : Nat} (hi : i + 1 < (cuts l).length) (h1 : r.lo < (cuts l).getD (i + 1) 0) (h2 : (cuts l).getD i 0 < r.hi) : r.lo ≤ (cuts l).getD i 0 ∧ (cuts l).getD (i + 1) 0 ≤ r.hi := by
  have a := gap (cuts_asc l) hi (mem_cuts.2 (.inr (.inr ⟨r, hr, .inl rfl⟩)))
  have b := gap (cuts_asc l) hi (mem_cuts.2 (.inr (.inr ⟨r, hr, .inr rfl⟩)))
  omega
include h in
theorem needed {i : Nat} (hi : i + 1 < (cuts l).length) : (cuts l).getD (i + 1) 0 = 60 ∨ ∃ r, r ∈ l ∧ (r.lo = (cuts l).getD (i + 1) 0 ∨ r.hi = (cuts l).getD (i + 1) 0) := by
  have h1 := asc_get (cuts_asc l) (show i < i + 1 by omega) hi
  have h2 := cuts_range h (get_mem (show i < (cuts l).length by omega))
  rcases mem_cuts.1 (get_mem hi) with h3 | h3 | ⟨r, hr, h3⟩
  · omega
  · exact .inl h3
  · exact .inr ⟨r, hr, by omega⟩
end
end Rul
set_option linter.unusedVariables false
set_option linter.unusedSimpArgs false
set_option maxRecDepth 100000
namespace Go.Proofs.YtefpcfooahogkaaGreatDoor
open Go Nv

/- The program's name. -/
theorem letters_eq : Rul.letters = [97, 98, 99, 100, 101, 102, 103, 104, 105, 106, 107, 108, 109, 110, 111, 112, 113, 114, 115, 116, 117, 118, 119, 120, 121, 122] := rfl
theorem signs_eq : Rul.signs = [97, 98, 99, 100, 101, 102, 103, 104, 105, 106, 107, 108, 109, 110, 111, 112, 113, 114, 115, 116, 117, 118, 119, 120, 121, 122, 48, 49, 50, 51, 52, 53, 54, 55, 56, 57, 45] := rfl
theorem name11 (s : List UInt8) (hs : s.length ≤ 9223372036854775807) : PCall Tryz.prog 29 [.d (.str s)] (.d (.bool (Rul.nameB s))) := by
  refine fn29.pure noHint (Nat.le_refl _) (by simp only [go_sem]) (by simp only [go_sem]) ?_
  cases s with
  | nil =>
    simp (disch := omega) only [go_sem, reduceIte, reduceCtorEq, Nat.reduceBEq, Nat.reduceEqDiff, Nat.reduceAdd, Nat.reduceLT, Nat.reduceLeDiff, Int.reduceNeg, Int.reduceAdd, Int.reduceLT, Int.reduceLE, Int.reduceEq, Int.reduceNe]
    rfl
  | cons c s =>
    have hne : ¬ (c :: s = []) := by simp
    by_cases hl : 16 < (c :: s).length
    · have hl' : (16 : Int) < (((s.length + 1 : Nat)) : Int) := by simp at hl; omega
      have e : Rul.nameB (c :: s) = false := by unfold Rul.nameB; rw [decide_eq_false (by omega)]; rfl
      simp (disch := omega) only [go_sem, reduceIte, reduceCtorEq, Nat.reduceBEq, Nat.reduceEqDiff, Nat.reduceAdd, Nat.reduceLT, Nat.reduceLeDiff, Int.reduceNeg, Int.reduceAdd, Int.reduceLT, Int.reduceLE, Int.reduceEq, Int.reduceNe, hne, hl', e]
    · have hl' : ¬ (16 : Int) < (((s.length + 1 : Nat)) : Int) := by simp at hl; omega
      simp (disch := omega) only [go_sem, reduceIte, reduceCtorEq, Nat.reduceBEq, Nat.reduceEqDiff, Nat.reduceAdd, Nat.reduceLT, Nat.reduceLeDiff, Int.reduceNeg, Int.reduceAdd, Int.reduceLT, Int.reduceLE, Int.reduceEq, Int.reduceNe, hne, hl']
      refine ⟨by omega, ?_⟩
      refine (contains_one _ c).at ?_
      by_cases hc : 0 ≤ Lib.indexByte Rul.letters c
      · have hc' := hc
        rw [letters_eq] at hc'
        simp (disch := omega) only [go_sem, reduceIte, reduceCtorEq, Nat.reduceBEq, Nat.reduceEqDiff, Nat.reduceAdd, Nat.reduceLT, Nat.reduceLeDiff, Int.reduceNeg, Int.reduceAdd, Int.reduceLT, Int.reduceLE, Int.reduceEq, Int.reduceNe, hc']
        obtain ⟨w, hw⟩ : ∃ w, w = c :: s := ⟨_, rfl⟩
        have hwl : w.length = s.length + 1 := by rw [hw]; rfl
        rw [← hw, ← hwl]
        refine wL_ind (fun (j : Nat) fr σ => j ≤ w.length ∧ fr 0 = .d (.str w) ∧ fr 18 = .d (.int .i64 w.length) ∧ fr 19 = .d (.int .i64 j) ∧ (w.take j).all (Rul.isIn Rul.signs) = true) (fun j => w.length - j) ?_ 0 ?_
        · rintro j fr σ ⟨hj, f0, f18, f19, hall⟩ ih
          by_cases hlt : j < w.length
          · obtain ⟨x, hx⟩ : ∃ x, x = w.getD j 0 := ⟨_, rfl⟩
            have hsl : (w.take (j + 1)).drop j = [x] := by
              rw [hx, List.drop_take, show j + 1 - j = 1 by omega, List.drop_eq_getElem_cons hlt, List.take_succ_cons, List.take_zero, List.getD_eq_getElem?_getD, List.getElem?_eq_getElem hlt]; rfl
            have htk : w.take (j + 1) = w.take j ++ [x] := by rw [List.take_succ_eq_append_getElem hlt, hx, List.getD_eq_getElem?_getD, List.getElem?_eq_getElem hlt]; rfl
            simp (disch := omega) only [go_sem, reduceIte, reduceCtorEq, Nat.reduceBEq, Nat.reduceEqDiff, Nat.reduceAdd, Nat.reduceLT, Nat.reduceLeDiff, Int.reduceNeg, Int.reduceAdd, Int.reduceLT, Int.reduceLE, Int.reduceEq, Int.reduceNe, f0, f18, f19, hlt, hsl]
            refine ⟨by omega, ?_⟩
            refine (contains_one _ x).at ?_
            by_cases hi : 0 ≤ Lib.indexByte Rul.signs x
            · have hi' := hi
              rw [signs_eq] at hi'
              simp (disch := omega) only [go_sem, reduceIte, reduceCtorEq, Nat.reduceBEq, Nat.reduceEqDiff, Nat.reduceAdd, Nat.reduceLT, Nat.reduceLeDiff, Int.reduceNeg, Int.reduceAdd, Int.reduceLT, Int.reduceLE, Int.reduceEq, Int.reduceNe, hi', f19]
              refine ih (j + 1) _ _ (by omega) ⟨by omega, ?_, ?_, ?_, ?_⟩
              · simp (disch := omega) only [go_sem, reduceIte, reduceCtorEq, Nat.reduceBEq, Nat.reduceEqDiff, Nat.reduceAdd, Nat.reduceLT, Nat.reduceLeDiff, Int.reduceNeg, Int.reduceAdd, Int.reduceLT, Int.reduceLE, Int.reduceEq, Int.reduceNe, f0]
              · simp (disch := omega) only [go_sem, reduceIte, reduceCtorEq, Nat.reduceBEq, Nat.reduceEqDiff, Nat.reduceAdd, Nat.reduceLT, Nat.reduceLeDiff, Int.reduceNeg, Int.reduceAdd, Int.reduceLT, Int.reduceLE, Int.reduceEq, Int.reduceNe, f18]
              · simp (disch := omega) only [go_sem, reduceIte, reduceCtorEq, Nat.reduceBEq, Nat.reduceEqDiff, Nat.reduceAdd, Nat.reduceLT, Nat.reduceLeDiff, Int.reduceNeg, Int.reduceAdd, Int.reduceLT, Int.reduceLE, Int.reduceEq, Int.reduceNe, f19]
              · rw [htk, List.all_append, hall]; simp [Rul.isIn, hi]
            · have hi' := hi
              rw [signs_eq] at hi'
              have e : Rul.nameB w = false := by
                rw [hw, Rul.nameB]
                have : w.all (Rul.isIn Rul.signs) = false := by
                  rw [Bool.eq_false_iff]
                  intro h
                  have := List.all_eq_true.1 h x (by rw [hx, List.getD_eq_getElem?_getD, List.getElem?_eq_getElem hlt]; exact List.getElem_mem hlt)
                  exact hi (by simpa [Rul.isIn] using this)
                rw [← hw, this]; simp
              simp (disch := omega) only [go_sem, reduceIte, reduceCtorEq, Nat.reduceBEq, Nat.reduceEqDiff, Nat.reduceAdd, Nat.reduceLT, Nat.reduceLeDiff, Int.reduceNeg, Int.reduceAdd, Int.reduceLT, Int.reduceLE, Int.reduceEq, Int.reduceNe, hi', e]
          · have e : Rul.nameB w = true := by
              rw [List.take_of_length_le (by omega)] at hall
              have h1 : Rul.isIn Rul.letters c = true := by unfold Rul.isIn; exact decide_eq_true hc
              rw [hw, Rul.nameB, ← hw, hall, decide_eq_true (by omega), h1]; rfl
            simp (disch := omega) only [go_sem, reduceIte, reduceCtorEq, Nat.reduceBEq, Nat.reduceEqDiff, Nat.reduceAdd, Nat.reduceLT, Nat.reduceLeDiff, Int.reduceNeg, Int.reduceAdd, Int.reduceLT, Int.reduceLE, Int.reduceEq, Int.reduceNe, f18, f19, hlt, e]
        · refine ⟨by omega, ?_, ?_, ?_, rfl⟩ <;> simp (disch := omega) only [go_sem, reduceIte, reduceCtorEq, Nat.reduceBEq, Nat.reduceEqDiff, Nat.reduceAdd, Nat.reduceLT, Nat.reduceLeDiff, Int.reduceNeg, Int.reduceAdd, Int.reduceLT, Int.reduceLE, Int.reduceEq, Int.reduceNe]
      · have hc' := hc
        rw [letters_eq] at hc'
        have e : Rul.nameB (c :: s) = false := by
          have h1 : Rul.isIn Rul.letters c = false := by unfold Rul.isIn; exact decide_eq_false hc
          simp only [Rul.nameB, h1]; simp
        simp (disch := omega) only [go_sem, reduceIte, reduceCtorEq, Nat.reduceBEq, Nat.reduceEqDiff, Nat.reduceAdd, Nat.reduceLT, Nat.reduceLeDiff, Int.reduceNeg, Int.reduceAdd, Int.reduceLT, Int.reduceLE, Int.reduceEq, Int.reduceNe, hc', e]
end Go.Proofs.YtefpcfooahogkaaGreatDoor
/- Patterns as texts of characters: how they are read, and how they are written. Plain: no program. -/

set_option linter.unusedVariables false
set_option linter.unusedSimpArgs false
namespace Pat

def allS : List (Int × Int) := [(0, 55295), (57344, 1114111)]
def isCh (r : Int) : Bool := (decide (0 ≤ r) && decide (r ≤ 55295)) || (decide (57344 ≤ r) && decide (r ≤ 1114111))
def clip1 (a b : Int) (q : Int × Int) : List (Int × Int) := if max a q.1 ≤ min b q.2 then [(max a q.1, min b q.2)] else []
def clipS (a b : Int) : List (Int × Int) := clip1 a b (0, 55295) ++ clip1 a b (57344, 1114111)
/-- One range more, at the end. -/
def joinR (out : List (Int × Int)) (r : Int × Int) : List (Int × Int) :=
  if 0 < out.length ∧ r.1 ≤ (out.getD (out.length - 1) default).2 + 1 then out.set (out.length - 1) ((out.getD (out.length - 1) default).1, max (out.getD (out.length - 1) default).2 r.2)
  else out ++ [r]
def compL : Int → List (Int × Int) → List (Int × Int)
  | low, [] => clipS low 1114111
  | low, r :: l => clipS low (r.1 - 1) ++ compL (r.2 + 1) l
def compS (l : List (Int × Int)) : List (Int × Int) := compL 0 l

/-- The characters that stand behind a backslash: outside of classes, and in them. -/
def spec : List Int := [92, 40, 41, 91, 93, 123, 125, 124, 42, 43, 63, 46]
def insd : List Int := [92, 93, 94, 45]

def digit (c : Int) : Bool := decide (48 ≤ c) && decide (c ≤ 57)
def numL : List Int → Int → Int × List Int
  | [], n => (n, [])
  | c :: t, n => if digit c then numL t (min (10 * n + (c - 48)) 1000) else (n, c :: t)
def numP (l : List Int) : Option (Int × List Int) :=
  if (numL l 0).2.length = l.length ∨ (l.headD 0 = 48 ∧ (numL l 0).2.length + 1 < l.length) ∨ 20 < (numL l 0).1 then none else some (numL l 0)
def oneP : List Int → Option (Int × List Int)
  | [] => none
  | c :: t => some (c, t)
def letP : List Int → Option (Int × List Int)
  | [] => none
  | c :: t => if c = 92 then oneP t else if c = 93 ∨ c = 94 ∨ c = 45 then none else some (c, t)
/-- A letter, or two with a sign between them. -/
def itemP (l : List Int) : Option ((Int × Int) × List Int) :=
  match letP l with
  | none => none
  | some x => if x.2.headD (-1) = 45 then (letP x.2.tail).map fun y => ((x.1, y.1), y.2) else some ((x.1, x.1), x.2)
def clsP : Nat → List (Int × Int) → List Int → Option (List (Int × Int) × List Int)
  | 0, _, _ => none
  | f + 1, acc, l =>
    if acc ≠ [] ∧ l.headD (-1) = 93 then some (acc, l.tail)
    else match itemP l with
      | none => none
      | some (q, r) => if q.2 < q.1 then none else clsP f (acc ++ clipS q.1 q.2) r

section
variable (sort : List (Int × Int) → List (Int × Int))
def normS (l : List (Int × Int)) : List (Int × Int) := (sort l).foldl joinR []
def classP (l : List Int) : Option (List (Int × Int) × List Int) :=
  if l.headD (-1) = 94 then (clsP (l.length + 1) [] l.tail).map fun x => (compS (normS sort x.1), x.2)
  else (clsP (l.length + 1) [] l).map fun x => (normS sort x.1, x.2)

def setT (s : List (Int × Int)) : Tree := .mk 2 s [] 0 0
def rep5 (x : Tree) (a b : Int) : Tree := .mk 5 [] [x] a b
def mkJoin : List Tree → Tree
  | [] => .mk 1 [] [] 0 0
  | [x] => x
  | l => .mk 3 [] l 0 0
def mkChoice : List Tree → Tree
  | [x] => x
  | l => .mk 4 [] l 0 0

variable (ch : List Int → Option (Tree × List Int))
def atomP : List Int → Option (Tree × List Int)
  | [] => none
  | c :: t =>
    if c = 40 then (match ch t with
      | none => none
      | some (n, r) => if r.headD (-1) = 41 then some (n, r.tail) else none)
    else if c = 46 then some (setT allS, t)
    else if c = 91 then (classP sort t).map fun x => (setT x.1, x.2)
    else if c = 92 then (match t with | [] => none | d :: t => some (setT [(d, d)], t))
    else if c ∈ spec then none
    else some (setT [(c, c)], t)
/-- What stands between the braces of a repetition. -/
def bndP (l : List Int) : Option ((Int × Int) × List Int) :=
  match numP l with
  | none => none
  | some (a, r) =>
    match (if r.headD (-1) = 44 then (if r.tail.headD (-1) = 125 then some (-1, r.tail) else numP r.tail) else some (a, r)) with
    | none => none
    | some (b, r) => if r.headD (-1) = 125 ∧ ¬ (0 ≤ b ∧ b < a) then some ((a, b), r.tail) else none
def repP (l : List Int) : Option (Tree × List Int) :=
  match atomP sort ch l with
  | none => none
  | some (x, r) =>
    if r.headD (-1) = 42 then some (rep5 x 0 (-1), r.tail)
    else if r.headD (-1) = 43 then some (rep5 x 1 (-1), r.tail)
    else if r.headD (-1) = 63 then some (rep5 x 0 1, r.tail)
    else if r.headD (-1) = 123 then (bndP r.tail).map fun y => (rep5 x y.1.1 y.1.2, y.2)
    else some (x, r)
def joinL : Nat → List Int → Option (List Tree × List Int)
  | 0, _ => none
  | f + 1, l =>
    if l.headD (-1) < 0 ∨ l.headD (-1) = 124 ∨ l.headD (-1) = 41 then some ([], l)
    else match repP sort ch l with
      | none => none
      | some (x, r) => (joinL f r).map fun y => (x :: y.1, y.2)
def joinP (l : List Int) : Option (Tree × List Int) := (joinL sort ch (l.length + 1) l).map fun y => (mkJoin y.1, y.2)
def choiceL : Nat → List Int → Option (List Tree × List Int)
  | 0, _ => none
  | f + 1, l =>
    match joinP sort ch l with
    | none => none
    | some (x, r) => if r.headD (-1) = 124 then (choiceL f r.tail).map fun y => (x :: y.1, y.2) else some ([x], r)
def choiceP (l : List Int) : Option (Tree × List Int) := (choiceL sort ch (l.length + 1) l).map fun y => (mkChoice y.1, y.2)
end
def chP (sort : List (Int × Int) → List (Int × Int)) : Nat → List Int → Option (Tree × List Int)
  | 0 => fun _ => none
  | f + 1 => choiceP sort (chP sort f)
/-- The tree of a pattern, if it is one. -/
def parseC (sort : List (Int × Int) → List (Int × Int)) (l : List Int) : Option Tree :=
  match chP sort (l.length + 1) l with
  | some (n, []) => some n
  | _ => none

/- writing -/
def escC (c : Int) (sp : List Int) : List Int := if c ∈ sp then [92, c] else [c]
def itemC (r : Int × Int) : List Int := escC r.1 insd ++ if r.1 < r.2 then 45 :: escC r.2 insd else []
def itemsC (l : List (Int × Int)) : List Int := l.flatMap itemC
def setC (s : List (Int × Int)) : List Int :=
  if s = allS then [46] else if s = [] then [91, 94] ++ itemsC allS ++ [93]
  else if s.length = 1 ∧ (s.headD default).1 = (s.headD default).2 then escC (s.headD default).1 spec
  else 91 :: itemsC s ++ [93]
def numC (n : Int) : List Int := if n < 10 then [48 + n] else [48 + n / 10, 48 + n % 10]
def sufC (a b : Int) : List Int :=
  if a = 0 ∧ b = -1 then [42] else if a = 1 ∧ b = -1 then [43] else if a = 0 ∧ b = 1 then [63]
  else if a = b then 123 :: numC a ++ [125] else if b = -1 then 123 :: numC a ++ [44, 125] else 123 :: numC a ++ 44 :: numC b ++ [125]
def encl (k e : Int) : Bool :=
  if k = 3 then decide (e = 3) || decide (e = 4) || decide (e = 1) else if k = 4 then decide (e = 4) else !decide (e = 2)
def paren (b : Bool) (l : List Int) : List Int := if b then 40 :: l ++ [41] else l
def sepC : List (List Int) → List Int
  | [] => []
  | [x] => x
  | x :: l => x ++ 124 :: sepC l
mutual
def fmtC : Tree → List Int
  | .mk k s l a b => if k = 2 then setC s else if k = 4 then sepC (fmtL k l) else if k = 5 then (fmtL k l).headD [] ++ sufC a b else (fmtL k l).flatten
def fmtL : Int → List Tree → List (List Int)
  | _, [] => []
  | k, x :: l => paren (encl k x.kind) (fmtC x) :: fmtL k l
end
end Pat
