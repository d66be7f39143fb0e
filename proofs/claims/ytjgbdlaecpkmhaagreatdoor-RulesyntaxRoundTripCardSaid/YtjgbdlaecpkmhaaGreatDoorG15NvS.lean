/- Part of a proof about the functions of this seat. -/
import Derived.Test.YtjgbdlaecpkmhaaGreatDoorG11Base34
import Derived.Shelf.Strings.Search1
import Derived.Shelf.Strings.Search2
import Derived.Shelf.Strings.Search3
import Derived.Shelf.LaysM
import Derived.Shelf.Strings.Shaped
import Derived.Test.YtjgbdlaecpkmhaaGreatDoorProg
import Derived.Test.YtjgbdlaecpkmhaaGreatDoorG12NvY
/- The prepared code of further functions. Written by a program of mine (gen.py) out of what the loaded dump prints. -/

set_option linter.unusedVariables false
set_option maxRecDepth 100000
namespace Go.Proofs.YtjgbdlaecpkmhaaGreatDoor
open Go Nv

/-- narrator.rulesyntax.Parse -/
theorem fn10 : FnIs Tryz.prog 10 1 [Go.ResultVar.tmp 2, Go.ResultVar.tmp 3, Go.ResultVar.tmp 4] (.seq (.region [⟨some 2, Go.Op.assign (Go.Operand.const (Go.Value.slice none 0 0)), 23, none⟩,
      ⟨some 3, Go.Op.assign (Go.Operand.const (Go.Value.int Go.IntKind.i64 0)), 3, none⟩,
      ⟨some 4, Go.Op.assign (Go.Operand.const (Go.Value.int Go.IntKind.i64 0)), 24, none⟩])
    (.seq (.region [⟨some 5, Go.Op.assign (Go.Operand.const (Go.Value.slice none 0 0)), 23, none⟩])
    (.seq (.seq (.region [⟨some 15, Go.Op.move (Go.Operand.tmp 0), 9, none⟩,
      ⟨some 16, Go.Op.call { callee := Go.Callee.value (Go.Operand.func 18), args := #[Go.Operand.tmp 15, Go.Operand.const (Go.Value.string { data := #[10] })], argTypes := #[9, 9] }, 37, none⟩,
      ⟨some 17, Go.Op.call { callee := Go.Callee.builtin Go.Builtin.len, args := #[Go.Operand.tmp 16], argTypes := #[37] }, 3, none⟩,
      ⟨some 18, Go.Op.move (Go.Operand.const (Go.Value.int Go.IntKind.i64 0)), 3, none⟩])
    (.block 0
      (.loop
        (.seq (.region [⟨some 19, Go.Op.binOp Go.BinOp.lss 3 (Go.Operand.tmp 18) (Go.Operand.tmp 17) 3, 0, none⟩])
        (.seq (.cond (Go.Operand.tmp 19)
          .skip
          (.exit 0))
        (.seq (.block 1
          (.seq (.region [⟨some 20, Go.Op.move (Go.Operand.tmp 18), 3, none⟩,
            ⟨some 21, Go.Op.indexAddr 37 (Go.Operand.tmp 16) (Go.Operand.tmp 18), 0, none⟩,
            ⟨some 22, Go.Op.load 9 (Go.Operand.tmp 21), 9, none⟩,
            ⟨some 6, Go.Op.assign (Go.Operand.tmp 20), 3, none⟩,
            ⟨some 7, Go.Op.assign (Go.Operand.tmp 22), 9, none⟩])
          (.seq (.region [⟨some 24, Go.Op.move (Go.Operand.tmp 7), 9, none⟩,
            ⟨some 25, Go.Op.call { callee := Go.Callee.value (Go.Operand.func 19), args := #[Go.Operand.tmp 24, Go.Operand.const (Go.Value.string { data := #[34] })], argTypes := #[9, 9] }, 42, none⟩,
            ⟨some 23, Go.Op.move (Go.Operand.tmp 25), 42, none⟩,
            ⟨some 26, Go.Op.extract (Go.Operand.tmp 23) 0, 9, none⟩,
            ⟨some 27, Go.Op.extract (Go.Operand.tmp 23) 1, 9, none⟩,
            ⟨some 28, Go.Op.extract (Go.Operand.tmp 23) 2, 4, none⟩,
            ⟨some 8, Go.Op.assign (Go.Operand.tmp 26), 9, none⟩,
            ⟨some 9, Go.Op.assign (Go.Operand.tmp 27), 9, none⟩,
            ⟨some 10, Go.Op.assign (Go.Operand.tmp 28), 4, none⟩])
          (.seq (.region [⟨some 29, Go.Op.move (Go.Operand.tmp 8), 9, none⟩,
            ⟨some 30, Go.Op.call { callee := Go.Callee.value (Go.Operand.func 21), args := #[Go.Operand.tmp 29], argTypes := #[9] }, 37, none⟩,
            ⟨some 11, Go.Op.assign (Go.Operand.tmp 30), 37, none⟩])
          (.seq (.seq (.region [⟨some 31, Go.Op.move (Go.Operand.tmp 11), 37, none⟩,
            ⟨some 32, Go.Op.call { callee := Go.Callee.builtin Go.Builtin.len, args := #[Go.Operand.tmp 31], argTypes := #[37] }, 3, none⟩,
            ⟨some 33, Go.Op.binOp Go.BinOp.eql 3 (Go.Operand.tmp 32) (Go.Operand.const (Go.Value.int Go.IntKind.i64 0)) 3, 4, none⟩,
            ⟨some 34, Go.Op.move (Go.Operand.tmp 33), 4, none⟩,
            ⟨some 35, Go.Op.move (Go.Operand.tmp 10), 4, (some (34, true))⟩,
            ⟨some 36, Go.Op.unOp Go.UnOp.not 4 (Go.Operand.tmp 35), 4, (some (34, true))⟩,
            ⟨some 37, Go.Op.pick (Go.Operand.tmp 34) (Go.Operand.tmp 36) (Go.Operand.const (Go.Value.bool false)), 4, none⟩,
            ⟨some 38, Go.Op.move (Go.Operand.tmp 37), 4, none⟩,
            ⟨some 39, Go.Op.move (Go.Operand.tmp 11), 37, (some (38, false))⟩,
            ⟨some 40, Go.Op.call { callee := Go.Callee.builtin Go.Builtin.len, args := #[Go.Operand.tmp 39], argTypes := #[37] }, 3, (some (38, false))⟩,
            ⟨some 41, Go.Op.binOp Go.BinOp.gtr 3 (Go.Operand.tmp 40) (Go.Operand.const (Go.Value.int Go.IntKind.i64 0)) 3, 4, (some (38, false))⟩,
            ⟨some 42, Go.Op.move (Go.Operand.tmp 41), 4, (some (38, false))⟩,
            ⟨some 43, Go.Op.move (Go.Operand.tmp 11), 37, (some (42, true))⟩,
            ⟨some 44, Go.Op.indexAddr 37 (Go.Operand.tmp 43) (Go.Operand.const (Go.Value.int Go.IntKind.i64 0)), 0, (some (42, true))⟩,
            ⟨some 45, Go.Op.load 9 (Go.Operand.tmp 44), 9, (some (42, true))⟩,
            ⟨some 46, Go.Op.index 9 (Go.Operand.tmp 45) (Go.Operand.const (Go.Value.int Go.IntKind.i64 0)), 5, (some (42, true))⟩,
            ⟨some 47, Go.Op.binOp Go.BinOp.eql 5 (Go.Operand.tmp 46) (Go.Operand.const (Go.Value.int Go.IntKind.u8 35)) 5, 4, (some (42, true))⟩,
            ⟨some 48, Go.Op.pick (Go.Operand.tmp 42) (Go.Operand.tmp 47) (Go.Operand.const (Go.Value.bool false)), 4, (some (38, false))⟩,
            ⟨some 49, Go.Op.pick (Go.Operand.tmp 38) (Go.Operand.const (Go.Value.bool true)) (Go.Operand.tmp 48), 4, none⟩])
          (.cond (Go.Operand.tmp 49)
            (.exit 1)
            .skip))
          (.seq (.region [⟨some 51, Go.Op.move (Go.Operand.tmp 11), 37, none⟩,
            ⟨some 52, Go.Op.move (Go.Operand.tmp 9), 9, none⟩,
            ⟨some 53, Go.Op.call { callee := Go.Callee.value (Go.Operand.func 22), args := #[Go.Operand.tmp 51, Go.Operand.tmp 52], argTypes := #[37, 9] }, 46, none⟩,
            ⟨some 50, Go.Op.move (Go.Operand.tmp 53), 46, none⟩,
            ⟨some 54, Go.Op.extract (Go.Operand.tmp 50) 0, 33, none⟩,
            ⟨some 55, Go.Op.extract (Go.Operand.tmp 50) 1, 4, none⟩,
            ⟨some 12, Go.Op.alloc 33, 0, none⟩,
            ⟨none, Go.Op.store 33 (Go.Operand.tmp 12) (Go.Operand.tmp 54), 0, none⟩,
            ⟨some 13, Go.Op.assign (Go.Operand.tmp 55), 4, none⟩])
          (.seq (.seq (.region [⟨some 56, Go.Op.move (Go.Operand.tmp 10), 4, none⟩,
            ⟨some 57, Go.Op.unOp Go.UnOp.not 4 (Go.Operand.tmp 56), 4, none⟩,
            ⟨some 58, Go.Op.move (Go.Operand.tmp 57), 4, none⟩,
            ⟨some 59, Go.Op.move (Go.Operand.tmp 13), 4, (some (58, false))⟩,
            ⟨some 60, Go.Op.unOp Go.UnOp.not 4 (Go.Operand.tmp 59), 4, (some (58, false))⟩,
            ⟨some 61, Go.Op.pick (Go.Operand.tmp 58) (Go.Operand.const (Go.Value.bool true)) (Go.Operand.tmp 60), 4, none⟩])
          (.cond (Go.Operand.tmp 61)
            (.seq (.region [⟨some 62, Go.Op.move (Go.Operand.tmp 6), 3, none⟩,
              ⟨some 63, Go.Op.binOp Go.BinOp.add 3 (Go.Operand.tmp 62) (Go.Operand.const (Go.Value.int Go.IntKind.i64 1)) 3, 3, none⟩,
              ⟨some 2, Go.Op.assign (Go.Operand.const (Go.Value.slice none 0 0)), 23, none⟩,
              ⟨some 3, Go.Op.assign (Go.Operand.tmp 63), 3, none⟩,
              ⟨some 4, Go.Op.assign (Go.Operand.const (Go.Value.int Go.IntKind.i64 3)), 24, none⟩])
            .ret)
            .skip))
          (.seq (.region [⟨some 64, Go.Op.move (Go.Operand.tmp 5), 23, none⟩,
            ⟨some 65, Go.Op.load 33 (Go.Operand.tmp 12), 33, none⟩,
            ⟨some 66, Go.Op.buildSlice 23 1 #[(0, Go.Operand.tmp 65)], 23, none⟩,
            ⟨some 67, Go.Op.call { callee := Go.Callee.builtin Go.Builtin.append, args := #[Go.Operand.tmp 64, Go.Operand.tmp 66], argTypes := #[23, 23] }, 23, none⟩,
            ⟨some 5, Go.Op.assign (Go.Operand.tmp 67), 23, none⟩])
          (.seq (.region [⟨some 68, Go.Op.move (Go.Operand.tmp 5), 23, none⟩,
            ⟨some 69, Go.Op.call { callee := Go.Callee.value (Go.Operand.func 12), args := #[Go.Operand.tmp 68], argTypes := #[23] }, 24, none⟩,
            ⟨some 14, Go.Op.assign (Go.Operand.tmp 69), 24, none⟩])
          (.seq (.region [⟨some 70, Go.Op.move (Go.Operand.tmp 14), 24, none⟩,
            ⟨some 71, Go.Op.binOp Go.BinOp.neq 24 (Go.Operand.tmp 70) (Go.Operand.const (Go.Value.int Go.IntKind.i64 0)) 24, 4, none⟩])
          (.cond (Go.Operand.tmp 71)
            (.seq (.region [⟨some 72, Go.Op.move (Go.Operand.tmp 6), 3, none⟩,
              ⟨some 73, Go.Op.binOp Go.BinOp.add 3 (Go.Operand.tmp 72) (Go.Operand.const (Go.Value.int Go.IntKind.i64 1)) 3, 3, none⟩,
              ⟨some 74, Go.Op.move (Go.Operand.tmp 14), 24, none⟩,
              ⟨some 2, Go.Op.assign (Go.Operand.const (Go.Value.slice none 0 0)), 23, none⟩,
              ⟨some 3, Go.Op.assign (Go.Operand.tmp 73), 3, none⟩,
              ⟨some 4, Go.Op.assign (Go.Operand.tmp 74), 24, none⟩])
            .ret)
            .skip)))))))))))
        (.region [⟨some 75, Go.Op.binOp Go.BinOp.add 3 (Go.Operand.tmp 18) (Go.Operand.const (Go.Value.int Go.IntKind.i64 1)) 3, 3, none⟩,
          ⟨some 18, Go.Op.move (Go.Operand.tmp 75), 3, none⟩])))))))
    (.seq (.region [⟨some 76, Go.Op.move (Go.Operand.tmp 5), 23, none⟩,
      ⟨some 2, Go.Op.assign (Go.Operand.tmp 76), 23, none⟩,
      ⟨some 3, Go.Op.assign (Go.Operand.const (Go.Value.int Go.IntKind.i64 0)), 3, none⟩,
      ⟨some 4, Go.Op.assign (Go.Operand.const (Go.Value.int Go.IntKind.i64 0)), 24, none⟩])
    .ret)))) :=
  ⟨foll, Tryz.f10, Tryz.func10, by kernel_rfl, by kernel_rfl, by kernel_rfl, by rw [Tryz.ntmps10]; decide⟩

/-- narrator.rulesyntax.words -/
theorem fn21 : FnIs Tryz.prog 21 1 [Go.ResultVar.tmp 2] (.seq (.region [⟨some 2, Go.Op.assign (Go.Operand.const (Go.Value.slice none 0 0)), 37, none⟩])
    (.seq (.region [⟨some 3, Go.Op.move (Go.Operand.tmp 0), 9, none⟩,
      ⟨some 4, Go.Op.call { callee := Go.Callee.value (Go.Operand.func 36), args := #[Go.Operand.tmp 3, Go.Operand.func 37], argTypes := #[9, 65] }, 37, none⟩,
      ⟨some 2, Go.Op.assign (Go.Operand.tmp 4), 37, none⟩])
    .ret)) :=
  ⟨foll, Tryz.f21, Tryz.func21, by kernel_rfl, by kernel_rfl, by kernel_rfl, by rw [Tryz.ntmps21]; decide⟩

/-- narrator.rulesyntax.line -/
theorem fn22 : FnIs Tryz.prog 22 2 [Go.ResultVar.cell 4 33, Go.ResultVar.tmp 5] (.seq (.region [⟨some 4, Go.Op.alloc 33, 0, none⟩,
      ⟨some 5, Go.Op.assign (Go.Operand.const (Go.Value.bool false)), 4, none⟩])
    (.seq (.region [⟨some 10, Go.Op.move (Go.Operand.tmp 1), 9, none⟩,
      ⟨some 11, Go.Op.call { callee := Go.Callee.value (Go.Operand.func 38), args := #[Go.Operand.tmp 10, Go.Operand.const (Go.Value.string { data := #[32] })], argTypes := #[9, 9] }, 9, none⟩,
      ⟨some 1, Go.Op.assign (Go.Operand.tmp 11), 9, none⟩])
    (.seq (.region [⟨some 13, Go.Op.move (Go.Operand.tmp 1), 9, none⟩,
      ⟨some 14, Go.Op.call { callee := Go.Callee.value (Go.Operand.func 39), args := #[Go.Operand.tmp 13, Go.Operand.const (Go.Value.string { data := #[34] })], argTypes := #[9, 9] }, 67, none⟩,
      ⟨some 12, Go.Op.move (Go.Operand.tmp 14), 67, none⟩,
      ⟨some 15, Go.Op.extract (Go.Operand.tmp 12) 0, 9, none⟩,
      ⟨some 16, Go.Op.extract (Go.Operand.tmp 12) 1, 4, none⟩,
      ⟨some 6, Go.Op.assign (Go.Operand.tmp 15), 9, none⟩,
      ⟨some 7, Go.Op.assign (Go.Operand.tmp 16), 4, none⟩])
    (.seq (.seq (.region [⟨some 17, Go.Op.move (Go.Operand.tmp 7), 4, none⟩,
      ⟨some 18, Go.Op.unOp Go.UnOp.not 4 (Go.Operand.tmp 17), 4, none⟩,
      ⟨some 19, Go.Op.move (Go.Operand.tmp 18), 4, none⟩,
      ⟨some 20, Go.Op.move (Go.Operand.tmp 0), 37, (some (19, false))⟩,
      ⟨some 21, Go.Op.call { callee := Go.Callee.builtin Go.Builtin.len, args := #[Go.Operand.tmp 20], argTypes := #[37] }, 3, (some (19, false))⟩,
      ⟨some 22, Go.Op.binOp Go.BinOp.lss 3 (Go.Operand.tmp 21) (Go.Operand.const (Go.Value.int Go.IntKind.i64 2)) 3, 4, (some (19, false))⟩,
      ⟨some 23, Go.Op.pick (Go.Operand.tmp 19) (Go.Operand.const (Go.Value.bool true)) (Go.Operand.tmp 22), 4, none⟩])
    (.cond (Go.Operand.tmp 23)
      (.seq (.region [⟨some 24, Go.Op.build 33 #[], 33, none⟩,
        ⟨none, Go.Op.store 33 (Go.Operand.tmp 4) (Go.Operand.tmp 24), 0, none⟩,
        ⟨some 5, Go.Op.assign (Go.Operand.const (Go.Value.bool false)), 4, none⟩])
      .ret)
      .skip))
    (.seq (.draw [⟨⟨some 25, Go.Op.move (Go.Operand.tmp 0), 37, none⟩, false, false, true⟩,
      ⟨⟨some 26, Go.Op.indexAddr 37 (Go.Operand.tmp 25) (Go.Operand.const (Go.Value.int Go.IntKind.i64 0)), 0, none⟩, false, false, true⟩,
      ⟨⟨some 27, Go.Op.load 9 (Go.Operand.tmp 26), 9, none⟩, false, false, true⟩,
      ⟨⟨some 28, Go.Op.move (Go.Operand.tmp 6), 9, none⟩, false, false, true⟩,
      ⟨⟨some 29, Go.Op.call { callee := Go.Callee.value (Go.Operand.func 40), args := #[], argTypes := #[] }, 69, none⟩, false, false, true⟩,
      ⟨⟨some 30, Go.Op.move (Go.Operand.tmp 0), 37, none⟩, false, false, true⟩,
      ⟨⟨some 31, Go.Op.indexAddr 37 (Go.Operand.tmp 30) (Go.Operand.const (Go.Value.int Go.IntKind.i64 1)), 0, none⟩, false, false, true⟩,
      ⟨⟨some 32, Go.Op.load 9 (Go.Operand.tmp 31), 9, none⟩, false, false, true⟩,
      ⟨⟨some 33, Go.Op.lookup 69 (Go.Operand.tmp 29) (Go.Operand.tmp 32) false, 3, none⟩, false, false, true⟩,
      ⟨⟨some 34, Go.Op.build 33 #[(0, Go.Operand.tmp 27), (1, Go.Operand.tmp 28), (3, Go.Operand.const (Go.Value.int Go.IntKind.i64 60)), (4, Go.Operand.tmp 33)], 33, none⟩, false, false, true⟩,
      ⟨⟨some 8, Go.Op.alloc 33, 0, none⟩, true, false, false⟩,
      ⟨⟨none, Go.Op.store 33 (Go.Operand.tmp 8) (Go.Operand.tmp 34), 0, none⟩, true, false, false⟩])
    (.seq (.region [⟨some 36, Go.Op.move (Go.Operand.tmp 0), 37, none⟩,
      ⟨some 37, Go.Op.slice 37 (Go.Operand.tmp 36) (some (Go.Operand.const (Go.Value.int Go.IntKind.i64 2))) none none, 37, none⟩,
      ⟨some 38, Go.Op.makeFunc (Go.Fn.func 42) #[] #[Go.Operand.tmp 8], 29, none⟩,
      ⟨some 39, Go.Op.call { callee := Go.Callee.value (Go.Operand.func 41), args := #[Go.Operand.tmp 37, Go.Operand.const (Go.Value.string { data := #[119, 97, 105, 116] }), Go.Operand.tmp 38], argTypes := #[37, 9, 29] }, 71, none⟩,
      ⟨some 35, Go.Op.move (Go.Operand.tmp 39), 71, none⟩,
      ⟨some 40, Go.Op.extract (Go.Operand.tmp 35) 0, 37, none⟩,
      ⟨some 41, Go.Op.extract (Go.Operand.tmp 35) 1, 4, none⟩,
      ⟨some 0, Go.Op.assign (Go.Operand.tmp 40), 37, none⟩,
      ⟨some 9, Go.Op.assign (Go.Operand.tmp 41), 4, none⟩])
    (.seq (.seq (.region [⟨some 42, Go.Op.move (Go.Operand.tmp 9), 4, none⟩,
      ⟨some 43, Go.Op.unOp Go.UnOp.not 4 (Go.Operand.tmp 42), 4, none⟩])
    (.cond (Go.Operand.tmp 43)
      (.seq (.region [⟨some 44, Go.Op.build 33 #[], 33, none⟩,
        ⟨none, Go.Op.store 33 (Go.Operand.tmp 4) (Go.Operand.tmp 44), 0, none⟩,
        ⟨some 5, Go.Op.assign (Go.Operand.const (Go.Value.bool false)), 4, none⟩])
      .ret)
      .skip))
    (.seq (.region [⟨some 46, Go.Op.move (Go.Operand.tmp 0), 37, none⟩,
      ⟨some 47, Go.Op.makeFunc (Go.Fn.func 44) #[] #[Go.Operand.tmp 8], 29, none⟩,
      ⟨some 48, Go.Op.call { callee := Go.Callee.value (Go.Operand.func 41), args := #[Go.Operand.tmp 46, Go.Operand.const (Go.Value.string { data := #[114, 111, 119, 115] }), Go.Operand.tmp 47], argTypes := #[37, 9, 29] }, 71, none⟩,
      ⟨some 45, Go.Op.move (Go.Operand.tmp 48), 71, none⟩,
      ⟨some 49, Go.Op.extract (Go.Operand.tmp 45) 0, 37, none⟩,
      ⟨some 50, Go.Op.extract (Go.Operand.tmp 45) 1, 4, none⟩,
      ⟨some 0, Go.Op.assign (Go.Operand.tmp 49), 37, none⟩,
      ⟨some 9, Go.Op.assign (Go.Operand.tmp 50), 4, none⟩])
    (.seq (.region [⟨some 51, Go.Op.load 33 (Go.Operand.tmp 8), 33, none⟩,
      ⟨some 52, Go.Op.move (Go.Operand.tmp 9), 4, none⟩,
      ⟨some 53, Go.Op.move (Go.Operand.tmp 52), 4, none⟩,
      ⟨some 54, Go.Op.move (Go.Operand.tmp 0), 37, (some (53, true))⟩,
      ⟨some 55, Go.Op.call { callee := Go.Callee.builtin Go.Builtin.len, args := #[Go.Operand.tmp 54], argTypes := #[37] }, 3, (some (53, true))⟩,
      ⟨some 56, Go.Op.binOp Go.BinOp.eql 3 (Go.Operand.tmp 55) (Go.Operand.const (Go.Value.int Go.IntKind.i64 0)) 3, 4, (some (53, true))⟩,
      ⟨some 57, Go.Op.pick (Go.Operand.tmp 53) (Go.Operand.tmp 56) (Go.Operand.const (Go.Value.bool false)), 4, none⟩,
      ⟨none, Go.Op.store 33 (Go.Operand.tmp 4) (Go.Operand.tmp 51), 0, none⟩,
      ⟨some 5, Go.Op.assign (Go.Operand.tmp 57), 4, none⟩])
    .ret))))))))) :=
  ⟨foll, Tryz.f22, Tryz.func22, by kernel_rfl, by kernel_rfl, by kernel_rfl, by rw [Tryz.ntmps22]; decide⟩

/-- narrator.rulesyntax.words$1 -/
theorem fn37 : FnIs Tryz.prog 37 1 [Go.ResultVar.tmp 2] (.seq (.region [⟨some 2, Go.Op.assign (Go.Operand.const (Go.Value.bool false)), 4, none⟩])
    (.seq (.region [⟨some 3, Go.Op.move (Go.Operand.tmp 0), 21, none⟩,
      ⟨some 4, Go.Op.binOp Go.BinOp.eql 21 (Go.Operand.tmp 3) (Go.Operand.const (Go.Value.int Go.IntKind.i32 32)) 21, 4, none⟩,
      ⟨some 2, Go.Op.assign (Go.Operand.tmp 4), 4, none⟩])
    .ret)) :=
  ⟨foll, Tryz.f37, Tryz.func37, by kernel_rfl, by kernel_rfl, by kernel_rfl, by rw [Tryz.ntmps37]; decide⟩

/-- narrator.rulesyntax.classes -/
theorem fn40 : FnIs Tryz.prog 40 0 [Go.ResultVar.tmp 0] (.seq (.region [⟨some 0, Go.Op.assign (Go.Operand.const (Go.Value.map none)), 69, none⟩])
    (.seq (.region [⟨some 1, Go.Op.makeMap 69 none, 69, none⟩,
      ⟨none, Go.Op.insert 69 (Go.Operand.tmp 1) (Go.Operand.const (Go.Value.string { data := #[117, 114, 103, 101, 110, 116] })) (Go.Operand.const (Go.Value.int Go.IntKind.i64 1)), 0, none⟩,
      ⟨none, Go.Op.insert 69 (Go.Operand.tmp 1) (Go.Operand.const (Go.Value.string { data := #[110, 111, 114, 109, 97, 108] })) (Go.Operand.const (Go.Value.int Go.IntKind.i64 2)), 0, none⟩,
      ⟨none, Go.Op.insert 69 (Go.Operand.tmp 1) (Go.Operand.const (Go.Value.string { data := #[108, 97, 116, 101, 114] })) (Go.Operand.const (Go.Value.int Go.IntKind.i64 3)), 0, none⟩,
      ⟨some 2, Go.Op.move (Go.Operand.tmp 1), 69, none⟩,
      ⟨some 0, Go.Op.assign (Go.Operand.tmp 2), 69, none⟩])
    .ret)) :=
  ⟨foll, Tryz.f40, Tryz.func40, by kernel_rfl, by kernel_rfl, by kernel_rfl, by rw [Tryz.ntmps40]; decide⟩

/-- narrator.rulesyntax.option -/
theorem fn41 : FnIs Tryz.prog 41 3 [Go.ResultVar.tmp 6, Go.ResultVar.tmp 7] (.seq (.region [⟨some 6, Go.Op.assign (Go.Operand.const (Go.Value.slice none 0 0)), 37, none⟩,
      ⟨some 7, Go.Op.assign (Go.Operand.const (Go.Value.bool false)), 4, none⟩])
    (.seq (.seq (.region [⟨some 8, Go.Op.move (Go.Operand.tmp 0), 37, none⟩,
      ⟨some 9, Go.Op.call { callee := Go.Callee.builtin Go.Builtin.len, args := #[Go.Operand.tmp 8], argTypes := #[37] }, 3, none⟩,
      ⟨some 10, Go.Op.binOp Go.BinOp.lss 3 (Go.Operand.tmp 9) (Go.Operand.const (Go.Value.int Go.IntKind.i64 2)) 3, 4, none⟩,
      ⟨some 11, Go.Op.move (Go.Operand.tmp 10), 4, none⟩,
      ⟨some 12, Go.Op.move (Go.Operand.tmp 0), 37, (some (11, false))⟩,
      ⟨some 13, Go.Op.indexAddr 37 (Go.Operand.tmp 12) (Go.Operand.const (Go.Value.int Go.IntKind.i64 0)), 0, (some (11, false))⟩,
      ⟨some 14, Go.Op.load 9 (Go.Operand.tmp 13), 9, (some (11, false))⟩,
      ⟨some 15, Go.Op.move (Go.Operand.tmp 1), 9, (some (11, false))⟩,
      ⟨some 16, Go.Op.binOp Go.BinOp.neq 9 (Go.Operand.tmp 14) (Go.Operand.tmp 15) 9, 4, (some (11, false))⟩,
      ⟨some 17, Go.Op.pick (Go.Operand.tmp 11) (Go.Operand.const (Go.Value.bool true)) (Go.Operand.tmp 16), 4, none⟩])
    (.cond (Go.Operand.tmp 17)
      (.seq (.region [⟨some 18, Go.Op.move (Go.Operand.tmp 0), 37, none⟩,
        ⟨some 6, Go.Op.assign (Go.Operand.tmp 18), 37, none⟩,
        ⟨some 7, Go.Op.assign (Go.Operand.const (Go.Value.bool true)), 4, none⟩])
      .ret)
      .skip))
    (.seq (.draw [⟨⟨some 19, Go.Op.move (Go.Operand.tmp 0), 37, none⟩, false, false, false⟩,
      ⟨⟨some 20, Go.Op.slice 37 (Go.Operand.tmp 19) (some (Go.Operand.const (Go.Value.int Go.IntKind.i64 2))) none none, 37, none⟩, false, false, false⟩,
      ⟨⟨some 21, Go.Op.move (Go.Operand.tmp 2), 29, none⟩, false, false, false⟩,
      ⟨⟨some 22, Go.Op.move (Go.Operand.tmp 0), 37, none⟩, false, false, false⟩,
      ⟨⟨some 23, Go.Op.indexAddr 37 (Go.Operand.tmp 22) (Go.Operand.const (Go.Value.int Go.IntKind.i64 1)), 0, none⟩, false, false, false⟩,
      ⟨⟨some 24, Go.Op.load 9 (Go.Operand.tmp 23), 9, none⟩, false, false, false⟩,
      ⟨⟨some 25, Go.Op.call { callee := Go.Callee.value (Go.Operand.tmp 21), args := #[Go.Operand.tmp 24], argTypes := #[9] }, 4, none⟩, false, false, false⟩,
      ⟨⟨some 6, Go.Op.assign (Go.Operand.tmp 20), 37, none⟩, false, false, false⟩,
      ⟨⟨some 7, Go.Op.assign (Go.Operand.tmp 25), 4, none⟩, false, false, false⟩])
    .ret))) :=
  ⟨foll, Tryz.f41, Tryz.func41, by kernel_rfl, by kernel_rfl, by kernel_rfl, by rw [Tryz.ntmps41]; decide⟩

/-- narrator.rulesyntax.line$1 -/
theorem fn42 : FnIs Tryz.prog 42 2 [Go.ResultVar.tmp 3] (.seq (.region [⟨some 3, Go.Op.assign (Go.Operand.const (Go.Value.bool false)), 4, none⟩])
    (.seq (.region [⟨some 7, Go.Op.move (Go.Operand.tmp 0), 9, none⟩,
      ⟨some 8, Go.Op.call { callee := Go.Callee.value (Go.Operand.func 43), args := #[Go.Operand.tmp 7], argTypes := #[9] }, 73, none⟩,
      ⟨some 6, Go.Op.move (Go.Operand.tmp 8), 73, none⟩,
      ⟨some 9, Go.Op.extract (Go.Operand.tmp 6) 0, 3, none⟩,
      ⟨some 10, Go.Op.extract (Go.Operand.tmp 6) 1, 4, none⟩,
      ⟨some 4, Go.Op.assign (Go.Operand.tmp 9), 3, none⟩,
      ⟨some 5, Go.Op.assign (Go.Operand.tmp 10), 4, none⟩])
    (.seq (.region [⟨some 11, Go.Op.move (Go.Operand.tmp 4), 3, none⟩,
      ⟨some 12, Go.Op.fieldAddr 33 (Go.Operand.tmp 1) 5, 0, none⟩,
      ⟨none, Go.Op.store 3 (Go.Operand.tmp 12) (Go.Operand.tmp 11), 0, none⟩])
    (.seq (.region [⟨some 13, Go.Op.move (Go.Operand.tmp 5), 4, none⟩,
      ⟨some 3, Go.Op.assign (Go.Operand.tmp 13), 4, none⟩])
    .ret)))) :=
  ⟨foll, Tryz.f42, Tryz.func42, by kernel_rfl, by kernel_rfl, by kernel_rfl, by rw [Tryz.ntmps42]; decide⟩

/-- narrator.rulesyntax.number -/
theorem fn43 : FnIs Tryz.prog 43 1 [Go.ResultVar.tmp 2, Go.ResultVar.tmp 3] (.seq (.region [⟨some 2, Go.Op.assign (Go.Operand.const (Go.Value.int Go.IntKind.i64 0)), 3, none⟩,
      ⟨some 3, Go.Op.assign (Go.Operand.const (Go.Value.bool false)), 4, none⟩])
    (.seq (.seq (.region [⟨some 6, Go.Op.move (Go.Operand.tmp 0), 9, none⟩,
      ⟨some 7, Go.Op.binOp Go.BinOp.eql 9 (Go.Operand.tmp 6) (Go.Operand.const (Go.Value.string { data := #[] })) 9, 4, none⟩,
      ⟨some 8, Go.Op.move (Go.Operand.tmp 7), 4, none⟩,
      ⟨some 9, Go.Op.move (Go.Operand.tmp 0), 9, (some (8, false))⟩,
      ⟨some 10, Go.Op.call { callee := Go.Callee.builtin Go.Builtin.len, args := #[Go.Operand.tmp 9], argTypes := #[9] }, 3, (some (8, false))⟩,
      ⟨some 11, Go.Op.binOp Go.BinOp.gtr 3 (Go.Operand.tmp 10) (Go.Operand.const (Go.Value.int Go.IntKind.i64 9)) 3, 4, (some (8, false))⟩,
      ⟨some 12, Go.Op.pick (Go.Operand.tmp 8) (Go.Operand.const (Go.Value.bool true)) (Go.Operand.tmp 11), 4, none⟩,
      ⟨some 13, Go.Op.move (Go.Operand.tmp 12), 4, none⟩,
      ⟨some 14, Go.Op.move (Go.Operand.tmp 0), 9, (some (13, false))⟩,
      ⟨some 15, Go.Op.call { callee := Go.Callee.builtin Go.Builtin.len, args := #[Go.Operand.tmp 14], argTypes := #[9] }, 3, (some (13, false))⟩,
      ⟨some 16, Go.Op.binOp Go.BinOp.gtr 3 (Go.Operand.tmp 15) (Go.Operand.const (Go.Value.int Go.IntKind.i64 1)) 3, 4, (some (13, false))⟩,
      ⟨some 17, Go.Op.move (Go.Operand.tmp 16), 4, (some (13, false))⟩,
      ⟨some 18, Go.Op.move (Go.Operand.tmp 0), 9, (some (17, true))⟩,
      ⟨some 19, Go.Op.index 9 (Go.Operand.tmp 18) (Go.Operand.const (Go.Value.int Go.IntKind.i64 0)), 5, (some (17, true))⟩,
      ⟨some 20, Go.Op.binOp Go.BinOp.eql 5 (Go.Operand.tmp 19) (Go.Operand.const (Go.Value.int Go.IntKind.u8 48)) 5, 4, (some (17, true))⟩,
      ⟨some 21, Go.Op.pick (Go.Operand.tmp 17) (Go.Operand.tmp 20) (Go.Operand.const (Go.Value.bool false)), 4, (some (13, false))⟩,
      ⟨some 22, Go.Op.pick (Go.Operand.tmp 13) (Go.Operand.const (Go.Value.bool true)) (Go.Operand.tmp 21), 4, none⟩,
      ⟨some 23, Go.Op.move (Go.Operand.tmp 22), 4, none⟩,
      ⟨some 24, Go.Op.move (Go.Operand.tmp 0), 9, (some (23, false))⟩,
      ⟨some 25, Go.Op.call { callee := Go.Callee.value (Go.Operand.func 57), args := #[Go.Operand.tmp 24, Go.Operand.const (Go.Value.string { data := #[48, 49, 50, 51, 52, 53, 54, 55, 56, 57] })], argTypes := #[9, 9] }, 9, (some (23, false))⟩,
      ⟨some 26, Go.Op.binOp Go.BinOp.neq 9 (Go.Operand.tmp 25) (Go.Operand.const (Go.Value.string { data := #[] })) 9, 4, (some (23, false))⟩,
      ⟨some 27, Go.Op.pick (Go.Operand.tmp 23) (Go.Operand.const (Go.Value.bool true)) (Go.Operand.tmp 26), 4, none⟩])
    (.cond (Go.Operand.tmp 27)
      (.seq (.region [⟨some 2, Go.Op.assign (Go.Operand.const (Go.Value.int Go.IntKind.i64 0)), 3, none⟩,
        ⟨some 3, Go.Op.assign (Go.Operand.const (Go.Value.bool false)), 4, none⟩])
      .ret)
      .skip))
    (.seq (.region [⟨some 29, Go.Op.move (Go.Operand.tmp 0), 9, none⟩,
      ⟨some 30, Go.Op.call { callee := Go.Callee.value (Go.Operand.func 58), args := #[Go.Operand.tmp 29], argTypes := #[9] }, 57, none⟩,
      ⟨some 28, Go.Op.move (Go.Operand.tmp 30), 57, none⟩,
      ⟨some 31, Go.Op.extract (Go.Operand.tmp 28) 0, 3, none⟩,
      ⟨some 32, Go.Op.extract (Go.Operand.tmp 28) 1, 56, none⟩,
      ⟨some 4, Go.Op.assign (Go.Operand.tmp 31), 3, none⟩,
      ⟨some 5, Go.Op.assign (Go.Operand.tmp 32), 56, none⟩])
    (.seq (.draw [⟨⟨some 33, Go.Op.move (Go.Operand.tmp 4), 3, none⟩, false, false, false⟩,
      ⟨⟨some 34, Go.Op.move (Go.Operand.tmp 5), 56, none⟩, false, false, false⟩,
      ⟨⟨some 35, Go.Op.binOp Go.BinOp.eql 56 (Go.Operand.tmp 34) (Go.Operand.const Go.Value.nilIface) 56, 4, none⟩, false, false, false⟩,
      ⟨⟨some 2, Go.Op.assign (Go.Operand.tmp 33), 3, none⟩, false, false, false⟩,
      ⟨⟨some 3, Go.Op.assign (Go.Operand.tmp 35), 4, none⟩, false, false, false⟩])
    .ret)))) :=
  ⟨foll, Tryz.f43, Tryz.func43, by kernel_rfl, by kernel_rfl, by kernel_rfl, by rw [Tryz.ntmps43]; decide⟩

/-- narrator.rulesyntax.line$2 -/
theorem fn44 : FnIs Tryz.prog 44 2 [Go.ResultVar.tmp 3] (.seq (.region [⟨some 3, Go.Op.assign (Go.Operand.const (Go.Value.bool false)), 4, none⟩])
    (.seq (.region [⟨some 12, Go.Op.move (Go.Operand.tmp 0), 9, none⟩,
      ⟨some 13, Go.Op.call { callee := Go.Callee.value (Go.Operand.func 19), args := #[Go.Operand.tmp 12, Go.Operand.const (Go.Value.string { data := #[45] })], argTypes := #[9, 9] }, 42, none⟩,
      ⟨some 11, Go.Op.move (Go.Operand.tmp 13), 42, none⟩,
      ⟨some 14, Go.Op.extract (Go.Operand.tmp 11) 0, 9, none⟩,
      ⟨some 15, Go.Op.extract (Go.Operand.tmp 11) 1, 9, none⟩,
      ⟨some 16, Go.Op.extract (Go.Operand.tmp 11) 2, 4, none⟩,
      ⟨some 4, Go.Op.assign (Go.Operand.tmp 14), 9, none⟩,
      ⟨some 5, Go.Op.assign (Go.Operand.tmp 15), 9, none⟩,
      ⟨some 6, Go.Op.assign (Go.Operand.tmp 16), 4, none⟩])
    (.seq (.region [⟨some 18, Go.Op.move (Go.Operand.tmp 4), 9, none⟩,
      ⟨some 19, Go.Op.call { callee := Go.Callee.value (Go.Operand.func 43), args := #[Go.Operand.tmp 18], argTypes := #[9] }, 73, none⟩,
      ⟨some 17, Go.Op.move (Go.Operand.tmp 19), 73, none⟩,
      ⟨some 20, Go.Op.extract (Go.Operand.tmp 17) 0, 3, none⟩,
      ⟨some 21, Go.Op.extract (Go.Operand.tmp 17) 1, 4, none⟩,
      ⟨some 7, Go.Op.assign (Go.Operand.tmp 20), 3, none⟩,
      ⟨some 8, Go.Op.assign (Go.Operand.tmp 21), 4, none⟩])
    (.seq (.region [⟨some 23, Go.Op.move (Go.Operand.tmp 5), 9, none⟩,
      ⟨some 24, Go.Op.call { callee := Go.Callee.value (Go.Operand.func 43), args := #[Go.Operand.tmp 23], argTypes := #[9] }, 73, none⟩,
      ⟨some 22, Go.Op.move (Go.Operand.tmp 24), 73, none⟩,
      ⟨some 25, Go.Op.extract (Go.Operand.tmp 22) 0, 3, none⟩,
      ⟨some 26, Go.Op.extract (Go.Operand.tmp 22) 1, 4, none⟩,
      ⟨some 9, Go.Op.assign (Go.Operand.tmp 25), 3, none⟩,
      ⟨some 10, Go.Op.assign (Go.Operand.tmp 26), 4, none⟩])
    (.seq (.region [⟨some 27, Go.Op.move (Go.Operand.tmp 7), 3, none⟩,
      ⟨some 28, Go.Op.binOp Go.BinOp.sub 3 (Go.Operand.tmp 27) (Go.Operand.const (Go.Value.int Go.IntKind.i64 1)) 3, 3, none⟩,
      ⟨some 29, Go.Op.move (Go.Operand.tmp 9), 3, none⟩,
      ⟨some 30, Go.Op.fieldAddr 33 (Go.Operand.tmp 1) 2, 0, none⟩,
      ⟨none, Go.Op.store 3 (Go.Operand.tmp 30) (Go.Operand.tmp 28), 0, none⟩,
      ⟨some 31, Go.Op.fieldAddr 33 (Go.Operand.tmp 1) 3, 0, none⟩,
      ⟨none, Go.Op.store 3 (Go.Operand.tmp 31) (Go.Operand.tmp 29), 0, none⟩])
    (.seq (.region [⟨some 32, Go.Op.move (Go.Operand.tmp 8), 4, none⟩,
      ⟨some 33, Go.Op.move (Go.Operand.tmp 32), 4, none⟩,
      ⟨some 34, Go.Op.move (Go.Operand.tmp 10), 4, (some (33, true))⟩,
      ⟨some 35, Go.Op.pick (Go.Operand.tmp 33) (Go.Operand.tmp 34) (Go.Operand.const (Go.Value.bool false)), 4, none⟩,
      ⟨some 3, Go.Op.assign (Go.Operand.tmp 35), 4, none⟩])
    .ret)))))) :=
  ⟨foll, Tryz.f44, Tryz.func44, by kernel_rfl, by kernel_rfl, by kernel_rfl, by rw [Tryz.ntmps44]; decide⟩

end Go.Proofs.YtjgbdlaecpkmhaaGreatDoor
/- The prepared code of further functions. Written by a program of mine (gen.py) out of what the loaded dump prints. -/

set_option linter.unusedVariables false
set_option maxRecDepth 100000
namespace Go.Proofs.YtjgbdlaecpkmhaaGreatDoor
open Go Nv

/-- narrator.rulesyntax.Check -/
theorem fn12 : FnIs Tryz.prog 12 1 [Go.ResultVar.tmp 2] (.seq (.region [⟨some 2, Go.Op.assign (Go.Operand.const (Go.Value.int Go.IntKind.i64 0)), 24, none⟩])
    (.seq (.seq (.region [⟨some 7, Go.Op.move (Go.Operand.tmp 0), 23, none⟩,
      ⟨some 8, Go.Op.call { callee := Go.Callee.builtin Go.Builtin.len, args := #[Go.Operand.tmp 7], argTypes := #[23] }, 3, none⟩,
      ⟨some 9, Go.Op.binOp Go.BinOp.gtr 3 (Go.Operand.tmp 8) (Go.Operand.const (Go.Value.int Go.IntKind.i64 16)) 3, 4, none⟩])
    (.cond (Go.Operand.tmp 9)
      (.seq (.region [⟨some 2, Go.Op.assign (Go.Operand.const (Go.Value.int Go.IntKind.i64 5)), 24, none⟩])
      .ret)
      .skip))
    (.seq (.region [⟨some 10, Go.Op.makeMap 50 none, 50, none⟩,
      ⟨some 3, Go.Op.assign (Go.Operand.tmp 10), 50, none⟩])
    (.seq (.seq (.region [⟨some 11, Go.Op.move (Go.Operand.tmp 0), 23, none⟩,
      ⟨some 12, Go.Op.call { callee := Go.Callee.builtin Go.Builtin.len, args := #[Go.Operand.tmp 11], argTypes := #[23] }, 3, none⟩,
      ⟨some 13, Go.Op.move (Go.Operand.const (Go.Value.int Go.IntKind.i64 0)), 3, none⟩])
    (.block 0
      (.loop
        (.seq (.region [⟨some 14, Go.Op.binOp Go.BinOp.lss 3 (Go.Operand.tmp 13) (Go.Operand.tmp 12) 3, 0, none⟩])
        (.seq (.cond (Go.Operand.tmp 14)
          .skip
          (.exit 0))
        (.seq (.block 1
          (.seq (.region [⟨some 15, Go.Op.indexAddr 23 (Go.Operand.tmp 11) (Go.Operand.tmp 13), 0, none⟩,
            ⟨some 16, Go.Op.load 33 (Go.Operand.tmp 15), 33, none⟩,
            ⟨some 5, Go.Op.alloc 33, 0, none⟩,
            ⟨none, Go.Op.store 33 (Go.Operand.tmp 5) (Go.Operand.tmp 16), 0, none⟩])
          (.seq (.seq (.region [⟨some 17, Go.Op.fieldAddr 33 (Go.Operand.tmp 5) 0, 0, none⟩,
            ⟨some 18, Go.Op.load 9 (Go.Operand.tmp 17), 9, none⟩,
            ⟨some 19, Go.Op.call { callee := Go.Callee.value (Go.Operand.func 26), args := #[Go.Operand.tmp 18], argTypes := #[9] }, 4, none⟩,
            ⟨some 20, Go.Op.unOp Go.UnOp.not 4 (Go.Operand.tmp 19), 4, none⟩])
          (.cond (Go.Operand.tmp 20)
            (.seq (.region [⟨some 2, Go.Op.assign (Go.Operand.const (Go.Value.int Go.IntKind.i64 6)), 24, none⟩])
            .ret)
            .skip))
          (.seq (.seq (.region [⟨some 21, Go.Op.move (Go.Operand.tmp 3), 50, none⟩,
            ⟨some 22, Go.Op.fieldAddr 33 (Go.Operand.tmp 5) 0, 0, none⟩,
            ⟨some 23, Go.Op.load 9 (Go.Operand.tmp 22), 9, none⟩,
            ⟨some 24, Go.Op.lookup 50 (Go.Operand.tmp 21) (Go.Operand.tmp 23) false, 4, none⟩])
          (.cond (Go.Operand.tmp 24)
            (.seq (.region [⟨some 2, Go.Op.assign (Go.Operand.const (Go.Value.int Go.IntKind.i64 7)), 24, none⟩])
            .ret)
            .skip))
          (.seq (.region [⟨some 25, Go.Op.move (Go.Operand.tmp 3), 50, none⟩,
            ⟨some 26, Go.Op.fieldAddr 33 (Go.Operand.tmp 5) 0, 0, none⟩,
            ⟨some 27, Go.Op.load 9 (Go.Operand.tmp 26), 9, none⟩,
            ⟨none, Go.Op.mapUpdate 50 (Go.Operand.tmp 25) (Go.Operand.tmp 27) (Go.Operand.const (Go.Value.bool true)), 0, none⟩])
          (.seq (.region [⟨some 28, Go.Op.load 33 (Go.Operand.tmp 5), 33, none⟩,
            ⟨some 29, Go.Op.call { callee := Go.Callee.value (Go.Operand.func 27), args := #[Go.Operand.tmp 28], argTypes := #[33] }, 24, none⟩,
            ⟨some 6, Go.Op.assign (Go.Operand.tmp 29), 24, none⟩])
          (.seq (.region [⟨some 30, Go.Op.move (Go.Operand.tmp 6), 24, none⟩,
            ⟨some 31, Go.Op.binOp Go.BinOp.neq 24 (Go.Operand.tmp 30) (Go.Operand.const (Go.Value.int Go.IntKind.i64 0)) 24, 4, none⟩])
          (.cond (Go.Operand.tmp 31)
            (.seq (.region [⟨some 32, Go.Op.move (Go.Operand.tmp 6), 24, none⟩,
              ⟨some 2, Go.Op.assign (Go.Operand.tmp 32), 24, none⟩])
            .ret)
            .skip))))))))
        (.region [⟨some 33, Go.Op.binOp Go.BinOp.add 3 (Go.Operand.tmp 13) (Go.Operand.const (Go.Value.int Go.IntKind.i64 1)) 3, 3, none⟩,
          ⟨some 13, Go.Op.move (Go.Operand.tmp 33), 3, none⟩])))))))
    (.seq (.region [⟨some 2, Go.Op.assign (Go.Operand.const (Go.Value.int Go.IntKind.i64 0)), 24, none⟩])
    .ret))))) :=
  ⟨foll, Tryz.f12, Tryz.func12, by kernel_rfl, by kernel_rfl, by kernel_rfl, by rw [Tryz.ntmps12]; decide⟩

/-- narrator.rulesyntax.name -/
theorem fn26 : FnIs Tryz.prog 26 1 [Go.ResultVar.tmp 2] (.seq (.region [⟨some 2, Go.Op.assign (Go.Operand.const (Go.Value.bool false)), 4, none⟩])
    (.seq (.seq (.region [⟨some 4, Go.Op.move (Go.Operand.tmp 0), 9, none⟩,
      ⟨some 5, Go.Op.binOp Go.BinOp.eql 9 (Go.Operand.tmp 4) (Go.Operand.const (Go.Value.string { data := #[] })) 9, 4, none⟩,
      ⟨some 6, Go.Op.move (Go.Operand.tmp 5), 4, none⟩,
      ⟨some 7, Go.Op.move (Go.Operand.tmp 0), 9, (some (6, false))⟩,
      ⟨some 8, Go.Op.call { callee := Go.Callee.builtin Go.Builtin.len, args := #[Go.Operand.tmp 7], argTypes := #[9] }, 3, (some (6, false))⟩,
      ⟨some 9, Go.Op.binOp Go.BinOp.gtr 3 (Go.Operand.tmp 8) (Go.Operand.const (Go.Value.int Go.IntKind.i64 16)) 3, 4, (some (6, false))⟩,
      ⟨some 10, Go.Op.pick (Go.Operand.tmp 6) (Go.Operand.const (Go.Value.bool true)) (Go.Operand.tmp 9), 4, none⟩,
      ⟨some 11, Go.Op.move (Go.Operand.tmp 10), 4, none⟩,
      ⟨some 12, Go.Op.move (Go.Operand.tmp 0), 9, (some (11, false))⟩,
      ⟨some 13, Go.Op.slice 9 (Go.Operand.tmp 12) none (some (Go.Operand.const (Go.Value.int Go.IntKind.i64 1))) none, 9, (some (11, false))⟩,
      ⟨some 14, Go.Op.call { callee := Go.Callee.value (Go.Operand.func 14), args := #[Go.Operand.const (Go.Value.string { data := #[97, 98, 99, 100, 101, 102, 103, 104, 105, 106, 107, 108, 109, 110, 111, 112, 113, 114, 115, 116, 117, 118, 119, 120, 121, 122] }), Go.Operand.tmp 13], argTypes := #[9, 9] }, 4, (some (11, false))⟩,
      ⟨some 15, Go.Op.unOp Go.UnOp.not 4 (Go.Operand.tmp 14), 4, (some (11, false))⟩,
      ⟨some 16, Go.Op.pick (Go.Operand.tmp 11) (Go.Operand.const (Go.Value.bool true)) (Go.Operand.tmp 15), 4, none⟩])
    (.cond (Go.Operand.tmp 16)
      (.seq (.region [⟨some 2, Go.Op.assign (Go.Operand.const (Go.Value.bool false)), 4, none⟩])
      .ret)
      .skip))
    (.seq (.seq (.region [⟨some 17, Go.Op.move (Go.Operand.tmp 0), 9, none⟩,
      ⟨some 18, Go.Op.call { callee := Go.Callee.builtin Go.Builtin.len, args := #[Go.Operand.tmp 17], argTypes := #[9] }, 3, none⟩,
      ⟨some 19, Go.Op.move (Go.Operand.const (Go.Value.int Go.IntKind.i64 0)), 3, none⟩])
    (.block 0
      (.loop
        (.seq (.region [⟨some 20, Go.Op.binOp Go.BinOp.lss 3 (Go.Operand.tmp 19) (Go.Operand.tmp 18) 3, 4, none⟩])
        (.seq (.cond (Go.Operand.tmp 20)
          .skip
          (.exit 0))
        (.seq (.block 1
          (.seq (.region [⟨some 21, Go.Op.move (Go.Operand.tmp 19), 3, none⟩,
            ⟨some 3, Go.Op.assign (Go.Operand.tmp 21), 3, none⟩])
          (.seq (.region [⟨some 22, Go.Op.move (Go.Operand.tmp 0), 9, none⟩,
            ⟨some 23, Go.Op.move (Go.Operand.tmp 3), 3, none⟩,
            ⟨some 24, Go.Op.move (Go.Operand.tmp 3), 3, none⟩,
            ⟨some 25, Go.Op.binOp Go.BinOp.add 3 (Go.Operand.tmp 24) (Go.Operand.const (Go.Value.int Go.IntKind.i64 1)) 3, 3, none⟩,
            ⟨some 26, Go.Op.slice 9 (Go.Operand.tmp 22) (some (Go.Operand.tmp 23)) (some (Go.Operand.tmp 25)) none, 9, none⟩,
            ⟨some 27, Go.Op.call { callee := Go.Callee.value (Go.Operand.func 14), args := #[Go.Operand.const (Go.Value.string { data := #[97, 98, 99, 100, 101, 102, 103, 104, 105, 106, 107, 108, 109, 110, 111, 112, 113, 114, 115, 116, 117, 118, 119, 120, 121, 122, 48, 49, 50, 51, 52, 53, 54, 55, 56, 57, 45] }), Go.Operand.tmp 26], argTypes := #[9, 9] }, 4, none⟩,
            ⟨some 28, Go.Op.unOp Go.UnOp.not 4 (Go.Operand.tmp 27), 4, none⟩])
          (.cond (Go.Operand.tmp 28)
            (.seq (.region [⟨some 2, Go.Op.assign (Go.Operand.const (Go.Value.bool false)), 4, none⟩])
            .ret)
            .skip))))
        (.region [⟨some 29, Go.Op.binOp Go.BinOp.add 3 (Go.Operand.tmp 19) (Go.Operand.const (Go.Value.int Go.IntKind.i64 1)) 3, 3, none⟩,
          ⟨some 19, Go.Op.move (Go.Operand.tmp 29), 3, none⟩])))))))
    (.seq (.region [⟨some 2, Go.Op.assign (Go.Operand.const (Go.Value.bool true)), 4, none⟩])
    .ret)))) :=
  ⟨foll, Tryz.f26, Tryz.func26, by kernel_rfl, by kernel_rfl, by kernel_rfl, by rw [Tryz.ntmps26]; decide⟩

/-- narrator.rulesyntax.check -/
theorem fn27 : FnIs Tryz.prog 27 1 [Go.ResultVar.tmp 2] (.seq (.region [⟨some 1, Go.Op.box 33 (Go.Operand.tmp 0), 0, none⟩,
      ⟨some 2, Go.Op.assign (Go.Operand.const (Go.Value.int Go.IntKind.i64 0)), 24, none⟩])
    (.seq (.block 0
      (.seq (.block 4
        (.seq (.block 3
          (.block 2
            (.seq (.block 1
              (.seq (.seq (.seq (.region [⟨some 6, Go.Op.fieldAddr 33 (Go.Operand.tmp 1) 4, 0, none⟩,
                ⟨some 7, Go.Op.load 3 (Go.Operand.tmp 6), 3, none⟩,
                ⟨some 8, Go.Op.binOp Go.BinOp.lss 3 (Go.Operand.tmp 7) (Go.Operand.const (Go.Value.int Go.IntKind.i64 1)) 3, 4, none⟩,
                ⟨some 9, Go.Op.move (Go.Operand.tmp 8), 4, none⟩,
                ⟨some 10, Go.Op.fieldAddr 33 (Go.Operand.tmp 1) 4, 0, (some (9, false))⟩,
                ⟨some 11, Go.Op.load 3 (Go.Operand.tmp 10), 3, (some (9, false))⟩,
                ⟨some 12, Go.Op.binOp Go.BinOp.gtr 3 (Go.Operand.tmp 11) (Go.Operand.const (Go.Value.int Go.IntKind.i64 3)) 3, 4, (some (9, false))⟩,
                ⟨some 13, Go.Op.pick (Go.Operand.tmp 9) (Go.Operand.const (Go.Value.bool true)) (Go.Operand.tmp 12), 4, none⟩,
                ⟨some 5, Go.Op.assign (Go.Operand.tmp 13), 4, none⟩])
              (.cond (Go.Operand.tmp 5)
                (.exit 1)
                .skip))
              (.seq (.seq (.region [⟨some 15, Go.Op.fieldAddr 33 (Go.Operand.tmp 1) 2, 0, none⟩,
                ⟨some 16, Go.Op.load 3 (Go.Operand.tmp 15), 3, none⟩,
                ⟨some 17, Go.Op.binOp Go.BinOp.lss 3 (Go.Operand.tmp 16) (Go.Operand.const (Go.Value.int Go.IntKind.i64 0)) 3, 4, none⟩,
                ⟨some 18, Go.Op.move (Go.Operand.tmp 17), 4, none⟩,
                ⟨some 19, Go.Op.fieldAddr 33 (Go.Operand.tmp 1) 2, 0, (some (18, false))⟩,
                ⟨some 20, Go.Op.load 3 (Go.Operand.tmp 19), 3, (some (18, false))⟩,
                ⟨some 21, Go.Op.fieldAddr 33 (Go.Operand.tmp 1) 3, 0, (some (18, false))⟩,
                ⟨some 22, Go.Op.load 3 (Go.Operand.tmp 21), 3, (some (18, false))⟩,
                ⟨some 23, Go.Op.binOp Go.BinOp.geq 3 (Go.Operand.tmp 20) (Go.Operand.tmp 22) 3, 4, (some (18, false))⟩,
                ⟨some 24, Go.Op.pick (Go.Operand.tmp 18) (Go.Operand.const (Go.Value.bool true)) (Go.Operand.tmp 23), 4, none⟩,
                ⟨some 25, Go.Op.move (Go.Operand.tmp 24), 4, none⟩,
                ⟨some 26, Go.Op.fieldAddr 33 (Go.Operand.tmp 1) 3, 0, (some (25, false))⟩,
                ⟨some 27, Go.Op.load 3 (Go.Operand.tmp 26), 3, (some (25, false))⟩,
                ⟨some 28, Go.Op.binOp Go.BinOp.gtr 3 (Go.Operand.tmp 27) (Go.Operand.const (Go.Value.int Go.IntKind.i64 60)) 3, 4, (some (25, false))⟩,
                ⟨some 29, Go.Op.pick (Go.Operand.tmp 25) (Go.Operand.const (Go.Value.bool true)) (Go.Operand.tmp 28), 4, none⟩,
                ⟨some 14, Go.Op.assign (Go.Operand.tmp 29), 4, none⟩])
              (.cond (Go.Operand.tmp 14)
                (.exit 2)
                .skip))
              (.seq (.seq (.region [⟨some 31, Go.Op.fieldAddr 33 (Go.Operand.tmp 1) 5, 0, none⟩,
                ⟨some 32, Go.Op.load 3 (Go.Operand.tmp 31), 3, none⟩,
                ⟨some 33, Go.Op.binOp Go.BinOp.lss 3 (Go.Operand.tmp 32) (Go.Operand.const (Go.Value.int Go.IntKind.i64 0)) 3, 4, none⟩,
                ⟨some 34, Go.Op.move (Go.Operand.tmp 33), 4, none⟩,
                ⟨some 35, Go.Op.fieldAddr 33 (Go.Operand.tmp 1) 5, 0, (some (34, false))⟩,
                ⟨some 36, Go.Op.load 3 (Go.Operand.tmp 35), 3, (some (34, false))⟩,
                ⟨some 37, Go.Op.binOp Go.BinOp.gtr 3 (Go.Operand.tmp 36) (Go.Operand.const (Go.Value.int Go.IntKind.i64 60000)) 3, 4, (some (34, false))⟩,
                ⟨some 38, Go.Op.pick (Go.Operand.tmp 34) (Go.Operand.const (Go.Value.bool true)) (Go.Operand.tmp 37), 4, none⟩,
                ⟨some 39, Go.Op.move (Go.Operand.tmp 38), 4, none⟩,
                ⟨some 40, Go.Op.fieldAddr 33 (Go.Operand.tmp 1) 5, 0, (some (39, false))⟩,
                ⟨some 41, Go.Op.load 3 (Go.Operand.tmp 40), 3, (some (39, false))⟩,
                ⟨some 42, Go.Op.binOp Go.BinOp.gtr 3 (Go.Operand.tmp 41) (Go.Operand.const (Go.Value.int Go.IntKind.i64 0)) 3, 4, (some (39, false))⟩,
                ⟨some 43, Go.Op.move (Go.Operand.tmp 42), 4, (some (39, false))⟩,
                ⟨some 44, Go.Op.fieldAddr 33 (Go.Operand.tmp 1) 4, 0, (some (43, true))⟩,
                ⟨some 45, Go.Op.load 3 (Go.Operand.tmp 44), 3, (some (43, true))⟩,
                ⟨some 46, Go.Op.binOp Go.BinOp.neq 3 (Go.Operand.tmp 45) (Go.Operand.const (Go.Value.int Go.IntKind.i64 3)) 3, 4, (some (43, true))⟩,
                ⟨some 47, Go.Op.pick (Go.Operand.tmp 43) (Go.Operand.tmp 46) (Go.Operand.const (Go.Value.bool false)), 4, (some (39, false))⟩,
                ⟨some 48, Go.Op.pick (Go.Operand.tmp 39) (Go.Operand.const (Go.Value.bool true)) (Go.Operand.tmp 47), 4, none⟩,
                ⟨some 30, Go.Op.assign (Go.Operand.tmp 48), 4, none⟩])
              (.cond (Go.Operand.tmp 30)
                (.exit 3)
                .skip))
              (.seq (.region [⟨some 50, Go.Op.fieldAddr 33 (Go.Operand.tmp 1) 1, 0, none⟩,
                ⟨some 51, Go.Op.load 9 (Go.Operand.tmp 50), 9, none⟩,
                ⟨some 52, Go.Op.call { callee := Go.Callee.value (Go.Operand.func 14), args := #[Go.Operand.tmp 51, Go.Operand.const (Go.Value.string { data := #[10] })], argTypes := #[9, 9] }, 4, none⟩,
                ⟨some 49, Go.Op.assign (Go.Operand.tmp 52), 4, none⟩])
              (.cond (Go.Operand.tmp 49)
                (.exit 4)
                .skip)))))
              (.exit 0)))
            (.seq (.seq (.region [⟨some 2, Go.Op.assign (Go.Operand.const (Go.Value.int Go.IntKind.i64 9)), 24, none⟩])
            .ret)
            (.exit 0)))))
        (.seq (.seq (.region [⟨some 2, Go.Op.assign (Go.Operand.const (Go.Value.int Go.IntKind.i64 2)), 24, none⟩])
        .ret)
        (.exit 0))))
      (.seq (.seq (.region [⟨some 2, Go.Op.assign (Go.Operand.const (Go.Value.int Go.IntKind.i64 3)), 24, none⟩])
      .ret)
      (.exit 0))))
    (.seq (.region [⟨some 54, Go.Op.fieldAddr 33 (Go.Operand.tmp 1) 1, 0, none⟩,
      ⟨some 55, Go.Op.load 9 (Go.Operand.tmp 54), 9, none⟩,
      ⟨some 56, Go.Op.call { callee := Go.Callee.value (Go.Operand.func 46), args := #[Go.Operand.tmp 55], argTypes := #[9] }, 79, none⟩,
      ⟨some 53, Go.Op.move (Go.Operand.tmp 56), 79, none⟩,
      ⟨some 57, Go.Op.extract (Go.Operand.tmp 53) 0, 78, none⟩,
      ⟨some 58, Go.Op.extract (Go.Operand.tmp 53) 1, 24, none⟩,
      ⟨some 3, Go.Op.alloc 78, 0, none⟩,
      ⟨none, Go.Op.store 78 (Go.Operand.tmp 3) (Go.Operand.tmp 57), 0, none⟩,
      ⟨some 4, Go.Op.assign (Go.Operand.tmp 58), 24, none⟩])
    (.seq (.region [⟨some 59, Go.Op.move (Go.Operand.tmp 4), 24, none⟩,
      ⟨some 2, Go.Op.assign (Go.Operand.tmp 59), 24, none⟩])
    .ret)))) :=
  ⟨foll, Tryz.f27, Tryz.func27, by kernel_rfl, by kernel_rfl, by kernel_rfl, by rw [Tryz.ntmps27]; decide⟩

end Go.Proofs.YtjgbdlaecpkmhaaGreatDoor
namespace Go.Proofs.YtjgbdlaecpkmhaaGreatDoor
open Go.Shelf
def Tryz.lays144_ren : Go.Shelf.Ren := ⟨fun | 144 => 14 | 143 => 25 | 219 => 45 | 217 => 59 | 225 => 60 | 224 => 61 | 267 => 62 | 266 => 80 | 314 => 81 | n => n, fun | 9 => 9 | 4 => 4 | 3 => 3 | 5 => 5 | 46 => 96 | 146 => 114 | 51 => 113 | n => n, fun | 1 => 0 | n => n⟩
theorem Tryz.lays144 : Go.Proofs.Lays.n144 Tryz.prog Tryz.lays144_ren where
  mixed := by kernel_rfl
  f143 := Tryz.func25.trans (congrArg some (by kernel_rfl))
  f144 := Tryz.func14.trans (congrArg some (by kernel_rfl))
  f217 := Tryz.func59.trans (congrArg some (by kernel_rfl))
  f219 := Tryz.func45.trans (congrArg some (by kernel_rfl))
  f224 := Tryz.func61.trans (congrArg some (by kernel_rfl))
  f225 := Tryz.func60.trans (congrArg some (by kernel_rfl))
  f266 := Tryz.func80.trans (congrArg some (by kernel_rfl))
  f267 := Tryz.func62.trans (congrArg some (by kernel_rfl))
  f314 := Tryz.func81.trans (congrArg some (by kernel_rfl))
  t3 := Tryz.underlying3
  a3 := Tryz.isAgg3
  z3 := Tryz.sizeOf3
  v3 := Tryz.zeroValue3
  t4 := Tryz.underlying4
  a4 := Tryz.isAgg4
  z4 := Tryz.sizeOf4
  v4 := Tryz.zeroValue4
  t5 := Tryz.underlying5
  a5 := Tryz.isAgg5
  z5 := Tryz.sizeOf5
  v5 := Tryz.zeroValue5
  t9 := Tryz.underlying9
  a9 := Tryz.isAgg9
  z9 := Tryz.sizeOf9
  v9 := Tryz.zeroValue9
  t46 := Tryz.underlying96
  a46 := Tryz.isAgg96
  z46 := Tryz.sizeOf96
  v46 := Tryz.zeroValue96
  t51 := Tryz.underlying113
  a51 := Tryz.isAgg113
  z51 := Tryz.sizeOf113
  v51 := Tryz.zeroValue113
  t146 := Tryz.underlying114
  a146 := Tryz.isAgg114
  z146 := Tryz.sizeOf114
  v146 := Tryz.zeroValue114
  g1 := by kernel_rfl
open Go.RowKit Go.Lib Nv
theorem contains_one (s : List UInt8) (c : UInt8) : PCall Tryz.prog 14 [.d (.str s), .d (.str [c])] (.d (.bool (decide (0 ≤ Lib.indexByte s c)))) :=
  .of_calls' rfl rfl fun w => Any.strings_Contains_one Tryz.lays144 ⟨s.toArray⟩ c w
end Go.Proofs.YtjgbdlaecpkmhaaGreatDoor
/- A nil slice seen avl a list without elements: contracts at data that says less. -/

set_option linter.unusedVariables false
set_option linter.unusedSimpArgs false
namespace Nv
open Go

def WkD (x y : DV) : Prop := x = y ∨ (x = .nilslice ∧ ∃ e, y = .list e [])

inductive WkA : AV → AV → Prop
  | refl (a : AV) : WkA a a
  | nil (e : Nat) : WkA (.d .nilslice) (.d (.list e []))
  | rows {xs ys : List DV} : xs.length = ys.length → (∀ i, i < xs.length → WkD (xs.getD i default) (ys.getD i default)) → WkA (.d (.list 1 xs)) (.d (.list 1 ys))
  | agg {cs ds : List AV} : cs.length = ds.length → (∀ i, i < cs.length → WkA (cs.getD i .any) (ds.getD i .any)) → WkA (.agg cs) (.agg ds)

section
variable {P : Program} {ρ : RHO} {σ : ST} {I : Nat → Prop} {w : World}

theorem VD.wkd {x y : DV} {v : Value} (h : WkD x y) (hv : VD I w x v) : VD I w y v := by
  rcases h with rfl | ⟨rfl, e, rfl⟩
  · exact hv
  · cases hv; exact .listNil _ _

theorem V.wk {a b : AV} (h : WkA a b) : ∀ {v : Value}, V ρ σ I w a v → V ρ σ I w b v := by
  induction h with
  | refl a => exact fun hv => hv
  | nil e => intro v hv; exact .d (VD.wkd (.inr ⟨rfl, e, rfl⟩) hv.d_inv)
  | @rows xs ys hl hx =>
    intro v hv
    cases hv.d_inv with
    | listNil _ p =>
      obtain rfl : ys = [] := List.length_eq_zero_iff.1 (by simpa using hl.symm)
      exact .d (.listNil _ _)
    | @list _ _ b off n cap us q1 q2 q0 q3 q4 =>
      have hy0 : ∀ i, i < ys.length → Uni 1 (ys.getD i default) := by
        intro i hi
        rcases hx i (by omega) with h | ⟨h, e, h'⟩
        · rw [← h]
          refine q0 _ ?_
          rw [List.getD_eq_getElem?_getD, List.getElem?_eq_getElem (by omega)]
          exact List.getElem_mem _
        · rw [h']; exact ⟨rfl, by simp [DV.isAgg]⟩
      have hy : ∀ y, y ∈ ys → Uni 1 y := by
        intro y hm
        obtain ⟨i, hi, rfl⟩ := List.getElem_of_mem hm
        have := hy0 i hi
        rwa [List.getD_eq_getElem?_getD, List.getElem?_eq_getElem hi] at this
      have key : ∀ (j : Nat) (c : DV), (flat ys)[j]? = some c → ∃ c', (flat xs)[j]? = some c' ∧ WkD c' c := by
        intro j c hj
        have hjl : j < (flat ys).length := by
          rcases Nat.lt_or_ge j (flat ys).length with h | h
          · exact h
          · rw [List.getElem?_eq_none h] at hj; cases hj
        rw [flat_len hy, Nat.mul_one] at hjl
        have e1 := flat_get hy (i := j) (o := 0) hjl (by omega)
        have e2 := flat_get q0 (i := j) (o := 0) (by omega) (by omega)
        rw [Nat.mul_one, Nat.add_zero] at e1 e2
        rw [hj] at e1
        rcases hx j (by omega) with h | ⟨h, e, h'⟩
        · rw [h, ← e1] at e2
          exact ⟨c, e2, .inl rfl⟩
        · rw [h'] at e1
          rw [h] at e2
          simp only [DV.cells, List.getElem?_cons_zero, Option.some.injEq] at e1 e2
          exact ⟨_, e2, .inr ⟨rfl, e, e1⟩⟩
      refine .d (.list us (by omega) q2 hy (fun j c hj => ?_) (fun j c hj => ?_))
      · obtain ⟨c', h1, h2⟩ := key j c hj
        exact q3 j c' h1
      · obtain ⟨c', h1, h2⟩ := key j c hj
        exact VD.wkd h2 (q4 j c' h1)
  | @agg cs ds hl _ ih =>
    intro v hv
    cases hv with | agg k1 k2 =>
    refine .agg (by omega) (fun j c hj => ?_)
    have hjl : j < ds.length := by
      rcases Nat.lt_or_ge j ds.length with h | h
      · exact h
      · rw [List.getElem?_eq_none h] at hj; cases hj
    have h1 : cs[j]? = some (cs.getD j .any) := by rw [List.getD_eq_getElem?_getD, List.getElem?_eq_getElem (by omega)]; rfl
    have := ih j (by omega) (k2 j _ h1)
    rwa [List.getD_eq_getElem?_getD, hj] at this

theorem PCall.wk {f : FuncId} {args args' : List AV} {r : AV} (h : PCall P f args' r) (hl : args.length = args'.length) (ha : ∀ i, i < args.length → WkA (args.getD i .any) (args'.getD i .any)) : PCall P f args r := by
  intro σ ρ I w vs hr hv
  refine h σ ρ I w vs hr ⟨by rw [← hl]; exact hv.1, fun j a hj => ?_⟩
  have hjl : j < args'.length := by
    rcases Nat.lt_or_ge j args'.length with h | h
    · exact h
    · rw [List.getElem?_eq_none h] at hj; cases hj
  have h1 : args[j]? = some (args.getD j .any) := by rw [List.getD_eq_getElem?_getD, List.getElem?_eq_getElem (by omega)]; rfl
  have := V.wk (ha j (by omega)) (hv.2 j _ h1)
  rwa [List.getD_eq_getElem?_getD, hj] at this
end
end Nv
