/- Part of a proof about the functions of this seat. -/
import Derived.Test.YtjgbdlaecpkmhaaGreatDoorG11Base34
import Derived.Test.YtjgbdlaecpkmhaaGreatDoorG10NvP
import Derived.Below
/- The prepared code of further functions. Written by a program of mine (gen.py) out of what the loaded dump prints. -/

set_option linter.unusedVariables false
set_option maxRecDepth 100000
namespace Go.Proofs.YtjgbdlaecpkmhaaGreatDoor
open Go Nv

/-- narrator.narratorlaw34.RulesyntaxRoundTrip -/
theorem fn6 : FnIs Tryz.prog 6 1 [Go.ResultVar.tmp 2] (.seq (.region [⟨some 2, Go.Op.assign (Go.Operand.const (Go.Value.bool false)), 4, none⟩])
    (.seq (.seq (.region [⟨some 8, Go.Op.move (Go.Operand.tmp 0), 23, none⟩,
      ⟨some 9, Go.Op.call { callee := Go.Callee.value (Go.Operand.func 15), args := #[Go.Operand.tmp 8], argTypes := #[23] }, 4, none⟩])
    (.cond (Go.Operand.tmp 9)
      (.seq (.region [⟨some 10, Go.Op.call { callee := Go.Callee.value (Go.Operand.func 9), args := #[], argTypes := #[] }, 4, none⟩,
        ⟨some 2, Go.Op.assign (Go.Operand.tmp 10), 4, none⟩])
      .ret)
      .skip))
    (.seq (.region [⟨some 12, Go.Op.move (Go.Operand.tmp 0), 23, none⟩,
      ⟨some 13, Go.Op.call { callee := Go.Callee.value (Go.Operand.func 16), args := #[Go.Operand.tmp 12], argTypes := #[23] }, 35, none⟩,
      ⟨some 11, Go.Op.move (Go.Operand.tmp 13), 35, none⟩,
      ⟨some 14, Go.Op.extract (Go.Operand.tmp 11) 0, 9, none⟩,
      ⟨some 15, Go.Op.extract (Go.Operand.tmp 11) 1, 24, none⟩,
      ⟨some 3, Go.Op.assign (Go.Operand.tmp 14), 9, none⟩,
      ⟨some 4, Go.Op.assign (Go.Operand.tmp 15), 24, none⟩])
    (.seq (.seq (.region [⟨some 16, Go.Op.move (Go.Operand.tmp 4), 24, none⟩,
      ⟨some 17, Go.Op.binOp Go.BinOp.neq 24 (Go.Operand.tmp 16) (Go.Operand.const (Go.Value.int Go.IntKind.i64 0)) 24, 4, none⟩])
    (.cond (Go.Operand.tmp 17)
      (.seq (.region [⟨some 18, Go.Op.move (Go.Operand.tmp 4), 24, none⟩,
        ⟨some 19, Go.Op.move (Go.Operand.tmp 0), 23, none⟩,
        ⟨some 20, Go.Op.call { callee := Go.Callee.value (Go.Operand.func 12), args := #[Go.Operand.tmp 19], argTypes := #[23] }, 24, none⟩,
        ⟨some 21, Go.Op.binOp Go.BinOp.eql 24 (Go.Operand.tmp 18) (Go.Operand.tmp 20) 24, 4, none⟩,
        ⟨some 22, Go.Op.move (Go.Operand.tmp 21), 4, none⟩,
        ⟨some 23, Go.Op.move (Go.Operand.tmp 3), 9, (some (22, true))⟩,
        ⟨some 24, Go.Op.binOp Go.BinOp.eql 9 (Go.Operand.tmp 23) (Go.Operand.const (Go.Value.string { data := #[] })) 9, 4, (some (22, true))⟩,
        ⟨some 25, Go.Op.pick (Go.Operand.tmp 22) (Go.Operand.tmp 24) (Go.Operand.const (Go.Value.bool false)), 4, none⟩,
        ⟨some 26, Go.Op.move (Go.Operand.tmp 25), 4, none⟩,
        ⟨some 27, Go.Op.call { callee := Go.Callee.value (Go.Operand.func 9), args := #[], argTypes := #[] }, 4, (some (26, true))⟩,
        ⟨some 28, Go.Op.pick (Go.Operand.tmp 26) (Go.Operand.tmp 27) (Go.Operand.const (Go.Value.bool false)), 4, none⟩,
        ⟨some 2, Go.Op.assign (Go.Operand.tmp 28), 4, none⟩])
      .ret)
      .skip))
    (.seq (.region [⟨some 30, Go.Op.move (Go.Operand.tmp 3), 9, none⟩,
      ⟨some 31, Go.Op.call { callee := Go.Callee.value (Go.Operand.func 10), args := #[Go.Operand.tmp 30], argTypes := #[9] }, 25, none⟩,
      ⟨some 29, Go.Op.move (Go.Operand.tmp 31), 25, none⟩,
      ⟨some 32, Go.Op.extract (Go.Operand.tmp 29) 0, 23, none⟩,
      ⟨some 33, Go.Op.extract (Go.Operand.tmp 29) 1, 3, none⟩,
      ⟨some 34, Go.Op.extract (Go.Operand.tmp 29) 2, 24, none⟩,
      ⟨some 5, Go.Op.assign (Go.Operand.tmp 32), 23, none⟩,
      ⟨some 6, Go.Op.assign (Go.Operand.tmp 33), 3, none⟩,
      ⟨some 7, Go.Op.assign (Go.Operand.tmp 34), 24, none⟩])
    (.seq (.region [⟨some 35, Go.Op.move (Go.Operand.tmp 0), 23, none⟩,
      ⟨some 36, Go.Op.call { callee := Go.Callee.value (Go.Operand.func 12), args := #[Go.Operand.tmp 35], argTypes := #[23] }, 24, none⟩,
      ⟨some 37, Go.Op.binOp Go.BinOp.eql 24 (Go.Operand.tmp 36) (Go.Operand.const (Go.Value.int Go.IntKind.i64 0)) 24, 4, none⟩,
      ⟨some 38, Go.Op.move (Go.Operand.tmp 37), 4, none⟩,
      ⟨some 39, Go.Op.move (Go.Operand.tmp 7), 24, (some (38, true))⟩,
      ⟨some 40, Go.Op.binOp Go.BinOp.eql 24 (Go.Operand.tmp 39) (Go.Operand.const (Go.Value.int Go.IntKind.i64 0)) 24, 4, (some (38, true))⟩,
      ⟨some 41, Go.Op.pick (Go.Operand.tmp 38) (Go.Operand.tmp 40) (Go.Operand.const (Go.Value.bool false)), 4, none⟩,
      ⟨some 42, Go.Op.move (Go.Operand.tmp 41), 4, none⟩,
      ⟨some 43, Go.Op.move (Go.Operand.tmp 6), 3, (some (42, true))⟩,
      ⟨some 44, Go.Op.binOp Go.BinOp.eql 3 (Go.Operand.tmp 43) (Go.Operand.const (Go.Value.int Go.IntKind.i64 0)) 3, 4, (some (42, true))⟩,
      ⟨some 45, Go.Op.pick (Go.Operand.tmp 42) (Go.Operand.tmp 44) (Go.Operand.const (Go.Value.bool false)), 4, none⟩,
      ⟨some 46, Go.Op.move (Go.Operand.tmp 45), 4, none⟩,
      ⟨some 47, Go.Op.move (Go.Operand.tmp 0), 23, (some (46, true))⟩,
      ⟨some 48, Go.Op.move (Go.Operand.tmp 5), 23, (some (46, true))⟩,
      ⟨some 49, Go.Op.call { callee := Go.Callee.value (Go.Operand.func 13), args := #[Go.Operand.tmp 47, Go.Operand.tmp 48], argTypes := #[23, 23] }, 4, (some (46, true))⟩,
      ⟨some 50, Go.Op.pick (Go.Operand.tmp 46) (Go.Operand.tmp 49) (Go.Operand.const (Go.Value.bool false)), 4, none⟩,
      ⟨some 51, Go.Op.move (Go.Operand.tmp 50), 4, none⟩,
      ⟨some 52, Go.Op.move (Go.Operand.tmp 3), 9, (some (51, true))⟩,
      ⟨some 53, Go.Op.call { callee := Go.Callee.value (Go.Operand.func 11), args := #[Go.Operand.tmp 52, Go.Operand.const (Go.Value.string { data := #[10] })], argTypes := #[9, 9] }, 3, (some (51, true))⟩,
      ⟨some 54, Go.Op.move (Go.Operand.tmp 0), 23, (some (51, true))⟩,
      ⟨some 55, Go.Op.call { callee := Go.Callee.builtin Go.Builtin.len, args := #[Go.Operand.tmp 54], argTypes := #[23] }, 3, (some (51, true))⟩,
      ⟨some 56, Go.Op.binOp Go.BinOp.eql 3 (Go.Operand.tmp 53) (Go.Operand.tmp 55) 3, 4, (some (51, true))⟩,
      ⟨some 57, Go.Op.pick (Go.Operand.tmp 51) (Go.Operand.tmp 56) (Go.Operand.const (Go.Value.bool false)), 4, none⟩,
      ⟨some 58, Go.Op.move (Go.Operand.tmp 57), 4, none⟩,
      ⟨some 59, Go.Op.call { callee := Go.Callee.value (Go.Operand.func 9), args := #[], argTypes := #[] }, 4, (some (58, true))⟩,
      ⟨some 60, Go.Op.pick (Go.Operand.tmp 58) (Go.Operand.tmp 59) (Go.Operand.const (Go.Value.bool false)), 4, none⟩,
      ⟨some 2, Go.Op.assign (Go.Operand.tmp 60), 4, none⟩])
    .ret)))))) :=
  ⟨foll, Tryz.f6, Tryz.func6, by kernel_rfl, by kernel_rfl, by kernel_rfl, by rw [Tryz.ntmps6]; decide⟩

/-- narrator.rulesyntax.Format -/
theorem fn16 : FnIs Tryz.prog 16 1 [Go.ResultVar.tmp 2, Go.ResultVar.tmp 3] (.seq (.region [⟨some 2, Go.Op.assign (Go.Operand.const (Go.Value.string { data := #[] })), 9, none⟩,
      ⟨some 3, Go.Op.assign (Go.Operand.const (Go.Value.int Go.IntKind.i64 0)), 24, none⟩])
    (.seq (.seq (.region [⟨some 8, Go.Op.move (Go.Operand.tmp 0), 23, none⟩,
      ⟨some 9, Go.Op.call { callee := Go.Callee.value (Go.Operand.func 12), args := #[Go.Operand.tmp 8], argTypes := #[23] }, 24, none⟩,
      ⟨some 4, Go.Op.assign (Go.Operand.tmp 9), 24, none⟩])
    (.seq (.region [⟨some 10, Go.Op.move (Go.Operand.tmp 4), 24, none⟩,
      ⟨some 11, Go.Op.binOp Go.BinOp.neq 24 (Go.Operand.tmp 10) (Go.Operand.const (Go.Value.int Go.IntKind.i64 0)) 24, 4, none⟩])
    (.cond (Go.Operand.tmp 11)
      (.seq (.region [⟨some 12, Go.Op.move (Go.Operand.tmp 4), 24, none⟩,
        ⟨some 2, Go.Op.assign (Go.Operand.const (Go.Value.string { data := #[] })), 9, none⟩,
        ⟨some 3, Go.Op.assign (Go.Operand.tmp 12), 24, none⟩])
      .ret)
      .skip)))
    (.seq (.region [⟨some 5, Go.Op.alloc 54, 0, none⟩])
    (.seq (.seq (.region [⟨some 13, Go.Op.move (Go.Operand.tmp 0), 23, none⟩,
      ⟨some 14, Go.Op.call { callee := Go.Callee.builtin Go.Builtin.len, args := #[Go.Operand.tmp 13], argTypes := #[23] }, 3, none⟩,
      ⟨some 15, Go.Op.move (Go.Operand.const (Go.Value.int Go.IntKind.i64 0)), 3, none⟩])
    (.block 0
      (.loop
        (.seq (.region [⟨some 16, Go.Op.binOp Go.BinOp.lss 3 (Go.Operand.tmp 15) (Go.Operand.tmp 14) 3, 0, none⟩])
        (.seq (.cond (Go.Operand.tmp 16)
          .skip
          (.exit 0))
        (.seq (.block 1
          (.seq (.region [⟨some 17, Go.Op.indexAddr 23 (Go.Operand.tmp 13) (Go.Operand.tmp 15), 0, none⟩,
            ⟨some 18, Go.Op.load 33 (Go.Operand.tmp 17), 33, none⟩,
            ⟨some 7, Go.Op.alloc 33, 0, none⟩,
            ⟨none, Go.Op.store 33 (Go.Operand.tmp 7) (Go.Operand.tmp 18), 0, none⟩])
          (.seq (.draw [⟨⟨some 19, Go.Op.fieldAddr 33 (Go.Operand.tmp 7) 0, 0, none⟩, false, false, false⟩,
            ⟨⟨some 20, Go.Op.load 9 (Go.Operand.tmp 19), 9, none⟩, false, false, false⟩,
            ⟨⟨some 21, Go.Op.binOp Go.BinOp.add 9 (Go.Operand.tmp 20) (Go.Operand.const (Go.Value.string { data := #[32] })) 9, 9, none⟩, false, false, false⟩,
            ⟨⟨some 22, Go.Op.fieldAddr 33 (Go.Operand.tmp 7) 4, 0, none⟩, false, false, false⟩,
            ⟨⟨some 23, Go.Op.load 3 (Go.Operand.tmp 22), 3, none⟩, false, false, false⟩,
            ⟨⟨some 24, Go.Op.call { callee := Go.Callee.value (Go.Operand.func 29), args := #[Go.Operand.tmp 23], argTypes := #[3] }, 9, none⟩, false, false, false⟩,
            ⟨⟨some 25, Go.Op.binOp Go.BinOp.add 9 (Go.Operand.tmp 21) (Go.Operand.tmp 24) 9, 9, none⟩, false, false, false⟩,
            ⟨⟨some 26, Go.Op.call { callee := Go.Callee.value (Go.Operand.func 28), args := #[Go.Operand.tmp 5, Go.Operand.tmp 25], argTypes := #[54, 9] }, 57, none⟩, false, false, false⟩])
          (.seq (.seq (.region [⟨some 27, Go.Op.fieldAddr 33 (Go.Operand.tmp 7) 5, 0, none⟩,
            ⟨some 28, Go.Op.load 3 (Go.Operand.tmp 27), 3, none⟩,
            ⟨some 29, Go.Op.binOp Go.BinOp.neq 3 (Go.Operand.tmp 28) (Go.Operand.const (Go.Value.int Go.IntKind.i64 0)) 3, 4, none⟩])
          (.cond (Go.Operand.tmp 29)
            (.region [⟨some 30, Go.Op.fieldAddr 33 (Go.Operand.tmp 7) 5, 0, none⟩,
              ⟨some 31, Go.Op.load 3 (Go.Operand.tmp 30), 3, none⟩,
              ⟨some 32, Go.Op.call { callee := Go.Callee.value (Go.Operand.func 30), args := #[Go.Operand.tmp 31], argTypes := #[3] }, 9, none⟩,
              ⟨some 33, Go.Op.binOp Go.BinOp.add 9 (Go.Operand.const (Go.Value.string { data := #[32, 119, 97, 105, 116, 32] })) (Go.Operand.tmp 32) 9, 9, none⟩,
              ⟨some 34, Go.Op.call { callee := Go.Callee.value (Go.Operand.func 28), args := #[Go.Operand.tmp 5, Go.Operand.tmp 33], argTypes := #[54, 9] }, 57, none⟩])
            .skip))
          (.seq (.seq (.region [⟨some 35, Go.Op.fieldAddr 33 (Go.Operand.tmp 7) 2, 0, none⟩,
            ⟨some 36, Go.Op.load 3 (Go.Operand.tmp 35), 3, none⟩,
            ⟨some 37, Go.Op.binOp Go.BinOp.neq 3 (Go.Operand.tmp 36) (Go.Operand.const (Go.Value.int Go.IntKind.i64 0)) 3, 4, none⟩,
            ⟨some 38, Go.Op.move (Go.Operand.tmp 37), 4, none⟩,
            ⟨some 39, Go.Op.fieldAddr 33 (Go.Operand.tmp 7) 3, 0, (some (38, false))⟩,
            ⟨some 40, Go.Op.load 3 (Go.Operand.tmp 39), 3, (some (38, false))⟩,
            ⟨some 41, Go.Op.binOp Go.BinOp.neq 3 (Go.Operand.tmp 40) (Go.Operand.const (Go.Value.int Go.IntKind.i64 60)) 3, 4, (some (38, false))⟩,
            ⟨some 42, Go.Op.pick (Go.Operand.tmp 38) (Go.Operand.const (Go.Value.bool true)) (Go.Operand.tmp 41), 4, none⟩])
          (.cond (Go.Operand.tmp 42)
            (.draw [⟨⟨some 43, Go.Op.fieldAddr 33 (Go.Operand.tmp 7) 2, 0, none⟩, false, false, false⟩,
              ⟨⟨some 44, Go.Op.load 3 (Go.Operand.tmp 43), 3, none⟩, false, false, false⟩,
              ⟨⟨some 45, Go.Op.binOp Go.BinOp.add 3 (Go.Operand.tmp 44) (Go.Operand.const (Go.Value.int Go.IntKind.i64 1)) 3, 3, none⟩, false, false, false⟩,
              ⟨⟨some 46, Go.Op.call { callee := Go.Callee.value (Go.Operand.func 30), args := #[Go.Operand.tmp 45], argTypes := #[3] }, 9, none⟩, false, false, false⟩,
              ⟨⟨some 47, Go.Op.binOp Go.BinOp.add 9 (Go.Operand.const (Go.Value.string { data := #[32, 114, 111, 119, 115, 32] })) (Go.Operand.tmp 46) 9, 9, none⟩, false, false, false⟩,
              ⟨⟨some 48, Go.Op.binOp Go.BinOp.add 9 (Go.Operand.tmp 47) (Go.Operand.const (Go.Value.string { data := #[45] })) 9, 9, none⟩, false, false, false⟩,
              ⟨⟨some 49, Go.Op.fieldAddr 33 (Go.Operand.tmp 7) 3, 0, none⟩, false, false, false⟩,
              ⟨⟨some 50, Go.Op.load 3 (Go.Operand.tmp 49), 3, none⟩, false, false, false⟩,
              ⟨⟨some 51, Go.Op.call { callee := Go.Callee.value (Go.Operand.func 30), args := #[Go.Operand.tmp 50], argTypes := #[3] }, 9, none⟩, false, false, false⟩,
              ⟨⟨some 52, Go.Op.binOp Go.BinOp.add 9 (Go.Operand.tmp 48) (Go.Operand.tmp 51) 9, 9, none⟩, false, false, false⟩,
              ⟨⟨some 53, Go.Op.call { callee := Go.Callee.value (Go.Operand.func 28), args := #[Go.Operand.tmp 5, Go.Operand.tmp 52], argTypes := #[54, 9] }, 57, none⟩, false, false, false⟩])
            .skip))
          (.region [⟨some 54, Go.Op.fieldAddr 33 (Go.Operand.tmp 7) 1, 0, none⟩,
            ⟨some 55, Go.Op.load 9 (Go.Operand.tmp 54), 9, none⟩,
            ⟨some 56, Go.Op.binOp Go.BinOp.add 9 (Go.Operand.const (Go.Value.string { data := #[32, 34] })) (Go.Operand.tmp 55) 9, 9, none⟩,
            ⟨some 57, Go.Op.binOp Go.BinOp.add 9 (Go.Operand.tmp 56) (Go.Operand.const (Go.Value.string { data := #[34, 10] })) 9, 9, none⟩,
            ⟨some 58, Go.Op.call { callee := Go.Callee.value (Go.Operand.func 28), args := #[Go.Operand.tmp 5, Go.Operand.tmp 57], argTypes := #[54, 9] }, 57, none⟩]))))))
        (.region [⟨some 59, Go.Op.binOp Go.BinOp.add 3 (Go.Operand.tmp 15) (Go.Operand.const (Go.Value.int Go.IntKind.i64 1)) 3, 3, none⟩,
          ⟨some 15, Go.Op.move (Go.Operand.tmp 59), 3, none⟩])))))))
    (.seq (.region [⟨some 60, Go.Op.call { callee := Go.Callee.value (Go.Operand.func 31), args := #[Go.Operand.tmp 5], argTypes := #[54] }, 9, none⟩,
      ⟨some 2, Go.Op.assign (Go.Operand.tmp 60), 9, none⟩,
      ⟨some 3, Go.Op.assign (Go.Operand.const (Go.Value.int Go.IntKind.i64 0)), 24, none⟩])
    .ret))))) :=
  ⟨foll, Tryz.f16, Tryz.func16, by kernel_rfl, by kernel_rfl, by kernel_rfl, by rw [Tryz.ntmps16]; decide⟩

/-- narrator.rulesyntax.word -/
theorem fn29 : FnIs Tryz.prog 29 1 [Go.ResultVar.tmp 2] (.seq (.region [⟨some 2, Go.Op.assign (Go.Operand.const (Go.Value.string { data := #[] })), 9, none⟩])
    (.seq (.seq (.region [⟨some 5, Go.Op.call { callee := Go.Callee.value (Go.Operand.func 40), args := #[], argTypes := #[] }, 69, none⟩,
      ⟨some 6, Go.Op.range 69 (Go.Operand.tmp 5), 0, none⟩])
    (.block 0
      (.loop
        (.seq (.region [⟨some 7, Go.Op.next (Go.Operand.tmp 6) false, 0, none⟩,
          ⟨some 8, Go.Op.extract (Go.Operand.tmp 7) 0, 4, none⟩])
        (.seq (.cond (Go.Operand.tmp 8)
          .skip
          (.exit 0))
        (.block 1
          (.seq (.region [⟨some 9, Go.Op.entry (Go.Operand.tmp 6), 0, none⟩,
            ⟨some 10, Go.Op.extract (Go.Operand.tmp 9) 0, 9, none⟩,
            ⟨some 11, Go.Op.extract (Go.Operand.tmp 9) 1, 3, none⟩,
            ⟨some 3, Go.Op.assign (Go.Operand.tmp 10), 9, none⟩,
            ⟨some 4, Go.Op.assign (Go.Operand.tmp 11), 3, none⟩])
          (.seq (.region [⟨some 12, Go.Op.move (Go.Operand.tmp 4), 3, none⟩,
            ⟨some 13, Go.Op.move (Go.Operand.tmp 0), 3, none⟩,
            ⟨some 14, Go.Op.binOp Go.BinOp.eql 3 (Go.Operand.tmp 12) (Go.Operand.tmp 13) 3, 4, none⟩])
          (.cond (Go.Operand.tmp 14)
            (.seq (.region [⟨some 15, Go.Op.move (Go.Operand.tmp 3), 9, none⟩,
              ⟨some 2, Go.Op.assign (Go.Operand.tmp 15), 9, none⟩])
            .ret)
            .skip)))))))))
    (.seq (.region [⟨some 2, Go.Op.assign (Go.Operand.const (Go.Value.string { data := #[] })), 9, none⟩])
    .ret))) :=
  ⟨foll, Tryz.f29, Tryz.func29, by kernel_rfl, by kernel_rfl, by kernel_rfl, by rw [Tryz.ntmps29]; decide⟩

end Go.Proofs.YtjgbdlaecpkmhaaGreatDoor
/- The prepared code of further functions. Written by a program of mine (gen.py) out of what the loaded dump prints. -/

set_option linter.unusedVariables false
set_option maxRecDepth 100000
namespace Go.Proofs.YtjgbdlaecpkmhaaGreatDoor
open Go Nv

/-- (*strings.Builder).WriteString -/
theorem fn28 : FnIs Tryz.prog 28 2 [Go.ResultVar.tmp 4, Go.ResultVar.tmp 5] (.seq (.region [⟨some 4, Go.Op.assign (Go.Operand.const (Go.Value.int Go.IntKind.i64 0)), 3, none⟩,
      ⟨some 5, Go.Op.assign (Go.Operand.const Go.Value.nilIface), 56, none⟩])
    (.seq (.region [⟨some 6, Go.Op.move (Go.Operand.tmp 0), 52, none⟩,
      ⟨some 7, Go.Op.call { callee := Go.Callee.value (Go.Operand.func 47), args := #[Go.Operand.tmp 6], argTypes := #[52] }, 0, none⟩])
    (.seq (.region [⟨some 8, Go.Op.move (Go.Operand.tmp 0), 52, none⟩,
      ⟨some 9, Go.Op.move (Go.Operand.tmp 0), 52, none⟩,
      ⟨some 10, Go.Op.nilCheck (Go.Operand.tmp 9), 0, none⟩,
      ⟨some 11, Go.Op.fieldAddr 54 (Go.Operand.tmp 10) 1, 0, none⟩,
      ⟨some 12, Go.Op.load 38 (Go.Operand.tmp 11), 38, none⟩,
      ⟨some 13, Go.Op.move (Go.Operand.tmp 1), 9, none⟩,
      ⟨some 14, Go.Op.call { callee := Go.Callee.builtin Go.Builtin.append, args := #[Go.Operand.tmp 12, Go.Operand.tmp 13], argTypes := #[38, 9] }, 38, none⟩,
      ⟨some 15, Go.Op.nilCheck (Go.Operand.tmp 8), 0, none⟩,
      ⟨some 16, Go.Op.fieldAddr 54 (Go.Operand.tmp 15) 1, 0, none⟩,
      ⟨none, Go.Op.store 38 (Go.Operand.tmp 16) (Go.Operand.tmp 14), 0, none⟩])
    (.seq (.region [⟨some 17, Go.Op.move (Go.Operand.tmp 1), 9, none⟩,
      ⟨some 18, Go.Op.call { callee := Go.Callee.builtin Go.Builtin.len, args := #[Go.Operand.tmp 17], argTypes := #[9] }, 3, none⟩,
      ⟨some 4, Go.Op.assign (Go.Operand.tmp 18), 3, none⟩,
      ⟨some 5, Go.Op.assign (Go.Operand.const Go.Value.nilIface), 56, none⟩])
    .ret)))) :=
  ⟨foll, Tryz.f28, Tryz.func28, by kernel_rfl, by kernel_rfl, by kernel_rfl, by rw [Tryz.ntmps28]; decide⟩

/-- (*strings.Builder).String -/
theorem fn31 : FnIs Tryz.prog 31 1 [Go.ResultVar.tmp 2] (.seq (.region [⟨some 2, Go.Op.assign (Go.Operand.const (Go.Value.string { data := #[] })), 9, none⟩])
    (.seq (.draw [⟨⟨some 3, Go.Op.move (Go.Operand.tmp 0), 52, none⟩, false, false, false⟩,
      ⟨⟨some 4, Go.Op.nilCheck (Go.Operand.tmp 3), 0, none⟩, false, false, false⟩,
      ⟨⟨some 5, Go.Op.fieldAddr 54 (Go.Operand.tmp 4) 1, 0, none⟩, false, false, false⟩,
      ⟨⟨some 6, Go.Op.load 38 (Go.Operand.tmp 5), 38, none⟩, false, false, false⟩,
      ⟨⟨some 7, Go.Op.call { callee := Go.Callee.builtin Go.Builtin.unsafeSliceData, args := #[Go.Operand.tmp 6], argTypes := #[38] }, 81, none⟩, false, false, false⟩,
      ⟨⟨some 8, Go.Op.move (Go.Operand.tmp 0), 52, none⟩, false, false, false⟩,
      ⟨⟨some 9, Go.Op.nilCheck (Go.Operand.tmp 8), 0, none⟩, false, false, false⟩,
      ⟨⟨some 10, Go.Op.fieldAddr 54 (Go.Operand.tmp 9) 1, 0, none⟩, false, false, false⟩,
      ⟨⟨some 11, Go.Op.load 38 (Go.Operand.tmp 10), 38, none⟩, false, false, false⟩,
      ⟨⟨some 12, Go.Op.call { callee := Go.Callee.builtin Go.Builtin.len, args := #[Go.Operand.tmp 11], argTypes := #[38] }, 3, none⟩, false, false, false⟩,
      ⟨⟨some 13, Go.Op.call { callee := Go.Callee.builtin Go.Builtin.unsafeString, args := #[Go.Operand.tmp 7, Go.Operand.tmp 12], argTypes := #[81, 3] }, 9, none⟩, true, false, false⟩,
      ⟨⟨some 2, Go.Op.assign (Go.Operand.tmp 13), 9, none⟩, false, false, false⟩])
    .ret)) :=
  ⟨foll, Tryz.f31, Tryz.func31, by kernel_rfl, by kernel_rfl, by kernel_rfl, by rw [Tryz.ntmps31]; decide⟩

/-- (*strings.Builder).copyCheck -/
theorem fn47 : FnIs Tryz.prog 47 1 [] (.seq (.region [⟨some 2, Go.Op.move (Go.Operand.tmp 0), 52, none⟩,
      ⟨some 3, Go.Op.nilCheck (Go.Operand.tmp 2), 0, none⟩,
      ⟨some 4, Go.Op.fieldAddr 54 (Go.Operand.tmp 3) 0, 0, none⟩,
      ⟨some 5, Go.Op.load 52 (Go.Operand.tmp 4), 52, none⟩,
      ⟨some 6, Go.Op.binOp Go.BinOp.eql 52 (Go.Operand.tmp 5) (Go.Operand.const (Go.Value.pointer none)) 52, 4, none⟩])
    (.cond (Go.Operand.tmp 6)
      (.region [⟨some 7, Go.Op.move (Go.Operand.tmp 0), 52, none⟩,
        ⟨some 8, Go.Op.move (Go.Operand.tmp 0), 52, none⟩,
        ⟨some 9, Go.Op.convert 52 106 (Go.Operand.tmp 8), 106, none⟩,
        ⟨some 10, Go.Op.call { callee := Go.Callee.value (Go.Operand.func 67), args := #[Go.Operand.tmp 9], argTypes := #[106] }, 106, none⟩,
        ⟨some 11, Go.Op.convert 106 52 (Go.Operand.tmp 10), 52, none⟩,
        ⟨some 12, Go.Op.nilCheck (Go.Operand.tmp 7), 0, none⟩,
        ⟨some 13, Go.Op.fieldAddr 54 (Go.Operand.tmp 12) 0, 0, none⟩,
        ⟨none, Go.Op.store 52 (Go.Operand.tmp 13) (Go.Operand.tmp 11), 0, none⟩])
      (.seq (.region [⟨some 14, Go.Op.move (Go.Operand.tmp 0), 52, none⟩,
        ⟨some 15, Go.Op.nilCheck (Go.Operand.tmp 14), 0, none⟩,
        ⟨some 16, Go.Op.fieldAddr 54 (Go.Operand.tmp 15) 0, 0, none⟩,
        ⟨some 17, Go.Op.load 52 (Go.Operand.tmp 16), 52, none⟩,
        ⟨some 18, Go.Op.move (Go.Operand.tmp 0), 52, none⟩,
        ⟨some 19, Go.Op.binOp Go.BinOp.neq 52 (Go.Operand.tmp 17) (Go.Operand.tmp 18) 52, 4, none⟩])
      (.cond (Go.Operand.tmp 19)
        .other
        .skip)))) :=
  ⟨foll, Tryz.f47, Tryz.func47, by kernel_rfl, by kernel_rfl, by kernel_rfl, by rw [Tryz.ntmps47]; decide⟩

end Go.Proofs.YtjgbdlaecpkmhaaGreatDoor
/- The prepared code of further functions. Written by a program of mine (gen.py) out of what the loaded dump prints. -/

set_option linter.unusedVariables false
set_option maxRecDepth 100000
namespace Go.Proofs.YtjgbdlaecpkmhaaGreatDoor
open Go Nv

/-- narrator.narratorlaw34.awake -/
theorem fn9 : FnIs Tryz.prog 9 0 [Go.ResultVar.tmp 0] (.seq (.region [⟨some 0, Go.Op.assign (Go.Operand.const (Go.Value.bool false)), 4, none⟩])
    (.seq (.region [⟨some 5, Go.Op.call { callee := Go.Callee.value (Go.Operand.func 10), args := #[Go.Operand.const (Go.Value.string { data := #[97, 108, 97, 114, 109, 32, 117, 114, 103, 101, 110, 116, 32, 114, 111, 119, 115, 32, 49, 45, 50, 32, 34, 69, 82, 82, 79, 82, 46, 42, 34, 10, 108, 111, 103, 32, 108, 97, 116, 101, 114, 32, 119, 97, 105, 116, 32, 53, 48, 48, 32, 34, 46, 42, 34] })], argTypes := #[9] }, 25, none⟩,
      ⟨some 4, Go.Op.move (Go.Operand.tmp 5), 25, none⟩,
      ⟨some 6, Go.Op.extract (Go.Operand.tmp 4) 0, 23, none⟩,
      ⟨some 7, Go.Op.extract (Go.Operand.tmp 4) 1, 3, none⟩,
      ⟨some 8, Go.Op.extract (Go.Operand.tmp 4) 2, 24, none⟩,
      ⟨some 1, Go.Op.assign (Go.Operand.tmp 6), 23, none⟩,
      ⟨some 2, Go.Op.assign (Go.Operand.tmp 7), 3, none⟩,
      ⟨some 3, Go.Op.assign (Go.Operand.tmp 8), 24, none⟩])
    (.seq (.region [⟨some 9, Go.Op.move (Go.Operand.tmp 3), 24, none⟩,
      ⟨some 10, Go.Op.binOp Go.BinOp.eql 24 (Go.Operand.tmp 9) (Go.Operand.const (Go.Value.int Go.IntKind.i64 0)) 24, 4, none⟩,
      ⟨some 11, Go.Op.move (Go.Operand.tmp 10), 4, none⟩,
      ⟨some 12, Go.Op.move (Go.Operand.tmp 2), 3, (some (11, true))⟩,
      ⟨some 13, Go.Op.binOp Go.BinOp.eql 3 (Go.Operand.tmp 12) (Go.Operand.const (Go.Value.int Go.IntKind.i64 0)) 3, 4, (some (11, true))⟩,
      ⟨some 14, Go.Op.pick (Go.Operand.tmp 11) (Go.Operand.tmp 13) (Go.Operand.const (Go.Value.bool false)), 4, none⟩,
      ⟨some 15, Go.Op.move (Go.Operand.tmp 14), 4, none⟩,
      ⟨some 16, Go.Op.move (Go.Operand.tmp 1), 23, (some (15, true))⟩,
      ⟨some 17, Go.Op.build 33 #[(0, Go.Operand.const (Go.Value.string { data := #[97, 108, 97, 114, 109] })), (1, Go.Operand.const (Go.Value.string { data := #[69, 82, 82, 79, 82, 46, 42] })), (3, Go.Operand.const (Go.Value.int Go.IntKind.i64 2)), (4, Go.Operand.const (Go.Value.int Go.IntKind.i64 1))], 33, (some (15, true))⟩,
      ⟨some 18, Go.Op.build 33 #[(0, Go.Operand.const (Go.Value.string { data := #[108, 111, 103] })), (1, Go.Operand.const (Go.Value.string { data := #[46, 42] })), (3, Go.Operand.const (Go.Value.int Go.IntKind.i64 60)), (4, Go.Operand.const (Go.Value.int Go.IntKind.i64 3)), (5, Go.Operand.const (Go.Value.int Go.IntKind.i64 500))], 33, (some (15, true))⟩,
      ⟨some 19, Go.Op.buildSlice 23 2 #[(0, Go.Operand.tmp 17), (1, Go.Operand.tmp 18)], 23, (some (15, true))⟩,
      ⟨some 20, Go.Op.call { callee := Go.Callee.value (Go.Operand.func 13), args := #[Go.Operand.tmp 16, Go.Operand.tmp 19], argTypes := #[23, 23] }, 4, (some (15, true))⟩,
      ⟨some 21, Go.Op.pick (Go.Operand.tmp 15) (Go.Operand.tmp 20) (Go.Operand.const (Go.Value.bool false)), 4, none⟩,
      ⟨some 0, Go.Op.assign (Go.Operand.tmp 21), 4, none⟩])
    .ret))) :=
  ⟨foll, Tryz.f9, Tryz.func9, by kernel_rfl, by kernel_rfl, by kernel_rfl, by rw [Tryz.ntmps9]; decide⟩

end Go.Proofs.YtjgbdlaecpkmhaaGreatDoor
/- The prepared code of further functions. Written by a program of mine (gen.py) out of what the loaded dump prints. -/

set_option linter.unusedVariables false
set_option maxRecDepth 100000
namespace Go.Proofs.YtjgbdlaecpkmhaaGreatDoor
open Go Nv

/-- narrator.narratorlaw34.RulesyntaxProper -/
theorem fn3 : FnIs Tryz.prog 3 1 [Go.ResultVar.tmp 2] (.seq (.region [⟨some 2, Go.Op.assign (Go.Operand.const (Go.Value.bool false)), 4, none⟩])
    (.seq (.seq (.region [⟨some 6, Go.Op.move (Go.Operand.tmp 0), 9, none⟩,
      ⟨some 7, Go.Op.call { callee := Go.Callee.builtin Go.Builtin.len, args := #[Go.Operand.tmp 6], argTypes := #[9] }, 3, none⟩,
      ⟨some 8, Go.Op.binOp Go.BinOp.gtr 3 (Go.Operand.tmp 7) (Go.Operand.const (Go.Value.int Go.IntKind.i64 600)) 3, 4, none⟩])
    (.cond (Go.Operand.tmp 8)
      (.seq (.region [⟨some 9, Go.Op.call { callee := Go.Callee.value (Go.Operand.func 9), args := #[], argTypes := #[] }, 4, none⟩,
        ⟨some 2, Go.Op.assign (Go.Operand.tmp 9), 4, none⟩])
      .ret)
      .skip))
    (.seq (.region [⟨some 11, Go.Op.move (Go.Operand.tmp 0), 9, none⟩,
      ⟨some 12, Go.Op.call { callee := Go.Callee.value (Go.Operand.func 10), args := #[Go.Operand.tmp 11], argTypes := #[9] }, 25, none⟩,
      ⟨some 10, Go.Op.move (Go.Operand.tmp 12), 25, none⟩,
      ⟨some 13, Go.Op.extract (Go.Operand.tmp 10) 0, 23, none⟩,
      ⟨some 14, Go.Op.extract (Go.Operand.tmp 10) 1, 3, none⟩,
      ⟨some 15, Go.Op.extract (Go.Operand.tmp 10) 2, 24, none⟩,
      ⟨some 3, Go.Op.assign (Go.Operand.tmp 13), 23, none⟩,
      ⟨some 4, Go.Op.assign (Go.Operand.tmp 14), 3, none⟩,
      ⟨some 5, Go.Op.assign (Go.Operand.tmp 15), 24, none⟩])
    (.seq (.seq (.region [⟨some 16, Go.Op.move (Go.Operand.tmp 5), 24, none⟩,
      ⟨some 17, Go.Op.binOp Go.BinOp.neq 24 (Go.Operand.tmp 16) (Go.Operand.const (Go.Value.int Go.IntKind.i64 0)) 24, 4, none⟩])
    (.cond (Go.Operand.tmp 17)
      (.seq (.region [⟨some 18, Go.Op.move (Go.Operand.tmp 3), 23, none⟩,
        ⟨some 19, Go.Op.call { callee := Go.Callee.builtin Go.Builtin.len, args := #[Go.Operand.tmp 18], argTypes := #[23] }, 3, none⟩,
        ⟨some 20, Go.Op.binOp Go.BinOp.eql 3 (Go.Operand.tmp 19) (Go.Operand.const (Go.Value.int Go.IntKind.i64 0)) 3, 4, none⟩,
        ⟨some 21, Go.Op.move (Go.Operand.tmp 20), 4, none⟩,
        ⟨some 22, Go.Op.move (Go.Operand.tmp 4), 3, (some (21, true))⟩,
        ⟨some 23, Go.Op.binOp Go.BinOp.geq 3 (Go.Operand.tmp 22) (Go.Operand.const (Go.Value.int Go.IntKind.i64 1)) 3, 4, (some (21, true))⟩,
        ⟨some 24, Go.Op.pick (Go.Operand.tmp 21) (Go.Operand.tmp 23) (Go.Operand.const (Go.Value.bool false)), 4, none⟩,
        ⟨some 25, Go.Op.move (Go.Operand.tmp 24), 4, none⟩,
        ⟨some 26, Go.Op.move (Go.Operand.tmp 4), 3, (some (25, true))⟩,
        ⟨some 27, Go.Op.move (Go.Operand.tmp 0), 9, (some (25, true))⟩,
        ⟨some 28, Go.Op.call { callee := Go.Callee.value (Go.Operand.func 11), args := #[Go.Operand.tmp 27, Go.Operand.const (Go.Value.string { data := #[10] })], argTypes := #[9, 9] }, 3, (some (25, true))⟩,
        ⟨some 29, Go.Op.binOp Go.BinOp.add 3 (Go.Operand.tmp 28) (Go.Operand.const (Go.Value.int Go.IntKind.i64 1)) 3, 3, (some (25, true))⟩,
        ⟨some 30, Go.Op.binOp Go.BinOp.leq 3 (Go.Operand.tmp 26) (Go.Operand.tmp 29) 3, 4, (some (25, true))⟩,
        ⟨some 31, Go.Op.pick (Go.Operand.tmp 25) (Go.Operand.tmp 30) (Go.Operand.const (Go.Value.bool false)), 4, none⟩,
        ⟨some 32, Go.Op.move (Go.Operand.tmp 31), 4, none⟩,
        ⟨some 33, Go.Op.call { callee := Go.Callee.value (Go.Operand.func 9), args := #[], argTypes := #[] }, 4, (some (32, true))⟩,
        ⟨some 34, Go.Op.pick (Go.Operand.tmp 32) (Go.Operand.tmp 33) (Go.Operand.const (Go.Value.bool false)), 4, none⟩,
        ⟨some 2, Go.Op.assign (Go.Operand.tmp 34), 4, none⟩])
      .ret)
      .skip))
    (.seq (.region [⟨some 35, Go.Op.move (Go.Operand.tmp 4), 3, none⟩,
      ⟨some 36, Go.Op.binOp Go.BinOp.eql 3 (Go.Operand.tmp 35) (Go.Operand.const (Go.Value.int Go.IntKind.i64 0)) 3, 4, none⟩,
      ⟨some 37, Go.Op.move (Go.Operand.tmp 36), 4, none⟩,
      ⟨some 38, Go.Op.move (Go.Operand.tmp 3), 23, (some (37, true))⟩,
      ⟨some 39, Go.Op.call { callee := Go.Callee.value (Go.Operand.func 12), args := #[Go.Operand.tmp 38], argTypes := #[23] }, 24, (some (37, true))⟩,
      ⟨some 40, Go.Op.binOp Go.BinOp.eql 24 (Go.Operand.tmp 39) (Go.Operand.const (Go.Value.int Go.IntKind.i64 0)) 24, 4, (some (37, true))⟩,
      ⟨some 41, Go.Op.pick (Go.Operand.tmp 37) (Go.Operand.tmp 40) (Go.Operand.const (Go.Value.bool false)), 4, none⟩,
      ⟨some 42, Go.Op.move (Go.Operand.tmp 41), 4, none⟩,
      ⟨some 43, Go.Op.call { callee := Go.Callee.value (Go.Operand.func 9), args := #[], argTypes := #[] }, 4, (some (42, true))⟩,
      ⟨some 44, Go.Op.pick (Go.Operand.tmp 42) (Go.Operand.tmp 43) (Go.Operand.const (Go.Value.bool false)), 4, none⟩,
      ⟨some 2, Go.Op.assign (Go.Operand.tmp 44), 4, none⟩])
    .ret))))) :=
  ⟨foll, Tryz.f3, Tryz.func3, by kernel_rfl, by kernel_rfl, by kernel_rfl, by rw [Tryz.ntmps3]; decide⟩

/-- narrator.narratorlaw34.RulesyntaxJoins -/
theorem fn4 : FnIs Tryz.prog 4 2 [Go.ResultVar.tmp 4] (.seq (.region [⟨some 4, Go.Op.assign (Go.Operand.const (Go.Value.bool false)), 4, none⟩])
    (.seq (.seq (.region [⟨some 15, Go.Op.move (Go.Operand.tmp 0), 9, none⟩,
      ⟨some 16, Go.Op.call { callee := Go.Callee.builtin Go.Builtin.len, args := #[Go.Operand.tmp 15], argTypes := #[9] }, 3, none⟩,
      ⟨some 17, Go.Op.binOp Go.BinOp.gtr 3 (Go.Operand.tmp 16) (Go.Operand.const (Go.Value.int Go.IntKind.i64 300)) 3, 4, none⟩,
      ⟨some 18, Go.Op.move (Go.Operand.tmp 17), 4, none⟩,
      ⟨some 19, Go.Op.move (Go.Operand.tmp 1), 9, (some (18, false))⟩,
      ⟨some 20, Go.Op.call { callee := Go.Callee.builtin Go.Builtin.len, args := #[Go.Operand.tmp 19], argTypes := #[9] }, 3, (some (18, false))⟩,
      ⟨some 21, Go.Op.binOp Go.BinOp.gtr 3 (Go.Operand.tmp 20) (Go.Operand.const (Go.Value.int Go.IntKind.i64 300)) 3, 4, (some (18, false))⟩,
      ⟨some 22, Go.Op.pick (Go.Operand.tmp 18) (Go.Operand.const (Go.Value.bool true)) (Go.Operand.tmp 21), 4, none⟩])
    (.cond (Go.Operand.tmp 22)
      (.seq (.region [⟨some 23, Go.Op.call { callee := Go.Callee.value (Go.Operand.func 9), args := #[], argTypes := #[] }, 4, none⟩,
        ⟨some 4, Go.Op.assign (Go.Operand.tmp 23), 4, none⟩])
      .ret)
      .skip))
    (.seq (.region [⟨some 25, Go.Op.move (Go.Operand.tmp 0), 9, none⟩,
      ⟨some 26, Go.Op.call { callee := Go.Callee.value (Go.Operand.func 10), args := #[Go.Operand.tmp 25], argTypes := #[9] }, 25, none⟩,
      ⟨some 24, Go.Op.move (Go.Operand.tmp 26), 25, none⟩,
      ⟨some 27, Go.Op.extract (Go.Operand.tmp 24) 0, 23, none⟩,
      ⟨some 28, Go.Op.extract (Go.Operand.tmp 24) 1, 3, none⟩,
      ⟨some 29, Go.Op.extract (Go.Operand.tmp 24) 2, 24, none⟩,
      ⟨some 5, Go.Op.assign (Go.Operand.tmp 27), 23, none⟩,
      ⟨some 6, Go.Op.assign (Go.Operand.tmp 28), 3, none⟩,
      ⟨some 7, Go.Op.assign (Go.Operand.tmp 29), 24, none⟩])
    (.seq (.region [⟨some 31, Go.Op.move (Go.Operand.tmp 1), 9, none⟩,
      ⟨some 32, Go.Op.call { callee := Go.Callee.value (Go.Operand.func 10), args := #[Go.Operand.tmp 31], argTypes := #[9] }, 25, none⟩,
      ⟨some 30, Go.Op.move (Go.Operand.tmp 32), 25, none⟩,
      ⟨some 33, Go.Op.extract (Go.Operand.tmp 30) 0, 23, none⟩,
      ⟨some 34, Go.Op.extract (Go.Operand.tmp 30) 1, 3, none⟩,
      ⟨some 35, Go.Op.extract (Go.Operand.tmp 30) 2, 24, none⟩,
      ⟨some 8, Go.Op.assign (Go.Operand.tmp 33), 23, none⟩,
      ⟨some 9, Go.Op.assign (Go.Operand.tmp 34), 3, none⟩,
      ⟨some 10, Go.Op.assign (Go.Operand.tmp 35), 24, none⟩])
    (.seq (.seq (.region [⟨some 36, Go.Op.move (Go.Operand.tmp 7), 24, none⟩,
      ⟨some 37, Go.Op.binOp Go.BinOp.neq 24 (Go.Operand.tmp 36) (Go.Operand.const (Go.Value.int Go.IntKind.i64 0)) 24, 4, none⟩,
      ⟨some 38, Go.Op.move (Go.Operand.tmp 37), 4, none⟩,
      ⟨some 39, Go.Op.move (Go.Operand.tmp 10), 24, (some (38, false))⟩,
      ⟨some 40, Go.Op.binOp Go.BinOp.neq 24 (Go.Operand.tmp 39) (Go.Operand.const (Go.Value.int Go.IntKind.i64 0)) 24, 4, (some (38, false))⟩,
      ⟨some 41, Go.Op.pick (Go.Operand.tmp 38) (Go.Operand.const (Go.Value.bool true)) (Go.Operand.tmp 40), 4, none⟩])
    (.cond (Go.Operand.tmp 41)
      (.seq (.region [⟨some 42, Go.Op.call { callee := Go.Callee.value (Go.Operand.func 9), args := #[], argTypes := #[] }, 4, none⟩,
        ⟨some 4, Go.Op.assign (Go.Operand.tmp 42), 4, none⟩])
      .ret)
      .skip))
    (.seq (.region [⟨some 43, Go.Op.buildSlice 23 0 #[], 23, none⟩,
      ⟨some 44, Go.Op.move (Go.Operand.tmp 5), 23, none⟩,
      ⟨some 45, Go.Op.call { callee := Go.Callee.builtin Go.Builtin.append, args := #[Go.Operand.tmp 43, Go.Operand.tmp 44], argTypes := #[23, 23] }, 23, none⟩,
      ⟨some 46, Go.Op.move (Go.Operand.tmp 8), 23, none⟩,
      ⟨some 47, Go.Op.call { callee := Go.Callee.builtin Go.Builtin.append, args := #[Go.Operand.tmp 45, Go.Operand.tmp 46], argTypes := #[23, 23] }, 23, none⟩,
      ⟨some 11, Go.Op.assign (Go.Operand.tmp 47), 23, none⟩])
    (.seq (.region [⟨some 49, Go.Op.move (Go.Operand.tmp 0), 9, none⟩,
      ⟨some 50, Go.Op.binOp Go.BinOp.add 9 (Go.Operand.tmp 49) (Go.Operand.const (Go.Value.string { data := #[10] })) 9, 9, none⟩,
      ⟨some 51, Go.Op.move (Go.Operand.tmp 1), 9, none⟩,
      ⟨some 52, Go.Op.binOp Go.BinOp.add 9 (Go.Operand.tmp 50) (Go.Operand.tmp 51) 9, 9, none⟩,
      ⟨some 53, Go.Op.call { callee := Go.Callee.value (Go.Operand.func 10), args := #[Go.Operand.tmp 52], argTypes := #[9] }, 25, none⟩,
      ⟨some 48, Go.Op.move (Go.Operand.tmp 53), 25, none⟩,
      ⟨some 54, Go.Op.extract (Go.Operand.tmp 48) 0, 23, none⟩,
      ⟨some 55, Go.Op.extract (Go.Operand.tmp 48) 1, 3, none⟩,
      ⟨some 56, Go.Op.extract (Go.Operand.tmp 48) 2, 24, none⟩,
      ⟨some 12, Go.Op.assign (Go.Operand.tmp 54), 23, none⟩,
      ⟨some 13, Go.Op.assign (Go.Operand.tmp 55), 3, none⟩,
      ⟨some 14, Go.Op.assign (Go.Operand.tmp 56), 24, none⟩])
    (.seq (.seq (.region [⟨some 57, Go.Op.move (Go.Operand.tmp 11), 23, none⟩,
      ⟨some 58, Go.Op.call { callee := Go.Callee.value (Go.Operand.func 12), args := #[Go.Operand.tmp 57], argTypes := #[23] }, 24, none⟩,
      ⟨some 59, Go.Op.binOp Go.BinOp.neq 24 (Go.Operand.tmp 58) (Go.Operand.const (Go.Value.int Go.IntKind.i64 0)) 24, 4, none⟩])
    (.cond (Go.Operand.tmp 59)
      (.seq (.region [⟨some 60, Go.Op.move (Go.Operand.tmp 14), 24, none⟩,
        ⟨some 61, Go.Op.binOp Go.BinOp.neq 24 (Go.Operand.tmp 60) (Go.Operand.const (Go.Value.int Go.IntKind.i64 0)) 24, 4, none⟩,
        ⟨some 62, Go.Op.move (Go.Operand.tmp 61), 4, none⟩,
        ⟨some 63, Go.Op.call { callee := Go.Callee.value (Go.Operand.func 9), args := #[], argTypes := #[] }, 4, (some (62, true))⟩,
        ⟨some 64, Go.Op.pick (Go.Operand.tmp 62) (Go.Operand.tmp 63) (Go.Operand.const (Go.Value.bool false)), 4, none⟩,
        ⟨some 4, Go.Op.assign (Go.Operand.tmp 64), 4, none⟩])
      .ret)
      .skip))
    (.seq (.region [⟨some 65, Go.Op.move (Go.Operand.tmp 14), 24, none⟩,
      ⟨some 66, Go.Op.binOp Go.BinOp.eql 24 (Go.Operand.tmp 65) (Go.Operand.const (Go.Value.int Go.IntKind.i64 0)) 24, 4, none⟩,
      ⟨some 67, Go.Op.move (Go.Operand.tmp 66), 4, none⟩,
      ⟨some 68, Go.Op.move (Go.Operand.tmp 12), 23, (some (67, true))⟩,
      ⟨some 69, Go.Op.move (Go.Operand.tmp 11), 23, (some (67, true))⟩,
      ⟨some 70, Go.Op.call { callee := Go.Callee.value (Go.Operand.func 13), args := #[Go.Operand.tmp 68, Go.Operand.tmp 69], argTypes := #[23, 23] }, 4, (some (67, true))⟩,
      ⟨some 71, Go.Op.pick (Go.Operand.tmp 67) (Go.Operand.tmp 70) (Go.Operand.const (Go.Value.bool false)), 4, none⟩,
      ⟨some 72, Go.Op.move (Go.Operand.tmp 71), 4, none⟩,
      ⟨some 73, Go.Op.call { callee := Go.Callee.value (Go.Operand.func 9), args := #[], argTypes := #[] }, 4, (some (72, true))⟩,
      ⟨some 74, Go.Op.pick (Go.Operand.tmp 72) (Go.Operand.tmp 73) (Go.Operand.const (Go.Value.bool false)), 4, none⟩,
      ⟨some 4, Go.Op.assign (Go.Operand.tmp 74), 4, none⟩])
    .ret))))))))) :=
  ⟨foll, Tryz.f4, Tryz.func4, by kernel_rfl, by kernel_rfl, by kernel_rfl, by rw [Tryz.ntmps4]; decide⟩

/-- narrator.narratorlaw34.RulesyntaxPattern -/
theorem fn5 : FnIs Tryz.prog 5 1 [Go.ResultVar.tmp 2] (.seq (.region [⟨some 2, Go.Op.assign (Go.Operand.const (Go.Value.bool false)), 4, none⟩])
    (.seq (.seq (.region [⟨some 8, Go.Op.move (Go.Operand.tmp 0), 9, none⟩,
      ⟨some 9, Go.Op.call { callee := Go.Callee.builtin Go.Builtin.len, args := #[Go.Operand.tmp 8], argTypes := #[9] }, 3, none⟩,
      ⟨some 10, Go.Op.binOp Go.BinOp.gtr 3 (Go.Operand.tmp 9) (Go.Operand.const (Go.Value.int Go.IntKind.i64 100)) 3, 4, none⟩,
      ⟨some 11, Go.Op.move (Go.Operand.tmp 10), 4, none⟩,
      ⟨some 12, Go.Op.move (Go.Operand.tmp 0), 9, (some (11, false))⟩,
      ⟨some 13, Go.Op.call { callee := Go.Callee.value (Go.Operand.func 14), args := #[Go.Operand.tmp 12, Go.Operand.const (Go.Value.string { data := #[10] })], argTypes := #[9, 9] }, 4, (some (11, false))⟩,
      ⟨some 14, Go.Op.pick (Go.Operand.tmp 11) (Go.Operand.const (Go.Value.bool true)) (Go.Operand.tmp 13), 4, none⟩])
    (.cond (Go.Operand.tmp 14)
      (.seq (.region [⟨some 15, Go.Op.call { callee := Go.Callee.value (Go.Operand.func 9), args := #[], argTypes := #[] }, 4, none⟩,
        ⟨some 2, Go.Op.assign (Go.Operand.tmp 15), 4, none⟩])
      .ret)
      .skip))
    (.seq (.region [⟨some 17, Go.Op.move (Go.Operand.tmp 0), 9, none⟩,
      ⟨some 18, Go.Op.binOp Go.BinOp.add 9 (Go.Operand.const (Go.Value.string { data := #[120, 32, 117, 114, 103, 101, 110, 116, 32, 34] })) (Go.Operand.tmp 17) 9, 9, none⟩,
      ⟨some 19, Go.Op.binOp Go.BinOp.add 9 (Go.Operand.tmp 18) (Go.Operand.const (Go.Value.string { data := #[34, 32] })) 9, 9, none⟩,
      ⟨some 20, Go.Op.call { callee := Go.Callee.value (Go.Operand.func 10), args := #[Go.Operand.tmp 19], argTypes := #[9] }, 25, none⟩,
      ⟨some 16, Go.Op.move (Go.Operand.tmp 20), 25, none⟩,
      ⟨some 21, Go.Op.extract (Go.Operand.tmp 16) 0, 23, none⟩,
      ⟨some 22, Go.Op.extract (Go.Operand.tmp 16) 1, 3, none⟩,
      ⟨some 23, Go.Op.extract (Go.Operand.tmp 16) 2, 24, none⟩,
      ⟨some 3, Go.Op.assign (Go.Operand.tmp 21), 23, none⟩,
      ⟨some 4, Go.Op.assign (Go.Operand.tmp 22), 3, none⟩,
      ⟨some 5, Go.Op.assign (Go.Operand.tmp 23), 24, none⟩])
    (.seq (.region [⟨some 24, Go.Op.move (Go.Operand.tmp 0), 9, none⟩,
      ⟨some 25, Go.Op.build 33 #[(0, Go.Operand.const (Go.Value.string { data := #[120] })), (1, Go.Operand.tmp 24), (3, Go.Operand.const (Go.Value.int Go.IntKind.i64 60)), (4, Go.Operand.const (Go.Value.int Go.IntKind.i64 1))], 33, none⟩,
      ⟨some 6, Go.Op.alloc 33, 0, none⟩,
      ⟨none, Go.Op.store 33 (Go.Operand.tmp 6) (Go.Operand.tmp 25), 0, none⟩])
    (.seq (.seq (.region [⟨some 26, Go.Op.load 33 (Go.Operand.tmp 6), 33, none⟩,
      ⟨some 27, Go.Op.buildSlice 23 1 #[(0, Go.Operand.tmp 26)], 23, none⟩,
      ⟨some 28, Go.Op.call { callee := Go.Callee.value (Go.Operand.func 12), args := #[Go.Operand.tmp 27], argTypes := #[23] }, 24, none⟩,
      ⟨some 7, Go.Op.assign (Go.Operand.tmp 28), 24, none⟩])
    (.seq (.region [⟨some 29, Go.Op.move (Go.Operand.tmp 7), 24, none⟩,
      ⟨some 30, Go.Op.binOp Go.BinOp.neq 24 (Go.Operand.tmp 29) (Go.Operand.const (Go.Value.int Go.IntKind.i64 0)) 24, 4, none⟩])
    (.cond (Go.Operand.tmp 30)
      (.seq (.region [⟨some 31, Go.Op.move (Go.Operand.tmp 5), 24, none⟩,
        ⟨some 32, Go.Op.move (Go.Operand.tmp 7), 24, none⟩,
        ⟨some 33, Go.Op.binOp Go.BinOp.eql 24 (Go.Operand.tmp 31) (Go.Operand.tmp 32) 24, 4, none⟩,
        ⟨some 34, Go.Op.move (Go.Operand.tmp 33), 4, none⟩,
        ⟨some 35, Go.Op.move (Go.Operand.tmp 4), 3, (some (34, true))⟩,
        ⟨some 36, Go.Op.binOp Go.BinOp.eql 3 (Go.Operand.tmp 35) (Go.Operand.const (Go.Value.int Go.IntKind.i64 1)) 3, 4, (some (34, true))⟩,
        ⟨some 37, Go.Op.pick (Go.Operand.tmp 34) (Go.Operand.tmp 36) (Go.Operand.const (Go.Value.bool false)), 4, none⟩,
        ⟨some 38, Go.Op.move (Go.Operand.tmp 37), 4, none⟩,
        ⟨some 39, Go.Op.move (Go.Operand.tmp 3), 23, (some (38, true))⟩,
        ⟨some 40, Go.Op.call { callee := Go.Callee.builtin Go.Builtin.len, args := #[Go.Operand.tmp 39], argTypes := #[23] }, 3, (some (38, true))⟩,
        ⟨some 41, Go.Op.binOp Go.BinOp.eql 3 (Go.Operand.tmp 40) (Go.Operand.const (Go.Value.int Go.IntKind.i64 0)) 3, 4, (some (38, true))⟩,
        ⟨some 42, Go.Op.pick (Go.Operand.tmp 38) (Go.Operand.tmp 41) (Go.Operand.const (Go.Value.bool false)), 4, none⟩,
        ⟨some 43, Go.Op.move (Go.Operand.tmp 42), 4, none⟩,
        ⟨some 44, Go.Op.call { callee := Go.Callee.value (Go.Operand.func 9), args := #[], argTypes := #[] }, 4, (some (43, true))⟩,
        ⟨some 45, Go.Op.pick (Go.Operand.tmp 43) (Go.Operand.tmp 44) (Go.Operand.const (Go.Value.bool false)), 4, none⟩,
        ⟨some 2, Go.Op.assign (Go.Operand.tmp 45), 4, none⟩])
      .ret)
      .skip)))
    (.seq (.region [⟨some 46, Go.Op.move (Go.Operand.tmp 5), 24, none⟩,
      ⟨some 47, Go.Op.binOp Go.BinOp.eql 24 (Go.Operand.tmp 46) (Go.Operand.const (Go.Value.int Go.IntKind.i64 0)) 24, 4, none⟩,
      ⟨some 48, Go.Op.move (Go.Operand.tmp 47), 4, none⟩,
      ⟨some 49, Go.Op.move (Go.Operand.tmp 4), 3, (some (48, true))⟩,
      ⟨some 50, Go.Op.binOp Go.BinOp.eql 3 (Go.Operand.tmp 49) (Go.Operand.const (Go.Value.int Go.IntKind.i64 0)) 3, 4, (some (48, true))⟩,
      ⟨some 51, Go.Op.pick (Go.Operand.tmp 48) (Go.Operand.tmp 50) (Go.Operand.const (Go.Value.bool false)), 4, none⟩,
      ⟨some 52, Go.Op.move (Go.Operand.tmp 51), 4, none⟩,
      ⟨some 53, Go.Op.move (Go.Operand.tmp 3), 23, (some (52, true))⟩,
      ⟨some 54, Go.Op.load 33 (Go.Operand.tmp 6), 33, (some (52, true))⟩,
      ⟨some 55, Go.Op.buildSlice 23 1 #[(0, Go.Operand.tmp 54)], 23, (some (52, true))⟩,
      ⟨some 56, Go.Op.call { callee := Go.Callee.value (Go.Operand.func 13), args := #[Go.Operand.tmp 53, Go.Operand.tmp 55], argTypes := #[23, 23] }, 4, (some (52, true))⟩,
      ⟨some 57, Go.Op.pick (Go.Operand.tmp 52) (Go.Operand.tmp 56) (Go.Operand.const (Go.Value.bool false)), 4, none⟩,
      ⟨some 58, Go.Op.move (Go.Operand.tmp 57), 4, none⟩,
      ⟨some 59, Go.Op.call { callee := Go.Callee.value (Go.Operand.func 9), args := #[], argTypes := #[] }, 4, (some (58, true))⟩,
      ⟨some 60, Go.Op.pick (Go.Operand.tmp 58) (Go.Operand.tmp 59) (Go.Operand.const (Go.Value.bool false)), 4, none⟩,
      ⟨some 2, Go.Op.assign (Go.Operand.tmp 60), 4, none⟩])
    .ret)))))) :=
  ⟨foll, Tryz.f5, Tryz.func5, by kernel_rfl, by kernel_rfl, by kernel_rfl, by rw [Tryz.ntmps5]; decide⟩

/-- narrator.narratorref34.Same -/
theorem fn13 : FnIs Tryz.prog 13 2 [Go.ResultVar.tmp 4] (.seq (.region [⟨some 4, Go.Op.assign (Go.Operand.const (Go.Value.bool false)), 4, none⟩])
    (.seq (.seq (.region [⟨some 6, Go.Op.move (Go.Operand.tmp 0), 23, none⟩,
      ⟨some 7, Go.Op.call { callee := Go.Callee.builtin Go.Builtin.len, args := #[Go.Operand.tmp 6], argTypes := #[23] }, 3, none⟩,
      ⟨some 8, Go.Op.move (Go.Operand.tmp 1), 23, none⟩,
      ⟨some 9, Go.Op.call { callee := Go.Callee.builtin Go.Builtin.len, args := #[Go.Operand.tmp 8], argTypes := #[23] }, 3, none⟩,
      ⟨some 10, Go.Op.binOp Go.BinOp.neq 3 (Go.Operand.tmp 7) (Go.Operand.tmp 9) 3, 4, none⟩])
    (.cond (Go.Operand.tmp 10)
      (.seq (.region [⟨some 4, Go.Op.assign (Go.Operand.const (Go.Value.bool false)), 4, none⟩])
      .ret)
      .skip))
    (.seq (.seq (.region [⟨some 5, Go.Op.assign (Go.Operand.const (Go.Value.int Go.IntKind.i64 0)), 3, none⟩])
    (.block 0
      (.loop
        (.seq (.seq (.region [⟨some 11, Go.Op.move (Go.Operand.tmp 5), 3, none⟩,
          ⟨some 12, Go.Op.move (Go.Operand.tmp 0), 23, none⟩,
          ⟨some 13, Go.Op.call { callee := Go.Callee.builtin Go.Builtin.len, args := #[Go.Operand.tmp 12], argTypes := #[23] }, 3, none⟩,
          ⟨some 14, Go.Op.binOp Go.BinOp.lss 3 (Go.Operand.tmp 11) (Go.Operand.tmp 13) 3, 4, none⟩])
        (.cond (Go.Operand.tmp 14)
          .skip
          (.exit 0)))
        (.seq (.block 1
          (.seq (.draw [⟨⟨some 17, Go.Op.move (Go.Operand.tmp 0), 23, none⟩, false, false, false⟩,
            ⟨⟨some 18, Go.Op.move (Go.Operand.tmp 5), 3, none⟩, false, false, false⟩,
            ⟨⟨some 19, Go.Op.indexAddr 23 (Go.Operand.tmp 17) (Go.Operand.tmp 18), 0, none⟩, false, false, false⟩,
            ⟨⟨some 20, Go.Op.load 33 (Go.Operand.tmp 19), 33, none⟩, false, false, false⟩,
            ⟨⟨some 21, Go.Op.move (Go.Operand.tmp 1), 23, none⟩, false, false, false⟩,
            ⟨⟨some 22, Go.Op.move (Go.Operand.tmp 5), 3, none⟩, false, false, false⟩,
            ⟨⟨some 23, Go.Op.indexAddr 23 (Go.Operand.tmp 21) (Go.Operand.tmp 22), 0, none⟩, false, false, false⟩,
            ⟨⟨some 24, Go.Op.load 33 (Go.Operand.tmp 23), 33, none⟩, false, false, false⟩,
            ⟨⟨some 25, Go.Op.binOp Go.BinOp.neq 33 (Go.Operand.tmp 20) (Go.Operand.tmp 24) 33, 4, none⟩, false, false, false⟩])
          (.cond (Go.Operand.tmp 25)
            (.seq (.region [⟨some 4, Go.Op.assign (Go.Operand.const (Go.Value.bool false)), 4, none⟩])
            .ret)
            .skip)))
        (.region [⟨some 15, Go.Op.move (Go.Operand.tmp 5), 3, none⟩,
          ⟨some 16, Go.Op.binOp Go.BinOp.add 3 (Go.Operand.tmp 15) (Go.Operand.const (Go.Value.int Go.IntKind.i64 1)) 3, 3, none⟩,
          ⟨some 5, Go.Op.assign (Go.Operand.tmp 16), 3, none⟩]))))))
    (.seq (.region [⟨some 4, Go.Op.assign (Go.Operand.const (Go.Value.bool true)), 4, none⟩])
    .ret)))) :=
  ⟨foll, Tryz.f13, Tryz.func13, by kernel_rfl, by kernel_rfl, by kernel_rfl, by rw [Tryz.ntmps13]; decide⟩

end Go.Proofs.YtjgbdlaecpkmhaaGreatDoor
/- Calls of the library by its contracts. -/


set_option linter.unusedVariables false
set_option linter.unusedSimpArgs false
namespace Nv
open Go Go.RowKit

def sc : AV → Bool
  | .d (.int _ _) => true
  | .d (.bool _) => true
  | .d (.str _) => true
  | _ => false
def scv : AV → Value
  | .d (.int k n) => .int k n
  | .d (.bool b) => .bool b
  | .d (.str s) => .string ⟨s.toArray⟩
  | _ => undef

section
variable {P : Program} {ρ ρ' : RHO} {σ σ' : ST} {I I' : Nat → Prop} {w w' : World}

theorem sc_inv {a : AV} {v : Value} (h : sc a = true) (hv : V ρ σ I w a v) : v = scv a := by
  cases hv <;> try (simp [sc] at h; done)
  rename_i x hx
  cases x <;> simp [sc] at h
  · exact hx.int_inv
  · exact hx.bool_inv
  · exact hx.str_inv
theorem sc_V (ρ : RHO) (σ : ST) (I : Nat → Prop) (w : World) {a : AV} (h : sc a = true) : V ρ σ I w a (scv a) := by
  cases a <;> simp [sc] at h
  rename_i x
  cases x <;> simp [sc] at h
  · exact .d (.int _ _)
  · exact .d (.bool _)
  · exact .d (.str _)

theorem scs_inv {args : List AV} {vs : Array Value} (h : args.all sc = true) (hv : VL ρ σ I w args vs) : vs = (args.map scv).toArray := by
  apply Array.ext
  · simp [hv.1]
  · intro i h1 h2
    have hl : i < args.length := by rw [hv.1]; exact h1
    have := sc_inv (List.all_eq_true.1 h _ (List.getElem_mem hl)) (hv.2 i _ (List.getElem?_eq_getElem hl))
    simp only [Array.getD_eq_getD_getElem?, h1, Array.getElem?_eq_getElem, Option.getD_some] at this
    simp [this]

theorem Step.heap (h : w'.heap = w.heap) (ha : Around w w') : Step ρ I w σ ρ I w' σ :=
  ⟨fun _ _ _ => by rw [h], fun _ h => h, fun _ h => .inl h, fun _ h => .inl h, by rw [h]; exact Nat.le_refl _, fun b blk h => ⟨blk, h, Compat.refl _ _⟩, ha⟩
theorem RS.heap (hr : RS P ρ I w σ) (h : w'.heap = w.heap) (ha : Around w w') : RS P ρ I w' σ :=
  ⟨fun i blk hi => RB.heap h (hr.blk i blk hi) hr (Step.heap h ha), hr.inj, hr.sep, fun B hB => by rw [h]; exact hr.bound B hB, (Step.heap h ha).tabs hr⟩

/-- A contract over worlds, at arguments and a result that hold no address: the heap is avl it was. -/
theorem PCall.of_calls {f : FuncId} {args : List AV} {r : AV} (ha : args.all sc = true) (hr : sc r = true)
    (h : ∀ w : World, Calls P f (args.map scv).toArray w fun e w' => e = .returned (scv r) ∧ w'.heap = w.heap ∧ Around w w') : PCall P f args r := by
  intro σ ρ I w vs hrs hv
  rw [scs_inv ha hv]
  refine (h w).mono ?_
  rintro e w' ⟨rfl, hh, ha⟩
  exact ⟨ρ, I, σ, .ret r, Step.heap hh ha, hrs.heap hh ha, sc_V _ _ _ _ hr, rfl, rfl⟩

/-- A contract over worlds that hold the program's tables; the heap may grow. -/
theorem PCall.of_callsT {f : FuncId} {args : List AV} {r : AV} (ha : args.all sc = true) (hr : sc r = true)
    (h : ∀ (w : World) (I : Nat → Prop), Tabs P I w → Calls P f (args.map scv).toArray w fun e w' => e = .returned (scv r) ∧ Below w.heap.size w w') : PCall P f args r := by
  intro σ ρ I w vs hrs hv
  rw [scs_inv ha hv]
  refine (h w I hrs.tabs).mono ?_
  rintro e w' ⟨rfl, hb⟩
  have hx : Ext w w' := ⟨hb.size, ⟨hb.os, hb.tape, hb.output⟩⟩
  exact ⟨ρ, I, σ, .ret r, Step.more hx hb.block, hrs.more hx hb.block, sc_V _ _ _ _ hr, rfl, rfl⟩

theorem PCall.of_calls' {f : FuncId} {args : List AV} {r : AV} (ha : args.all sc = true) (hr : sc r = true)
    (h : ∀ w : World, Calls P f (args.map scv).toArray w fun e w' => e = .returned (scv r) ∧ w' = w) : PCall P f args r :=
  .of_calls ha hr fun w => (h w).mono fun e w' ⟨h1, h2⟩ => ⟨h1, by rw [h2], h2 ▸ Around.refl w⟩
end
end Nv
/- Maps keyed by strings: rules; lists of strings that a function of the library hands back. -/

set_option linter.unusedVariables false
set_option linter.unusedSimpArgs false
namespace Nv
open Go Go.RowKit

section
variable {P : Program} {ρ ρ' : RHO} {σ σ' : ST} {I I' : Nat → Prop} {w w' : World}

/-- A set of strings as a map to true. -/
def strSet (l : List (List UInt8)) : List (DV × DV) := l.map fun s => (.str s, .bool true)
theorem strSet_snoc (l : List (List UInt8)) (s : List UInt8) : strSet (l ++ [s]) = strSet l ++ [(.str s, .bool true)] := by simp [strSet]
theorem keyAt_out {s : List UInt8} : ∀ (l : List (List UInt8)) (i : Nat), s ∉ l → keyAt s (strSet l) i = some none
  | [], _, _ => rfl
  | t :: l, i, h => by
    have h1 : s ≠ t := fun e => h (by simp [e])
    show keyAt s ((.str t, .bool true) :: strSet l) i = _
    rw [keyAt, decide_eq_false h1, cond_false, keyAt_out l (i + 1) (fun e => h (by simp [e]))]
theorem keyAt_in {s : List UInt8} : ∀ (l : List (List UInt8)) (i : Nat), s ∈ l → ∃ j, keyAt s (strSet l) i = some (some (i + j)) ∧ (strSet l).getD j default = (.str s, .bool true)
  | [], _, h => by cases h
  | t :: l, i, h => by
    by_cases h1 : s = t
    · refine ⟨0, ?_, by rw [h1]; rfl⟩
      show keyAt s ((.str t, .bool true) :: strSet l) i = _
      rw [keyAt, decide_eq_true h1, cond_true, Nat.add_zero]
    · obtain ⟨j, k1, k2⟩ := keyAt_in l (i + 1) ((List.mem_cons.1 h).resolve_left h1)
      refine ⟨j + 1, ?_, k2⟩
      show keyAt s ((.str t, .bool true) :: strSet l) i = _
      rw [keyAt, decide_eq_false h1, cond_false, k1, show i + 1 + j = i + (j + 1) by omega]

@[go_sem] theorem rMakeMap_def (σ : ST) : rMakeMap σ = .ok (.map σ.length) (σ ++ [.map []]) := nrfl rfl
@[go_sem] theorem lookV_def (ok : Bool) (v : AV) (b : Bool) (σ : ST) : lookV ok v b σ = .ok (bif ok then .tuple [v, .d (.bool b)] else v) σ := nrfl rfl
@[go_sem] theorem rLookup_def (P : Program) (t : TypeId) (x k : AV) (ok : Bool) (σ : ST) : rLookup P t x k ok σ =
  (match P.underlying t, x, k with
  | some (.map kt et), .map b, .d (.str s) => match P.underlying kt, stGet σ b with
    | some .string, .map es => lookR P et s es ok σ
    | _, _ => .bad
  | some (.map kt et), .d (.map es), .d (.str s) => match P.underlying kt with
    | some .string => lookR P et s es ok σ
    | _ => .bad
  | _, _, _ => .bad) := nrfl rfl
@[go_sem] theorem lookR_def (P : Program) (et : TypeId) (s : List UInt8) (es : List (DV × DV)) (ok : Bool) (σ : ST) : lookR P et s es ok σ =
  (match keyAt s es 0 with
  | some (some j) => lookV ok (.d (es.getD j default).2) true σ
  | some none => .need (zeroA P et ≠ .any) (lookV ok (zeroA P et) false σ)
  | none => .bad) := nrfl rfl
@[go_sem] theorem rMapUpdate_def (P : Program) (t : TypeId) (m k x : AV) (σ : ST) : rMapUpdate P t m k x σ =
  (match P.underlying t, m, k, x with
  | some (.map kt _), .map b, .d (.str s), .d y => match P.underlying kt, stGet σ b with
    | some .string, .map es => match keyAt s es 0 with
      | some (some j) => .ok .any (stSet σ b (.map (es.set j (.str s, y))))
      | some none => .ok .any (stSet σ b (.map (es ++ [(.str s, y)])))
      | none => .bad
    | _, _ => .bad
  | _, _, _, _ => .bad) := nrfl rfl

/-- A contract over worlds at arguments that hold no address; what it hands back reads as r everywhere. -/
theorem PCall.of_callsV {f : FuncId} {args : List AV} {r : AV} {v : Value} (ha : args.all sc = true) (hrv : ∀ (ρ : RHO) (σ : ST) (I : Nat → Prop) (w : World), V ρ σ I w r v)
    (h : ∀ (w : World) (I : Nat → Prop), Tabs P I w → Calls P f (args.map scv).toArray w fun e w' => e = .returned v ∧ Below w.heap.size w w') : PCall P f args r := by
  intro σ ρ I w vs hrs hv
  rw [scs_inv ha hv]
  refine (h w I hrs.tabs).mono ?_
  rintro e w' ⟨rfl, hb⟩
  have hx : Ext w w' := ⟨hb.size, ⟨hb.os, hb.tape, hb.output⟩⟩
  exact ⟨ρ, I, σ, .ret r, Step.more hx hb.block, hrs.more hx hb.block, hrv _ _ _ _, rfl, rfl⟩
theorem tuple_V {rs : List AV} {vs : Array Value} (h1 : rs.length = vs.size) (h : ∀ (j : Nat) a, rs[j]? = some a → ∀ (ρ : RHO) (σ : ST) (I : Nat → Prop) (w : World), V ρ σ I w a (vs.getD j undef)) (ρ : RHO) (σ : ST) (I : Nat → Prop) (w : World) : V ρ σ I w (.tuple rs) (.tuple vs) :=
  .tuple h1 fun j c hj => h j c hj ρ σ I w
theorem below_drew (w : World) (n : Nat) : Below w.heap.size w (w.drewN n) := ⟨rfl, rfl, rfl, Nat.le_refl _, fun _ _ => rfl⟩

def strsD (xs : List (List UInt8)) : List DV := xs.map DV.str
theorem strsD_length (xs : List (List UInt8)) : (strsD xs).length = xs.length := by simp [strsD]
theorem flat_strs : ∀ xs : List (List UInt8), flat (strsD xs) = strsD xs
  | [] => rfl
  | x :: xs => by show [_] ++ flat (strsD xs) = _; rw [flat_strs xs]; rfl

/-- A function that hands back a new list of strings, and leaves all that was there. -/
theorem PCall.of_strings {f : FuncId} {args : List AV} {xs : List (List UInt8)}
    (h : ∀ (ρ : RHO) (σ : ST) (w : World) (I : Nat → Prop) (vs : Array Value), RS P ρ I w σ → VL ρ σ I w args vs → Calls P f vs w fun e w' => ∃ A cap, e = .returned (.slice (some ⟨A, 0, none⟩) xs.length cap) ∧ xs.length ≤ cap ∧
      w.heap.size ≤ A ∧ A < w'.heap.size ∧ (∀ (j : Nat) x, xs[j]? = some x → w'.cell? ⟨A, j, none⟩ = some (.string ⟨x.toArray⟩)) ∧ Below w.heap.size w w') :
    PCall P f args (.d (.list 1 (strsD xs))) := by
  intro σ ρ I w vs hr hv
  refine (h ρ σ w I vs hr hv).mono ?_
  rintro e w' ⟨A, cap, rfl, hc, hA, hA', hcell, hb⟩
  let I' : Nat → Prop := fun B => I B ∨ B = A
  have hstep : Step ρ I w σ ρ I' w' σ := by
    refine ⟨fun b hb' _ => hb.block b hb', fun B h => .inl h, fun B h => ?_, fun B h => .inl h, hb.size, fun b blk h => ⟨blk, h, Compat.refl _ _⟩, ⟨hb.os, hb.tape, hb.output⟩⟩
    rcases h with h | rfl
    · exact .inl h
    · exact .inr (.inr hA)
  have hrs : RS P ρ I' w' σ := by
    refine ⟨fun i blk hi => ?_, hr.inj, fun B hl hI => ?_, fun B hI => ?_, hstep.tabs hr⟩
    · by_cases hl : blk.live
      · exact RB.step hr hstep (fun B hB => hb.block B (lives_heap hr ⟨i, blk, hi, hl, hB⟩)) (hr.blk i blk hi)
      · cases blk <;> first | exact .dead | exact absurd trivial hl
    · rcases hI with h | rfl
      · exact hr.sep B hl h
      · have := lives_heap hr hl; omega
    · rcases hI with h | rfl
      · exact Nat.lt_of_lt_of_le (hr.bound B h) hb.size
      · exact hA'
  refine ⟨ρ, I', σ, .ret _, hstep, hrs, .d ?_, rfl, rfl⟩
  have hg : ∀ (j : Nat) (c : DV), (flat (strsD xs))[j]? = some c → ∃ x, xs[j]? = some x ∧ c = DV.str x := by
    intro j c hj
    rw [flat_strs, strsD, List.getElem?_map, Option.map_eq_some_iff] at hj
    obtain ⟨x, hx, rfl⟩ := hj
    exact ⟨x, hx, rfl⟩
  refine .list (fun j => .string ⟨(xs.getD j []).toArray⟩) (by rw [strsD_length]) hc (fun x hx => ?_) (fun j c hj => ?_) (fun j c hj => ?_)
  · obtain ⟨y, _, rfl⟩ := List.mem_map.1 hx
    exact ⟨rfl, fun c hc => by simp only [DV.cells, List.mem_cons, List.not_mem_nil, or_false] at hc; subst hc; rfl⟩
  · obtain ⟨x, hx, rfl⟩ := hg j c hj
    refine ⟨.inr rfl, ?_⟩
    rw [Nat.zero_add, hcell j x hx, List.getD_eq_getElem?_getD, hx]; rfl
  · obtain ⟨x, hx, rfl⟩ := hg j c hj
    rw [List.getD_eq_getElem?_getD, hx]
    exact .str x
end
end Nv
