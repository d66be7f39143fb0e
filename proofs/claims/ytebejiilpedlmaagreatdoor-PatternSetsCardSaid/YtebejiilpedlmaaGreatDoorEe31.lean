/- The prepared code of further functions. Written by a program of mine (gen.py) out of what the loaded dump prints. -/
import Derived.Test.YtebejiilpedlmaaGreatDoorBase31
set_option linter.unusedVariables false
set_option maxRecDepth 100000
namespace Go.Proofs.YtebejiilpedlmaaGreatDoor
open Go Nv

/-- unicode.utf8.AppendRune -/
theorem fn38 : FnIs Tryz.prog 38 2 [Go.ResultVar.tmp 4] (.seq (.region [⟨some 4, Go.Op.assign (Go.Operand.const (Go.Value.slice none 0 0)), 62, none⟩])
    (.seq (.seq (.region [⟨some 5, Go.Op.move (Go.Operand.tmp 1), 21, none⟩,
      ⟨some 6, Go.Op.convert 21 86 (Go.Operand.tmp 5), 86, none⟩,
      ⟨some 7, Go.Op.binOp Go.BinOp.leq 86 (Go.Operand.tmp 6) (Go.Operand.const (Go.Value.int Go.IntKind.u32 127)) 86, 4, none⟩])
    (.cond (Go.Operand.tmp 7)
      (.seq (.region [⟨some 8, Go.Op.move (Go.Operand.tmp 0), 62, none⟩,
        ⟨some 9, Go.Op.move (Go.Operand.tmp 1), 21, none⟩,
        ⟨some 10, Go.Op.convert 21 5 (Go.Operand.tmp 9), 5, none⟩,
        ⟨some 11, Go.Op.buildSlice 62 1 #[(0, Go.Operand.tmp 10)], 62, none⟩,
        ⟨some 12, Go.Op.call { callee := Go.Callee.builtin Go.Builtin.append, args := #[Go.Operand.tmp 8, Go.Operand.tmp 11], argTypes := #[62, 62] }, 62, none⟩,
        ⟨some 4, Go.Op.assign (Go.Operand.tmp 12), 62, none⟩])
      .ret)
      .skip))
    (.seq (.region [⟨some 13, Go.Op.move (Go.Operand.tmp 0), 62, none⟩,
      ⟨some 14, Go.Op.move (Go.Operand.tmp 1), 21, none⟩,
      ⟨some 15, Go.Op.call { callee := Go.Callee.value (Go.Operand.func 57), args := #[Go.Operand.tmp 13, Go.Operand.tmp 14], argTypes := #[62, 21] }, 62, none⟩,
      ⟨some 4, Go.Op.assign (Go.Operand.tmp 15), 62, none⟩])
    .ret))) :=
  ⟨foll, Tryz.f38, Tryz.func38, by kernel_rfl, by kernel_rfl, by kernel_rfl, by rw [Tryz.ntmps38]; decide⟩

/-- unicode.utf8.appendRuneNonASCII -/
theorem fn57 : FnIs Tryz.prog 57 2 [Go.ResultVar.tmp 4] (.seq (.region [⟨some 4, Go.Op.assign (Go.Operand.const (Go.Value.slice none 0 0)), 62, none⟩])
    (.seq (.region [⟨some 6, Go.Op.move (Go.Operand.tmp 1), 21, none⟩,
      ⟨some 7, Go.Op.convert 21 86 (Go.Operand.tmp 6), 86, none⟩,
      ⟨some 5, Go.Op.assign (Go.Operand.tmp 7), 86, none⟩])
    (.block 0
      (.seq (.region [⟨some 12, Go.Op.move (Go.Operand.tmp 5), 86, none⟩,
        ⟨some 13, Go.Op.binOp Go.BinOp.leq 86 (Go.Operand.tmp 12) (Go.Operand.const (Go.Value.int Go.IntKind.u32 2047)) 86, 4, none⟩,
        ⟨some 11, Go.Op.assign (Go.Operand.tmp 13), 4, none⟩])
      (.cond (Go.Operand.tmp 11)
        (.seq (.region [⟨some 14, Go.Op.move (Go.Operand.tmp 0), 62, none⟩,
          ⟨some 15, Go.Op.move (Go.Operand.tmp 1), 21, none⟩,
          ⟨some 16, Go.Op.binOp Go.BinOp.shr 21 (Go.Operand.tmp 15) (Go.Operand.const (Go.Value.int Go.IntKind.u64 6)) 73, 21, none⟩,
          ⟨some 17, Go.Op.convert 21 5 (Go.Operand.tmp 16), 5, none⟩,
          ⟨some 18, Go.Op.binOp Go.BinOp.or 5 (Go.Operand.const (Go.Value.int Go.IntKind.u8 192)) (Go.Operand.tmp 17) 5, 5, none⟩,
          ⟨some 19, Go.Op.move (Go.Operand.tmp 1), 21, none⟩,
          ⟨some 20, Go.Op.convert 21 5 (Go.Operand.tmp 19), 5, none⟩,
          ⟨some 21, Go.Op.binOp Go.BinOp.and 5 (Go.Operand.tmp 20) (Go.Operand.const (Go.Value.int Go.IntKind.u8 63)) 5, 5, none⟩,
          ⟨some 22, Go.Op.binOp Go.BinOp.or 5 (Go.Operand.const (Go.Value.int Go.IntKind.u8 128)) (Go.Operand.tmp 21) 5, 5, none⟩,
          ⟨some 23, Go.Op.buildSlice 62 2 #[(0, Go.Operand.tmp 18), (1, Go.Operand.tmp 22)], 62, none⟩,
          ⟨some 24, Go.Op.call { callee := Go.Callee.builtin Go.Builtin.append, args := #[Go.Operand.tmp 14, Go.Operand.tmp 23], argTypes := #[62, 62] }, 62, none⟩,
          ⟨some 4, Go.Op.assign (Go.Operand.tmp 24), 62, none⟩])
        .ret)
        (.seq (.seq (.region [⟨some 26, Go.Op.move (Go.Operand.tmp 5), 86, none⟩,
          ⟨some 27, Go.Op.binOp Go.BinOp.lss 86 (Go.Operand.tmp 26) (Go.Operand.const (Go.Value.int Go.IntKind.u32 55296)) 86, 4, none⟩,
          ⟨some 25, Go.Op.assign (Go.Operand.tmp 27), 4, none⟩])
        (.cond (Go.Operand.tmp 25)
          .skip
          (.region [⟨some 28, Go.Op.move (Go.Operand.tmp 5), 86, none⟩,
            ⟨some 29, Go.Op.binOp Go.BinOp.lss 86 (Go.Operand.const (Go.Value.int Go.IntKind.u32 57343)) (Go.Operand.tmp 28) 86, 4, none⟩,
            ⟨some 30, Go.Op.move (Go.Operand.tmp 29), 4, none⟩,
            ⟨some 31, Go.Op.move (Go.Operand.tmp 5), 86, (some (30, true))⟩,
            ⟨some 32, Go.Op.binOp Go.BinOp.leq 86 (Go.Operand.tmp 31) (Go.Operand.const (Go.Value.int Go.IntKind.u32 65535)) 86, 4, (some (30, true))⟩,
            ⟨some 33, Go.Op.pick (Go.Operand.tmp 30) (Go.Operand.tmp 32) (Go.Operand.const (Go.Value.bool false)), 4, none⟩,
            ⟨some 25, Go.Op.assign (Go.Operand.tmp 33), 4, none⟩])))
        (.cond (Go.Operand.tmp 25)
          (.seq (.region [⟨some 34, Go.Op.move (Go.Operand.tmp 0), 62, none⟩,
            ⟨some 35, Go.Op.move (Go.Operand.tmp 1), 21, none⟩,
            ⟨some 36, Go.Op.binOp Go.BinOp.shr 21 (Go.Operand.tmp 35) (Go.Operand.const (Go.Value.int Go.IntKind.u64 12)) 73, 21, none⟩,
            ⟨some 37, Go.Op.convert 21 5 (Go.Operand.tmp 36), 5, none⟩,
            ⟨some 38, Go.Op.binOp Go.BinOp.or 5 (Go.Operand.const (Go.Value.int Go.IntKind.u8 224)) (Go.Operand.tmp 37) 5, 5, none⟩,
            ⟨some 39, Go.Op.move (Go.Operand.tmp 1), 21, none⟩,
            ⟨some 40, Go.Op.binOp Go.BinOp.shr 21 (Go.Operand.tmp 39) (Go.Operand.const (Go.Value.int Go.IntKind.u64 6)) 73, 21, none⟩,
            ⟨some 41, Go.Op.convert 21 5 (Go.Operand.tmp 40), 5, none⟩,
            ⟨some 42, Go.Op.binOp Go.BinOp.and 5 (Go.Operand.tmp 41) (Go.Operand.const (Go.Value.int Go.IntKind.u8 63)) 5, 5, none⟩,
            ⟨some 43, Go.Op.binOp Go.BinOp.or 5 (Go.Operand.const (Go.Value.int Go.IntKind.u8 128)) (Go.Operand.tmp 42) 5, 5, none⟩,
            ⟨some 44, Go.Op.move (Go.Operand.tmp 1), 21, none⟩,
            ⟨some 45, Go.Op.convert 21 5 (Go.Operand.tmp 44), 5, none⟩,
            ⟨some 46, Go.Op.binOp Go.BinOp.and 5 (Go.Operand.tmp 45) (Go.Operand.const (Go.Value.int Go.IntKind.u8 63)) 5, 5, none⟩,
            ⟨some 47, Go.Op.binOp Go.BinOp.or 5 (Go.Operand.const (Go.Value.int Go.IntKind.u8 128)) (Go.Operand.tmp 46) 5, 5, none⟩,
            ⟨some 48, Go.Op.buildSlice 62 3 #[(0, Go.Operand.tmp 38), (1, Go.Operand.tmp 43), (2, Go.Operand.tmp 47)], 62, none⟩,
            ⟨some 49, Go.Op.call { callee := Go.Callee.builtin Go.Builtin.append, args := #[Go.Operand.tmp 34, Go.Operand.tmp 48], argTypes := #[62, 62] }, 62, none⟩,
            ⟨some 4, Go.Op.assign (Go.Operand.tmp 49), 62, none⟩])
          .ret)
          (.seq (.region [⟨some 51, Go.Op.move (Go.Operand.tmp 5), 86, none⟩,
            ⟨some 52, Go.Op.binOp Go.BinOp.gtr 86 (Go.Operand.tmp 51) (Go.Operand.const (Go.Value.int Go.IntKind.u32 65535)) 86, 4, none⟩,
            ⟨some 53, Go.Op.move (Go.Operand.tmp 52), 4, none⟩,
            ⟨some 54, Go.Op.move (Go.Operand.tmp 5), 86, (some (53, true))⟩,
            ⟨some 55, Go.Op.binOp Go.BinOp.leq 86 (Go.Operand.tmp 54) (Go.Operand.const (Go.Value.int Go.IntKind.u32 1114111)) 86, 4, (some (53, true))⟩,
            ⟨some 56, Go.Op.pick (Go.Operand.tmp 53) (Go.Operand.tmp 55) (Go.Operand.const (Go.Value.bool false)), 4, none⟩,
            ⟨some 50, Go.Op.assign (Go.Operand.tmp 56), 4, none⟩])
          (.cond (Go.Operand.tmp 50)
            (.seq (.region [⟨some 57, Go.Op.move (Go.Operand.tmp 0), 62, none⟩,
              ⟨some 58, Go.Op.move (Go.Operand.tmp 1), 21, none⟩,
              ⟨some 59, Go.Op.binOp Go.BinOp.shr 21 (Go.Operand.tmp 58) (Go.Operand.const (Go.Value.int Go.IntKind.u64 18)) 73, 21, none⟩,
              ⟨some 60, Go.Op.convert 21 5 (Go.Operand.tmp 59), 5, none⟩,
              ⟨some 61, Go.Op.binOp Go.BinOp.or 5 (Go.Operand.const (Go.Value.int Go.IntKind.u8 240)) (Go.Operand.tmp 60) 5, 5, none⟩,
              ⟨some 62, Go.Op.move (Go.Operand.tmp 1), 21, none⟩,
              ⟨some 63, Go.Op.binOp Go.BinOp.shr 21 (Go.Operand.tmp 62) (Go.Operand.const (Go.Value.int Go.IntKind.u64 12)) 73, 21, none⟩,
              ⟨some 64, Go.Op.convert 21 5 (Go.Operand.tmp 63), 5, none⟩,
              ⟨some 65, Go.Op.binOp Go.BinOp.and 5 (Go.Operand.tmp 64) (Go.Operand.const (Go.Value.int Go.IntKind.u8 63)) 5, 5, none⟩,
              ⟨some 66, Go.Op.binOp Go.BinOp.or 5 (Go.Operand.const (Go.Value.int Go.IntKind.u8 128)) (Go.Operand.tmp 65) 5, 5, none⟩,
              ⟨some 67, Go.Op.move (Go.Operand.tmp 1), 21, none⟩,
              ⟨some 68, Go.Op.binOp Go.BinOp.shr 21 (Go.Operand.tmp 67) (Go.Operand.const (Go.Value.int Go.IntKind.u64 6)) 73, 21, none⟩,
              ⟨some 69, Go.Op.convert 21 5 (Go.Operand.tmp 68), 5, none⟩,
              ⟨some 70, Go.Op.binOp Go.BinOp.and 5 (Go.Operand.tmp 69) (Go.Operand.const (Go.Value.int Go.IntKind.u8 63)) 5, 5, none⟩,
              ⟨some 71, Go.Op.binOp Go.BinOp.or 5 (Go.Operand.const (Go.Value.int Go.IntKind.u8 128)) (Go.Operand.tmp 70) 5, 5, none⟩,
              ⟨some 72, Go.Op.move (Go.Operand.tmp 1), 21, none⟩,
              ⟨some 73, Go.Op.convert 21 5 (Go.Operand.tmp 72), 5, none⟩,
              ⟨some 74, Go.Op.binOp Go.BinOp.and 5 (Go.Operand.tmp 73) (Go.Operand.const (Go.Value.int Go.IntKind.u8 63)) 5, 5, none⟩,
              ⟨some 75, Go.Op.binOp Go.BinOp.or 5 (Go.Operand.const (Go.Value.int Go.IntKind.u8 128)) (Go.Operand.tmp 74) 5, 5, none⟩,
              ⟨some 76, Go.Op.buildSlice 62 4 #[(0, Go.Operand.tmp 61), (1, Go.Operand.tmp 66), (2, Go.Operand.tmp 71), (3, Go.Operand.tmp 75)], 62, none⟩,
              ⟨some 77, Go.Op.call { callee := Go.Callee.builtin Go.Builtin.append, args := #[Go.Operand.tmp 57, Go.Operand.tmp 76], argTypes := #[62, 62] }, 62, none⟩,
              ⟨some 4, Go.Op.assign (Go.Operand.tmp 77), 62, none⟩])
            .ret)
            (.seq (.region [⟨some 8, Go.Op.move (Go.Operand.tmp 0), 62, none⟩,
              ⟨some 9, Go.Op.buildSlice 62 3 #[(0, Go.Operand.const (Go.Value.int Go.IntKind.u8 239)), (1, Go.Operand.const (Go.Value.int Go.IntKind.u8 191)), (2, Go.Operand.const (Go.Value.int Go.IntKind.u8 189))], 62, none⟩,
              ⟨some 10, Go.Op.call { callee := Go.Callee.builtin Go.Builtin.append, args := #[Go.Operand.tmp 8, Go.Operand.tmp 9], argTypes := #[62, 62] }, 62, none⟩,
              ⟨some 4, Go.Op.assign (Go.Operand.tmp 10), 62, none⟩])
            .ret)))))))))) :=
  ⟨foll, Tryz.f57, Tryz.func57, by kernel_rfl, by kernel_rfl, by kernel_rfl, by rw [Tryz.ntmps57]; decide⟩

end Go.Proofs.YtebejiilpedlmaaGreatDoor
