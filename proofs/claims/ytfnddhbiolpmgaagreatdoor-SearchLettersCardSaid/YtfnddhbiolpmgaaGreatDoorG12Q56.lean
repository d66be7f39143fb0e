/- Part of a proof about the functions of this seat. -/
import Derived.Test.YtfnddhbiolpmgaaGreatDoorG10Base56
import Derived.Below
/- The prepared code of further functions. Written by a program of mine (gen.py) out of what the loaded dump prints. -/

set_option linter.unusedVariables false
set_option maxRecDepth 100000
namespace Go.Proofs.YtfnddhbiolpmgaaGreatDoor
open Go Nv
theorem fn39:FnIs Tryz.prog 39 2 [Go.ResultVar.tmp 4] (.seq (.region [⟨some 4,Go.Op.assign (Go.Operand.const (Go.Value.bool false)),4,none⟩])
  (.seq (.region [⟨some 5,Go.Op.move (Go.Operand.tmp 0),84,none⟩,
   ⟨some 6,Go.Op.move (Go.Operand.tmp 1),3,none⟩,
   ⟨some 7,Go.Op.call { callee:=Go.Callee.value (Go.Operand.func 59),args:=#[Go.Operand.tmp 5,Go.Operand.tmp 6],argTypes:=#[84,3] },3,none⟩,
   ⟨some 8,Go.Op.binOp Go.BinOp.geq 3 (Go.Operand.tmp 7) (Go.Operand.const (Go.Value.int Go.IntKind.i64 0)) 3,4,none⟩,
   ⟨some 4,Go.Op.assign (Go.Operand.tmp 8),4,none⟩])
  .ret)) :=
 ⟨foll,Tryz.f39,Tryz.func39,by kernel_rfl,by kernel_rfl,by kernel_rfl,by rw [Tryz.ntmps39];decide⟩
theorem fn55:FnIs Tryz.prog 55 1 [Go.ResultVar.tmp 2] (.seq (.region [⟨some 1,Go.Op.box 43 (Go.Operand.tmp 0),0,none⟩,
   ⟨some 2,Go.Op.assign (Go.Operand.const (Go.Value.int Go.IntKind.i64 0)),29,none⟩])
  (.seq (.region [⟨some 10,Go.Op.fieldAddr 43 (Go.Operand.tmp 1) 2,0,none⟩,
   ⟨some 11,Go.Op.load 40 (Go.Operand.tmp 10),40,none⟩,
   ⟨some 12,Go.Op.call { callee:=Go.Callee.builtin Go.Builtin.len,args:=#[Go.Operand.tmp 11],argTypes:=#[40] },3,none⟩,
   ⟨some 3,Go.Op.alloc 3,0,none⟩,
   ⟨none,Go.Op.store 3 (Go.Operand.tmp 3) (Go.Operand.tmp 12),0,none⟩])
  (.seq (.region [⟨some 13,Go.Op.makeFunc (Go.Fn.func 79) #[] #[Go.Operand.tmp 3],145,none⟩,
   ⟨some 4,Go.Op.assign (Go.Operand.tmp 13),145,none⟩])
  (.seq (.seq (.region [⟨some 14,Go.Op.load 3 (Go.Operand.tmp 3),3,none⟩,
   ⟨some 15,Go.Op.binOp Go.BinOp.lss 3 (Go.Operand.tmp 14) (Go.Operand.const (Go.Value.int Go.IntKind.i64 1)) 3,4,none⟩,
   ⟨some 16,Go.Op.move (Go.Operand.tmp 15),4,none⟩,
   ⟨some 17,Go.Op.load 3 (Go.Operand.tmp 3),3,(some (16,false))⟩,
   ⟨some 18,Go.Op.binOp Go.BinOp.gtr 3 (Go.Operand.tmp 17) (Go.Operand.const (Go.Value.int Go.IntKind.i64 3000)) 3,4,(some (16,false))⟩,
   ⟨some 19,Go.Op.pick (Go.Operand.tmp 16) (Go.Operand.const (Go.Value.bool true)) (Go.Operand.tmp 18),4,none⟩,
   ⟨some 20,Go.Op.move (Go.Operand.tmp 19),4,none⟩,
   ⟨some 21,Go.Op.fieldAddr 43 (Go.Operand.tmp 1) 3,0,(some (20,false))⟩,
   ⟨some 22,Go.Op.load 41 (Go.Operand.tmp 21),41,(some (20,false))⟩,
   ⟨some 23,Go.Op.call { callee:=Go.Callee.builtin Go.Builtin.len,args:=#[Go.Operand.tmp 22],argTypes:=#[41] },3,(some (20,false))⟩,
   ⟨some 24,Go.Op.load 3 (Go.Operand.tmp 3),3,(some (20,false))⟩,
   ⟨some 25,Go.Op.binOp Go.BinOp.neq 3 (Go.Operand.tmp 23) (Go.Operand.tmp 24) 3,4,(some (20,false))⟩,
   ⟨some 26,Go.Op.pick (Go.Operand.tmp 20) (Go.Operand.const (Go.Value.bool true)) (Go.Operand.tmp 25),4,none⟩,
   ⟨some 27,Go.Op.move (Go.Operand.tmp 26),4,none⟩,
   ⟨some 28,Go.Op.move (Go.Operand.tmp 4),145,(some (27,false))⟩,
   ⟨some 29,Go.Op.fieldAddr 43 (Go.Operand.tmp 1) 0,0,(some (27,false))⟩,
   ⟨some 30,Go.Op.load 3 (Go.Operand.tmp 29),3,(some (27,false))⟩,
   ⟨some 31,Go.Op.call { callee:=Go.Callee.value (Go.Operand.tmp 28),args:=#[Go.Operand.tmp 30],argTypes:=#[3] },4,(some (27,false))⟩,
   ⟨some 32,Go.Op.unOp Go.UnOp.not 4 (Go.Operand.tmp 31),4,(some (27,false))⟩,
   ⟨some 33,Go.Op.pick (Go.Operand.tmp 27) (Go.Operand.const (Go.Value.bool true)) (Go.Operand.tmp 32),4,none⟩,
   ⟨some 34,Go.Op.move (Go.Operand.tmp 33),4,none⟩,
   ⟨some 35,Go.Op.move (Go.Operand.tmp 4),145,(some (34,false))⟩,
   ⟨some 36,Go.Op.fieldAddr 43 (Go.Operand.tmp 1) 1,0,(some (34,false))⟩,
   ⟨some 37,Go.Op.load 3 (Go.Operand.tmp 36),3,(some (34,false))⟩,
   ⟨some 38,Go.Op.call { callee:=Go.Callee.value (Go.Operand.tmp 35),args:=#[Go.Operand.tmp 37],argTypes:=#[3] },4,(some (34,false))⟩,
   ⟨some 39,Go.Op.unOp Go.UnOp.not 4 (Go.Operand.tmp 38),4,(some (34,false))⟩,
   ⟨some 40,Go.Op.pick (Go.Operand.tmp 34) (Go.Operand.const (Go.Value.bool true)) (Go.Operand.tmp 39),4,none⟩])
  (.cond (Go.Operand.tmp 40)
   (.seq (.region [⟨some 2,Go.Op.assign (Go.Operand.const (Go.Value.int Go.IntKind.i64 1)),29,none⟩])
   .ret)
   .skip))
  (.seq (.seq (.region [⟨some 41,Go.Op.load 3 (Go.Operand.tmp 3),3,none⟩,
   ⟨some 42,Go.Op.move (Go.Operand.const (Go.Value.int Go.IntKind.i64 0)),3,none⟩])
  (.block 0
   (.loop
    (.seq (.region [⟨some 43,Go.Op.binOp Go.BinOp.lss 3 (Go.Operand.tmp 42) (Go.Operand.tmp 41) 3,4,none⟩])
    (.seq (.cond (Go.Operand.tmp 43)
     .skip
     (.exit 0))
    (.seq (.block 1
     (.seq (.region [⟨some 44,Go.Op.move (Go.Operand.tmp 42),3,none⟩,
      ⟨some 5,Go.Op.assign (Go.Operand.tmp 44),3,none⟩])
     (.seq (.seq (.region [⟨some 45,Go.Op.fieldAddr 43 (Go.Operand.tmp 1) 2,0,none⟩,
      ⟨some 46,Go.Op.load 40 (Go.Operand.tmp 45),40,none⟩,
      ⟨some 47,Go.Op.move (Go.Operand.tmp 5),3,none⟩,
      ⟨some 48,Go.Op.indexAddr 40 (Go.Operand.tmp 46) (Go.Operand.tmp 47),0,none⟩,
      ⟨some 49,Go.Op.load 99 (Go.Operand.tmp 48),99,none⟩,
      ⟨some 50,Go.Op.call { callee:=Go.Callee.builtin Go.Builtin.len,args:=#[Go.Operand.tmp 49],argTypes:=#[99] },3,none⟩,
      ⟨some 51,Go.Op.move (Go.Operand.const (Go.Value.int Go.IntKind.i64 0)),3,none⟩])
     (.block 2
      (.loop
       (.seq (.region [⟨some 52,Go.Op.binOp Go.BinOp.lss 3 (Go.Operand.tmp 51) (Go.Operand.tmp 50) 3,0,none⟩])
       (.seq (.cond (Go.Operand.tmp 52)
        .skip
        (.exit 2))
       (.seq (.block 3
        (.seq (.region [⟨some 53,Go.Op.indexAddr 99 (Go.Operand.tmp 49) (Go.Operand.tmp 51),0,none⟩,
         ⟨some 54,Go.Op.load 101 (Go.Operand.tmp 53),101,none⟩,
         ⟨some 7,Go.Op.alloc 101,0,none⟩,
         ⟨none,Go.Op.store 101 (Go.Operand.tmp 7) (Go.Operand.tmp 54),0,none⟩])
        (.seq (.region [⟨some 55,Go.Op.fieldAddr 101 (Go.Operand.tmp 7) 0,0,none⟩,
         ⟨some 56,Go.Op.fieldAddr 98 (Go.Operand.tmp 55) 0,0,none⟩,
         ⟨some 57,Go.Op.load 21 (Go.Operand.tmp 56),21,none⟩,
         ⟨some 58,Go.Op.call { callee:=Go.Callee.value (Go.Operand.func 80),args:=#[Go.Operand.tmp 57],argTypes:=#[21] },4,none⟩,
         ⟨some 59,Go.Op.unOp Go.UnOp.not 4 (Go.Operand.tmp 58),4,none⟩,
         ⟨some 60,Go.Op.move (Go.Operand.tmp 59),4,none⟩,
         ⟨some 61,Go.Op.fieldAddr 101 (Go.Operand.tmp 7) 0,0,(some (60,false))⟩,
         ⟨some 62,Go.Op.fieldAddr 98 (Go.Operand.tmp 61) 1,0,(some (60,false))⟩,
         ⟨some 63,Go.Op.load 21 (Go.Operand.tmp 62),21,(some (60,false))⟩,
         ⟨some 64,Go.Op.call { callee:=Go.Callee.value (Go.Operand.func 80),args:=#[Go.Operand.tmp 63],argTypes:=#[21] },4,(some (60,false))⟩,
         ⟨some 65,Go.Op.unOp Go.UnOp.not 4 (Go.Operand.tmp 64),4,(some (60,false))⟩,
         ⟨some 66,Go.Op.pick (Go.Operand.tmp 60) (Go.Operand.const (Go.Value.bool true)) (Go.Operand.tmp 65),4,none⟩,
         ⟨some 67,Go.Op.move (Go.Operand.tmp 66),4,none⟩,
         ⟨some 68,Go.Op.fieldAddr 101 (Go.Operand.tmp 7) 0,0,(some (67,false))⟩,
         ⟨some 69,Go.Op.fieldAddr 98 (Go.Operand.tmp 68) 0,0,(some (67,false))⟩,
         ⟨some 70,Go.Op.load 21 (Go.Operand.tmp 69),21,(some (67,false))⟩,
         ⟨some 71,Go.Op.fieldAddr 101 (Go.Operand.tmp 7) 0,0,(some (67,false))⟩,
         ⟨some 72,Go.Op.fieldAddr 98 (Go.Operand.tmp 71) 1,0,(some (67,false))⟩,
         ⟨some 73,Go.Op.load 21 (Go.Operand.tmp 72),21,(some (67,false))⟩,
         ⟨some 74,Go.Op.binOp Go.BinOp.gtr 21 (Go.Operand.tmp 70) (Go.Operand.tmp 73) 21,4,(some (67,false))⟩,
         ⟨some 75,Go.Op.pick (Go.Operand.tmp 67) (Go.Operand.const (Go.Value.bool true)) (Go.Operand.tmp 74),4,none⟩,
         ⟨some 76,Go.Op.move (Go.Operand.tmp 75),4,none⟩,
         ⟨some 77,Go.Op.move (Go.Operand.tmp 4),145,(some (76,false))⟩,
         ⟨some 78,Go.Op.fieldAddr 101 (Go.Operand.tmp 7) 1,0,(some (76,false))⟩,
         ⟨some 79,Go.Op.load 3 (Go.Operand.tmp 78),3,(some (76,false))⟩,
         ⟨some 80,Go.Op.call { callee:=Go.Callee.value (Go.Operand.tmp 77),args:=#[Go.Operand.tmp 79],argTypes:=#[3] },4,(some (76,false))⟩,
         ⟨some 81,Go.Op.unOp Go.UnOp.not 4 (Go.Operand.tmp 80),4,(some (76,false))⟩,
         ⟨some 82,Go.Op.pick (Go.Operand.tmp 76) (Go.Operand.const (Go.Value.bool true)) (Go.Operand.tmp 81),4,none⟩])
        (.cond (Go.Operand.tmp 82)
         (.seq (.region [⟨some 2,Go.Op.assign (Go.Operand.const (Go.Value.int Go.IntKind.i64 1)),29,none⟩])
         .ret)
         .skip))))
       (.region [⟨some 83,Go.Op.binOp Go.BinOp.add 3 (Go.Operand.tmp 51) (Go.Operand.const (Go.Value.int Go.IntKind.i64 1)) 3,3,none⟩,
        ⟨some 51,Go.Op.move (Go.Operand.tmp 83),3,none⟩])))))))
     (.seq (.region [⟨some 84,Go.Op.fieldAddr 43 (Go.Operand.tmp 1) 3,0,none⟩,
      ⟨some 85,Go.Op.load 41 (Go.Operand.tmp 84),41,none⟩,
      ⟨some 86,Go.Op.move (Go.Operand.tmp 5),3,none⟩,
      ⟨some 87,Go.Op.indexAddr 41 (Go.Operand.tmp 85) (Go.Operand.tmp 86),0,none⟩,
      ⟨some 88,Go.Op.load 84 (Go.Operand.tmp 87),84,none⟩,
      ⟨some 89,Go.Op.call { callee:=Go.Callee.builtin Go.Builtin.len,args:=#[Go.Operand.tmp 88],argTypes:=#[84] },3,none⟩,
      ⟨some 90,Go.Op.move (Go.Operand.const (Go.Value.int Go.IntKind.i64 0)),3,none⟩])
     (.block 4
      (.loop
       (.seq (.region [⟨some 91,Go.Op.binOp Go.BinOp.lss 3 (Go.Operand.tmp 90) (Go.Operand.tmp 89) 3,0,none⟩])
       (.seq (.cond (Go.Operand.tmp 91)
        .skip
        (.exit 4))
       (.seq (.block 5
        (.seq (.region [⟨some 92,Go.Op.indexAddr 84 (Go.Operand.tmp 88) (Go.Operand.tmp 90),0,none⟩,
         ⟨some 93,Go.Op.load 3 (Go.Operand.tmp 92),3,none⟩,
         ⟨some 9,Go.Op.assign (Go.Operand.tmp 93),3,none⟩])
        (.seq (.region [⟨some 94,Go.Op.move (Go.Operand.tmp 4),145,none⟩,
         ⟨some 95,Go.Op.move (Go.Operand.tmp 9),3,none⟩,
         ⟨some 96,Go.Op.call { callee:=Go.Callee.value (Go.Operand.tmp 94),args:=#[Go.Operand.tmp 95],argTypes:=#[3] },4,none⟩,
         ⟨some 97,Go.Op.unOp Go.UnOp.not 4 (Go.Operand.tmp 96),4,none⟩])
        (.cond (Go.Operand.tmp 97)
         (.seq (.region [⟨some 2,Go.Op.assign (Go.Operand.const (Go.Value.int Go.IntKind.i64 1)),29,none⟩])
         .ret)
         .skip))))
       (.region [⟨some 98,Go.Op.binOp Go.BinOp.add 3 (Go.Operand.tmp 90) (Go.Operand.const (Go.Value.int Go.IntKind.i64 1)) 3,3,none⟩,
        ⟨some 90,Go.Op.move (Go.Operand.tmp 98),3,none⟩]))))))))))
    (.region [⟨some 99,Go.Op.binOp Go.BinOp.add 3 (Go.Operand.tmp 42) (Go.Operand.const (Go.Value.int Go.IntKind.i64 1)) 3,3,none⟩,
     ⟨some 42,Go.Op.move (Go.Operand.tmp 99),3,none⟩])))))))
  (.seq (.region [⟨some 2,Go.Op.assign (Go.Operand.const (Go.Value.int Go.IntKind.i64 0)),29,none⟩])
  .ret)))))) :=
 ⟨foll,Tryz.f55,Tryz.func55,by kernel_rfl,by kernel_rfl,by kernel_rfl,by rw [Tryz.ntmps55];decide⟩
theorem fn56:FnIs Tryz.prog 56 2 [Go.ResultVar.tmp 4] (.seq (.region [⟨some 2,Go.Op.box 43 (Go.Operand.tmp 0),0,none⟩,
   ⟨some 4,Go.Op.assign (Go.Operand.const (Go.Value.slice none 0 0)),84,none⟩])
  (.seq (.region [⟨some 16,Go.Op.fieldAddr 43 (Go.Operand.tmp 2) 2,0,none⟩,
   ⟨some 17,Go.Op.load 40 (Go.Operand.tmp 16),40,none⟩,
   ⟨some 18,Go.Op.call { callee:=Go.Callee.builtin Go.Builtin.len,args:=#[Go.Operand.tmp 17],argTypes:=#[40] },3,none⟩,
   ⟨some 19,Go.Op.makeSlice 107 (Go.Operand.tmp 18) (Go.Operand.tmp 18),107,none⟩,
   ⟨some 5,Go.Op.alloc 107,0,none⟩,
   ⟨none,Go.Op.store 107 (Go.Operand.tmp 5) (Go.Operand.tmp 19),0,none⟩])
  (.seq (.region [⟨some 6,Go.Op.alloc 84,0,none⟩])
  (.seq (.region [⟨some 20,Go.Op.makeFunc (Go.Fn.func 81) #[] #[Go.Operand.tmp 5,Go.Operand.tmp 6],146,none⟩,
   ⟨some 7,Go.Op.assign (Go.Operand.tmp 20),146,none⟩])
  (.seq (.seq (.region [⟨some 21,Go.Op.move (Go.Operand.tmp 1),84,none⟩,
   ⟨some 22,Go.Op.call { callee:=Go.Callee.builtin Go.Builtin.len,args:=#[Go.Operand.tmp 21],argTypes:=#[84] },3,none⟩,
   ⟨some 23,Go.Op.move (Go.Operand.const (Go.Value.int Go.IntKind.i64 0)),3,none⟩])
  (.block 0
   (.loop
    (.seq (.region [⟨some 24,Go.Op.binOp Go.BinOp.lss 3 (Go.Operand.tmp 23) (Go.Operand.tmp 22) 3,0,none⟩])
    (.seq (.cond (Go.Operand.tmp 24)
     .skip
     (.exit 0))
    (.seq (.block 1
     (.seq (.region [⟨some 25,Go.Op.indexAddr 84 (Go.Operand.tmp 21) (Go.Operand.tmp 23),0,none⟩,
      ⟨some 26,Go.Op.load 3 (Go.Operand.tmp 25),3,none⟩,
      ⟨some 9,Go.Op.assign (Go.Operand.tmp 26),3,none⟩])
     (.region [⟨some 27,Go.Op.move (Go.Operand.tmp 7),146,none⟩,
      ⟨some 28,Go.Op.move (Go.Operand.tmp 9),3,none⟩,
      ⟨some 29,Go.Op.call { callee:=Go.Callee.value (Go.Operand.tmp 27),args:=#[Go.Operand.tmp 28],argTypes:=#[3] },0,none⟩])))
    (.region [⟨some 30,Go.Op.binOp Go.BinOp.add 3 (Go.Operand.tmp 23) (Go.Operand.const (Go.Value.int Go.IntKind.i64 1)) 3,3,none⟩,
     ⟨some 23,Go.Op.move (Go.Operand.tmp 30),3,none⟩])))))))
  (.seq (.block 2
   (.loop
    (.seq (.seq (.region [⟨some 31,Go.Op.load 84 (Go.Operand.tmp 6),84,none⟩,
     ⟨some 32,Go.Op.call { callee:=Go.Callee.builtin Go.Builtin.len,args:=#[Go.Operand.tmp 31],argTypes:=#[84] },3,none⟩,
     ⟨some 33,Go.Op.binOp Go.BinOp.gtr 3 (Go.Operand.tmp 32) (Go.Operand.const (Go.Value.int Go.IntKind.i64 0)) 3,4,none⟩])
    (.cond (Go.Operand.tmp 33)
     .skip
     (.exit 2)))
    (.block 3
     (.seq (.region [⟨some 34,Go.Op.load 84 (Go.Operand.tmp 6),84,none⟩,
      ⟨some 35,Go.Op.load 84 (Go.Operand.tmp 6),84,none⟩,
      ⟨some 36,Go.Op.call { callee:=Go.Callee.builtin Go.Builtin.len,args:=#[Go.Operand.tmp 35],argTypes:=#[84] },3,none⟩,
      ⟨some 37,Go.Op.binOp Go.BinOp.sub 3 (Go.Operand.tmp 36) (Go.Operand.const (Go.Value.int Go.IntKind.i64 1)) 3,3,none⟩,
      ⟨some 38,Go.Op.indexAddr 84 (Go.Operand.tmp 34) (Go.Operand.tmp 37),0,none⟩,
      ⟨some 39,Go.Op.load 3 (Go.Operand.tmp 38),3,none⟩,
      ⟨some 10,Go.Op.assign (Go.Operand.tmp 39),3,none⟩])
     (.seq (.region [⟨some 40,Go.Op.load 84 (Go.Operand.tmp 6),84,none⟩,
      ⟨some 41,Go.Op.load 84 (Go.Operand.tmp 6),84,none⟩,
      ⟨some 42,Go.Op.call { callee:=Go.Callee.builtin Go.Builtin.len,args:=#[Go.Operand.tmp 41],argTypes:=#[84] },3,none⟩,
      ⟨some 43,Go.Op.binOp Go.BinOp.sub 3 (Go.Operand.tmp 42) (Go.Operand.const (Go.Value.int Go.IntKind.i64 1)) 3,3,none⟩,
      ⟨some 44,Go.Op.slice 84 (Go.Operand.tmp 40) none (some (Go.Operand.tmp 43)) none,84,none⟩,
      ⟨none,Go.Op.store 84 (Go.Operand.tmp 6) (Go.Operand.tmp 44),0,none⟩])
     (.seq (.region [⟨some 45,Go.Op.fieldAddr 43 (Go.Operand.tmp 2) 3,0,none⟩,
      ⟨some 46,Go.Op.load 41 (Go.Operand.tmp 45),41,none⟩,
      ⟨some 47,Go.Op.move (Go.Operand.tmp 10),3,none⟩,
      ⟨some 48,Go.Op.indexAddr 41 (Go.Operand.tmp 46) (Go.Operand.tmp 47),0,none⟩,
      ⟨some 49,Go.Op.load 84 (Go.Operand.tmp 48),84,none⟩,
      ⟨some 50,Go.Op.call { callee:=Go.Callee.builtin Go.Builtin.len,args:=#[Go.Operand.tmp 49],argTypes:=#[84] },3,none⟩,
      ⟨some 51,Go.Op.move (Go.Operand.const (Go.Value.int Go.IntKind.i64 0)),3,none⟩])
     (.block 4
      (.loop
       (.seq (.region [⟨some 52,Go.Op.binOp Go.BinOp.lss 3 (Go.Operand.tmp 51) (Go.Operand.tmp 50) 3,0,none⟩])
       (.seq (.cond (Go.Operand.tmp 52)
        .skip
        (.exit 4))
       (.seq (.block 5
        (.seq (.region [⟨some 53,Go.Op.indexAddr 84 (Go.Operand.tmp 49) (Go.Operand.tmp 51),0,none⟩,
         ⟨some 54,Go.Op.load 3 (Go.Operand.tmp 53),3,none⟩,
         ⟨some 12,Go.Op.assign (Go.Operand.tmp 54),3,none⟩])
        (.region [⟨some 55,Go.Op.move (Go.Operand.tmp 7),146,none⟩,
         ⟨some 56,Go.Op.move (Go.Operand.tmp 12),3,none⟩,
         ⟨some 57,Go.Op.call { callee:=Go.Callee.value (Go.Operand.tmp 55),args:=#[Go.Operand.tmp 56],argTypes:=#[3] },0,none⟩])))
       (.region [⟨some 58,Go.Op.binOp Go.BinOp.add 3 (Go.Operand.tmp 51) (Go.Operand.const (Go.Value.int Go.IntKind.i64 1)) 3,3,none⟩,
        ⟨some 51,Go.Op.move (Go.Operand.tmp 58),3,none⟩])))))))))))))
  (.seq (.region [⟨some 13,Go.Op.assign (Go.Operand.const (Go.Value.slice none 0 0)),84,none⟩])
  (.seq (.seq (.region [⟨some 59,Go.Op.load 107 (Go.Operand.tmp 5),107,none⟩,
   ⟨some 60,Go.Op.call { callee:=Go.Callee.builtin Go.Builtin.len,args:=#[Go.Operand.tmp 59],argTypes:=#[107] },3,none⟩,
   ⟨some 61,Go.Op.move (Go.Operand.const (Go.Value.int Go.IntKind.i64 0)),3,none⟩])
  (.block 6
   (.loop
    (.seq (.region [⟨some 62,Go.Op.binOp Go.BinOp.lss 3 (Go.Operand.tmp 61) (Go.Operand.tmp 60) 3,0,none⟩])
    (.seq (.cond (Go.Operand.tmp 62)
     .skip
     (.exit 6))
    (.seq (.block 7
     (.seq (.region [⟨some 63,Go.Op.move (Go.Operand.tmp 61),3,none⟩,
      ⟨some 64,Go.Op.indexAddr 107 (Go.Operand.tmp 59) (Go.Operand.tmp 61),0,none⟩,
      ⟨some 65,Go.Op.load 4 (Go.Operand.tmp 64),4,none⟩,
      ⟨some 14,Go.Op.assign (Go.Operand.tmp 63),3,none⟩,
      ⟨some 15,Go.Op.assign (Go.Operand.tmp 65),4,none⟩])
     (.seq (.region [⟨some 66,Go.Op.move (Go.Operand.tmp 15),4,none⟩])
     (.cond (Go.Operand.tmp 66)
      (.region [⟨some 67,Go.Op.move (Go.Operand.tmp 13),84,none⟩,
       ⟨some 68,Go.Op.move (Go.Operand.tmp 14),3,none⟩,
       ⟨some 69,Go.Op.buildSlice 84 1 #[(0,Go.Operand.tmp 68)],84,none⟩,
       ⟨some 70,Go.Op.call { callee:=Go.Callee.builtin Go.Builtin.append,args:=#[Go.Operand.tmp 67,Go.Operand.tmp 69],argTypes:=#[84,84] },84,none⟩,
       ⟨some 13,Go.Op.assign (Go.Operand.tmp 70),84,none⟩])
      .skip))))
    (.region [⟨some 71,Go.Op.binOp Go.BinOp.add 3 (Go.Operand.tmp 61) (Go.Operand.const (Go.Value.int Go.IntKind.i64 1)) 3,3,none⟩,
     ⟨some 61,Go.Op.move (Go.Operand.tmp 71),3,none⟩])))))))
  (.seq (.region [⟨some 72,Go.Op.move (Go.Operand.tmp 13),84,none⟩,
   ⟨some 4,Go.Op.assign (Go.Operand.tmp 72),84,none⟩])
  .ret))))))))) :=
 ⟨foll,Tryz.f56,Tryz.func56,by kernel_rfl,by kernel_rfl,by kernel_rfl,by rw [Tryz.ntmps56];decide⟩
theorem fn58:FnIs Tryz.prog 58 3 [Go.ResultVar.tmp 6] (.seq (.region [⟨some 3,Go.Op.box 43 (Go.Operand.tmp 0),0,none⟩,
   ⟨some 6,Go.Op.assign (Go.Operand.const (Go.Value.slice none 0 0)),84,none⟩])
  (.seq (.region [⟨some 7,Go.Op.assign (Go.Operand.const (Go.Value.slice none 0 0)),84,none⟩])
  (.seq (.seq (.region [⟨some 12,Go.Op.move (Go.Operand.tmp 1),84,none⟩,
   ⟨some 13,Go.Op.call { callee:=Go.Callee.builtin Go.Builtin.len,args:=#[Go.Operand.tmp 12],argTypes:=#[84] },3,none⟩,
   ⟨some 14,Go.Op.move (Go.Operand.const (Go.Value.int Go.IntKind.i64 0)),3,none⟩])
  (.block 0
   (.loop
    (.seq (.region [⟨some 15,Go.Op.binOp Go.BinOp.lss 3 (Go.Operand.tmp 14) (Go.Operand.tmp 13) 3,0,none⟩])
    (.seq (.cond (Go.Operand.tmp 15)
     .skip
     (.exit 0))
    (.seq (.block 1
     (.seq (.region [⟨some 16,Go.Op.indexAddr 84 (Go.Operand.tmp 12) (Go.Operand.tmp 14),0,none⟩,
      ⟨some 17,Go.Op.load 3 (Go.Operand.tmp 16),3,none⟩,
      ⟨some 9,Go.Op.assign (Go.Operand.tmp 17),3,none⟩])
     (.seq (.region [⟨some 18,Go.Op.fieldAddr 43 (Go.Operand.tmp 3) 2,0,none⟩,
      ⟨some 19,Go.Op.load 40 (Go.Operand.tmp 18),40,none⟩,
      ⟨some 20,Go.Op.move (Go.Operand.tmp 9),3,none⟩,
      ⟨some 21,Go.Op.indexAddr 40 (Go.Operand.tmp 19) (Go.Operand.tmp 20),0,none⟩,
      ⟨some 22,Go.Op.load 99 (Go.Operand.tmp 21),99,none⟩,
      ⟨some 23,Go.Op.call { callee:=Go.Callee.builtin Go.Builtin.len,args:=#[Go.Operand.tmp 22],argTypes:=#[99] },3,none⟩,
      ⟨some 24,Go.Op.move (Go.Operand.const (Go.Value.int Go.IntKind.i64 0)),3,none⟩])
     (.block 2
      (.loop
       (.seq (.region [⟨some 25,Go.Op.binOp Go.BinOp.lss 3 (Go.Operand.tmp 24) (Go.Operand.tmp 23) 3,0,none⟩])
       (.seq (.cond (Go.Operand.tmp 25)
        .skip
        (.exit 2))
       (.seq (.block 3
        (.seq (.region [⟨some 26,Go.Op.indexAddr 99 (Go.Operand.tmp 22) (Go.Operand.tmp 24),0,none⟩,
         ⟨some 27,Go.Op.load 101 (Go.Operand.tmp 26),101,none⟩,
         ⟨some 11,Go.Op.alloc 101,0,none⟩,
         ⟨none,Go.Op.store 101 (Go.Operand.tmp 11) (Go.Operand.tmp 27),0,none⟩])
        (.seq (.region [⟨some 28,Go.Op.fieldAddr 101 (Go.Operand.tmp 11) 0,0,none⟩,
         ⟨some 29,Go.Op.fieldAddr 98 (Go.Operand.tmp 28) 0,0,none⟩,
         ⟨some 30,Go.Op.load 21 (Go.Operand.tmp 29),21,none⟩,
         ⟨some 31,Go.Op.move (Go.Operand.tmp 2),21,none⟩,
         ⟨some 32,Go.Op.binOp Go.BinOp.leq 21 (Go.Operand.tmp 30) (Go.Operand.tmp 31) 21,4,none⟩,
         ⟨some 33,Go.Op.move (Go.Operand.tmp 32),4,none⟩,
         ⟨some 34,Go.Op.move (Go.Operand.tmp 2),21,(some (33,true))⟩,
         ⟨some 35,Go.Op.fieldAddr 101 (Go.Operand.tmp 11) 0,0,(some (33,true))⟩,
         ⟨some 36,Go.Op.fieldAddr 98 (Go.Operand.tmp 35) 1,0,(some (33,true))⟩,
         ⟨some 37,Go.Op.load 21 (Go.Operand.tmp 36),21,(some (33,true))⟩,
         ⟨some 38,Go.Op.binOp Go.BinOp.leq 21 (Go.Operand.tmp 34) (Go.Operand.tmp 37) 21,4,(some (33,true))⟩,
         ⟨some 39,Go.Op.pick (Go.Operand.tmp 33) (Go.Operand.tmp 38) (Go.Operand.const (Go.Value.bool false)),4,none⟩])
        (.cond (Go.Operand.tmp 39)
         (.region [⟨some 40,Go.Op.move (Go.Operand.tmp 7),84,none⟩,
          ⟨some 41,Go.Op.fieldAddr 101 (Go.Operand.tmp 11) 1,0,none⟩,
          ⟨some 42,Go.Op.load 3 (Go.Operand.tmp 41),3,none⟩,
          ⟨some 43,Go.Op.buildSlice 84 1 #[(0,Go.Operand.tmp 42)],84,none⟩,
          ⟨some 44,Go.Op.call { callee:=Go.Callee.builtin Go.Builtin.append,args:=#[Go.Operand.tmp 40,Go.Operand.tmp 43],argTypes:=#[84,84] },84,none⟩,
          ⟨some 7,Go.Op.assign (Go.Operand.tmp 44),84,none⟩])
         .skip))))
       (.region [⟨some 45,Go.Op.binOp Go.BinOp.add 3 (Go.Operand.tmp 24) (Go.Operand.const (Go.Value.int Go.IntKind.i64 1)) 3,3,none⟩,
        ⟨some 24,Go.Op.move (Go.Operand.tmp 45),3,none⟩])))))))))
    (.region [⟨some 46,Go.Op.binOp Go.BinOp.add 3 (Go.Operand.tmp 14) (Go.Operand.const (Go.Value.int Go.IntKind.i64 1)) 3,3,none⟩,
     ⟨some 14,Go.Op.move (Go.Operand.tmp 46),3,none⟩])))))))
  (.seq (.region [⟨some 47,Go.Op.load 43 (Go.Operand.tmp 3),43,none⟩,
   ⟨some 48,Go.Op.move (Go.Operand.tmp 7),84,none⟩,
   ⟨some 49,Go.Op.call { callee:=Go.Callee.value (Go.Operand.func 56),args:=#[Go.Operand.tmp 47,Go.Operand.tmp 48],argTypes:=#[43,84] },84,none⟩,
   ⟨some 6,Go.Op.assign (Go.Operand.tmp 49),84,none⟩])
  .ret)))) :=
 ⟨foll,Tryz.f58,Tryz.func58,by kernel_rfl,by kernel_rfl,by kernel_rfl,by rw [Tryz.ntmps58];decide⟩
theorem fn59:FnIs Tryz.prog 59 2 [Go.ResultVar.tmp 4] (.seq (.region [⟨some 4,Go.Op.assign (Go.Operand.const (Go.Value.int Go.IntKind.i64 0)),3,none⟩])
  (.seq (.seq (.region [⟨some 6,Go.Op.move (Go.Operand.tmp 0),84,none⟩,
   ⟨some 7,Go.Op.call { callee:=Go.Callee.builtin Go.Builtin.len,args:=#[Go.Operand.tmp 6],argTypes:=#[84] },3,none⟩,
   ⟨some 8,Go.Op.move (Go.Operand.const (Go.Value.int Go.IntKind.i64 0)),3,none⟩])
  (.block 0
   (.loop
    (.seq (.region [⟨some 9,Go.Op.binOp Go.BinOp.lss 3 (Go.Operand.tmp 8) (Go.Operand.tmp 7) 3,0,none⟩])
    (.seq (.cond (Go.Operand.tmp 9)
     .skip
     (.exit 0))
    (.seq (.block 1
     (.seq (.region [⟨some 10,Go.Op.move (Go.Operand.tmp 8),3,none⟩,
      ⟨some 5,Go.Op.assign (Go.Operand.tmp 10),3,none⟩])
     (.seq (.region [⟨some 11,Go.Op.move (Go.Operand.tmp 1),3,none⟩,
      ⟨some 12,Go.Op.move (Go.Operand.tmp 0),84,none⟩,
      ⟨some 13,Go.Op.move (Go.Operand.tmp 5),3,none⟩,
      ⟨some 14,Go.Op.indexAddr 84 (Go.Operand.tmp 12) (Go.Operand.tmp 13),0,none⟩,
      ⟨some 15,Go.Op.load 3 (Go.Operand.tmp 14),3,none⟩,
      ⟨some 16,Go.Op.binOp Go.BinOp.eql 3 (Go.Operand.tmp 11) (Go.Operand.tmp 15) 3,4,none⟩])
     (.cond (Go.Operand.tmp 16)
      (.seq (.region [⟨some 17,Go.Op.move (Go.Operand.tmp 5),3,none⟩,
       ⟨some 4,Go.Op.assign (Go.Operand.tmp 17),3,none⟩])
      .ret)
      .skip))))
    (.region [⟨some 18,Go.Op.binOp Go.BinOp.add 3 (Go.Operand.tmp 8) (Go.Operand.const (Go.Value.int Go.IntKind.i64 1)) 3,3,none⟩,
     ⟨some 8,Go.Op.move (Go.Operand.tmp 18),3,none⟩])))))))
  (.seq (.region [⟨some 4,Go.Op.assign (Go.Operand.const (Go.Value.int Go.IntKind.i64 (-1))),3,none⟩])
  .ret))) :=
 ⟨foll,Tryz.f59,Tryz.func59,by kernel_rfl,by kernel_rfl,by kernel_rfl,by rw [Tryz.ntmps59];decide⟩
theorem fn79:FnIs Tryz.prog 79 2 [Go.ResultVar.tmp 3] (.seq (.region [⟨some 3,Go.Op.assign (Go.Operand.const (Go.Value.bool false)),4,none⟩])
  (.seq (.region [⟨some 4,Go.Op.move (Go.Operand.tmp 0),3,none⟩,
   ⟨some 5,Go.Op.binOp Go.BinOp.geq 3 (Go.Operand.tmp 4) (Go.Operand.const (Go.Value.int Go.IntKind.i64 0)) 3,4,none⟩,
   ⟨some 6,Go.Op.move (Go.Operand.tmp 5),4,none⟩,
   ⟨some 7,Go.Op.move (Go.Operand.tmp 0),3,(some (6,true))⟩,
   ⟨some 8,Go.Op.load 3 (Go.Operand.tmp 1),3,(some (6,true))⟩,
   ⟨some 9,Go.Op.binOp Go.BinOp.lss 3 (Go.Operand.tmp 7) (Go.Operand.tmp 8) 3,4,(some (6,true))⟩,
   ⟨some 10,Go.Op.pick (Go.Operand.tmp 6) (Go.Operand.tmp 9) (Go.Operand.const (Go.Value.bool false)),4,none⟩,
   ⟨some 3,Go.Op.assign (Go.Operand.tmp 10),4,none⟩])
  .ret)) :=
 ⟨foll,Tryz.f79,Tryz.func79,by kernel_rfl,by kernel_rfl,by kernel_rfl,by rw [Tryz.ntmps79];decide⟩
theorem fn80:FnIs Tryz.prog 80 1 [Go.ResultVar.tmp 2] (.seq (.region [⟨some 2,Go.Op.assign (Go.Operand.const (Go.Value.bool false)),4,none⟩])
  (.seq (.region [⟨some 3,Go.Op.move (Go.Operand.tmp 0),21,none⟩,
   ⟨some 4,Go.Op.binOp Go.BinOp.geq 21 (Go.Operand.tmp 3) (Go.Operand.const (Go.Value.int Go.IntKind.i32 0)) 21,4,none⟩,
   ⟨some 5,Go.Op.move (Go.Operand.tmp 4),4,none⟩,
   ⟨some 6,Go.Op.move (Go.Operand.tmp 0),21,(some (5,true))⟩,
   ⟨some 7,Go.Op.binOp Go.BinOp.leq 21 (Go.Operand.tmp 6) (Go.Operand.const (Go.Value.int Go.IntKind.i32 1114111)) 21,4,(some (5,true))⟩,
   ⟨some 8,Go.Op.pick (Go.Operand.tmp 5) (Go.Operand.tmp 7) (Go.Operand.const (Go.Value.bool false)),4,none⟩,
   ⟨some 9,Go.Op.move (Go.Operand.tmp 8),4,none⟩,
   ⟨some 10,Go.Op.move (Go.Operand.tmp 0),21,(some (9,true))⟩,
   ⟨some 11,Go.Op.binOp Go.BinOp.lss 21 (Go.Operand.tmp 10) (Go.Operand.const (Go.Value.int Go.IntKind.i32 55296)) 21,4,(some (9,true))⟩,
   ⟨some 12,Go.Op.move (Go.Operand.tmp 11),4,(some (9,true))⟩,
   ⟨some 13,Go.Op.move (Go.Operand.tmp 0),21,(some (12,false))⟩,
   ⟨some 14,Go.Op.binOp Go.BinOp.gtr 21 (Go.Operand.tmp 13) (Go.Operand.const (Go.Value.int Go.IntKind.i32 57343)) 21,4,(some (12,false))⟩,
   ⟨some 15,Go.Op.pick (Go.Operand.tmp 12) (Go.Operand.const (Go.Value.bool true)) (Go.Operand.tmp 14),4,(some (9,true))⟩,
   ⟨some 16,Go.Op.pick (Go.Operand.tmp 9) (Go.Operand.tmp 15) (Go.Operand.const (Go.Value.bool false)),4,none⟩,
   ⟨some 2,Go.Op.assign (Go.Operand.tmp 16),4,none⟩])
  .ret)) :=
 ⟨foll,Tryz.f80,Tryz.func80,by kernel_rfl,by kernel_rfl,by kernel_rfl,by rw [Tryz.ntmps80];decide⟩
theorem fn81:FnIs Tryz.prog 81 3 [] (.seq (.region [⟨some 4,Go.Op.move (Go.Operand.tmp 0),3,none⟩,
   ⟨some 5,Go.Op.binOp Go.BinOp.geq 3 (Go.Operand.tmp 4) (Go.Operand.const (Go.Value.int Go.IntKind.i64 0)) 3,4,none⟩,
   ⟨some 6,Go.Op.move (Go.Operand.tmp 5),4,none⟩,
   ⟨some 7,Go.Op.move (Go.Operand.tmp 0),3,(some (6,true))⟩,
   ⟨some 8,Go.Op.load 107 (Go.Operand.tmp 1),107,(some (6,true))⟩,
   ⟨some 9,Go.Op.call { callee:=Go.Callee.builtin Go.Builtin.len,args:=#[Go.Operand.tmp 8],argTypes:=#[107] },3,(some (6,true))⟩,
   ⟨some 10,Go.Op.binOp Go.BinOp.lss 3 (Go.Operand.tmp 7) (Go.Operand.tmp 9) 3,4,(some (6,true))⟩,
   ⟨some 11,Go.Op.pick (Go.Operand.tmp 6) (Go.Operand.tmp 10) (Go.Operand.const (Go.Value.bool false)),4,none⟩,
   ⟨some 12,Go.Op.move (Go.Operand.tmp 11),4,none⟩,
   ⟨some 13,Go.Op.load 107 (Go.Operand.tmp 1),107,(some (12,true))⟩,
   ⟨some 14,Go.Op.move (Go.Operand.tmp 0),3,(some (12,true))⟩,
   ⟨some 15,Go.Op.indexAddr 107 (Go.Operand.tmp 13) (Go.Operand.tmp 14),0,(some (12,true))⟩,
   ⟨some 16,Go.Op.load 4 (Go.Operand.tmp 15),4,(some (12,true))⟩,
   ⟨some 17,Go.Op.unOp Go.UnOp.not 4 (Go.Operand.tmp 16),4,(some (12,true))⟩,
   ⟨some 18,Go.Op.pick (Go.Operand.tmp 12) (Go.Operand.tmp 17) (Go.Operand.const (Go.Value.bool false)),4,none⟩])
  (.cond (Go.Operand.tmp 18)
   (.seq (.region [⟨some 19,Go.Op.load 107 (Go.Operand.tmp 1),107,none⟩,
    ⟨some 20,Go.Op.move (Go.Operand.tmp 0),3,none⟩,
    ⟨some 21,Go.Op.indexAddr 107 (Go.Operand.tmp 19) (Go.Operand.tmp 20),0,none⟩,
    ⟨none,Go.Op.store 4 (Go.Operand.tmp 21) (Go.Operand.const (Go.Value.bool true)),0,none⟩])
   (.region [⟨some 22,Go.Op.load 84 (Go.Operand.tmp 2),84,none⟩,
    ⟨some 23,Go.Op.move (Go.Operand.tmp 0),3,none⟩,
    ⟨some 24,Go.Op.buildSlice 84 1 #[(0,Go.Operand.tmp 23)],84,none⟩,
    ⟨some 25,Go.Op.call { callee:=Go.Callee.builtin Go.Builtin.append,args:=#[Go.Operand.tmp 22,Go.Operand.tmp 24],argTypes:=#[84,84] },84,none⟩,
    ⟨none,Go.Op.store 84 (Go.Operand.tmp 2) (Go.Operand.tmp 25),0,none⟩]))
   .skip)) :=
 ⟨foll,Tryz.f81,Tryz.func81,by kernel_rfl,by kernel_rfl,by kernel_rfl,by rw [Tryz.ntmps81];decide⟩
end Go.Proofs.YtfnddhbiolpmgaaGreatDoor
/- Trees of patterns: which texts they match,and where these end. Plain: no program. -/
set_option linter.unusedVariables false
set_option linter.unusedSimpArgs false
namespace Pat
inductive Tree where
 | mk (kind:Int) (set:List (Int × Int)) (sub:List Tree) (min max:Int)
instance:Inhabited Tree:=⟨.mk 0 [] [] 0 0⟩
namespace Tree
def kind:Tree→Int | .mk k _ _ _ _=>k
def set:Tree→List (Int × Int) | .mk _ s _ _ _=>s
def sub:Tree→List Tree | .mk _ _ l _ _=>l
def min:Tree→Int | .mk _ _ _ a _=>a
def max:Tree→Int | .mk _ _ _ _ b=>b
end Tree
mutual
theorem Tree.ind {p:Tree→Prop} (h:∀ k s sub a b,(∀ x,x∈sub→p x)→p (.mk k s sub a b)):∀ n,p n
 | .mk k s sub a b=>h k s sub a b (Tree.indL h sub)
theorem Tree.indL {p:Tree→Prop} (h:∀ k s sub a b,(∀ x,x∈sub→p x)→p (.mk k s sub a b)):∀ (l:List Tree) (x:Tree),x∈l→p x
 | [],x,hx=>by cases hx
 | y::l,x,hx=>by
  rcases List.mem_cons.1 hx with hx | hx
  ·rw [hx];exact Tree.ind h y
  ·exact Tree.indL h l x hx
end
mutual
def Tree.nodes:Tree→Nat
 | .mk _ _ l _ _=>1+Tree.nodesL l
def Tree.nodesL:List Tree→Nat
 | []=>0
 | x::l=>Tree.nodes x+Tree.nodesL l
end
def Pow (L:List Int→Prop):Nat→List Int→Prop
 | 0,w=>w=[]
 | n+1,w=>∃ u v,w=u++v∧L u∧Pow L n v
def InSet (s:List (Int × Int)) (c:Int):Prop:=∃ r,r∈s∧r.1≤c∧c≤r.2
def Cat (L M:List Int→Prop):List Int→Prop:=fun w=>∃ u v,w=u++v∧L u∧M v
def Eps:List Int→Prop:=fun w=>w=[]
mutual
def Lang:Tree→List Int→Prop
 | .mk k s l a b,w =>
  if k=1 then w=[]
  else if k=2 then ∃ c,w=[c]∧InSet s c
  else if k=3 then LangJ l w
  else if k=4 then LangC l w
  else if k=5 then ∃ n:Nat,a≤(n:Int)∧(b<0∨(n:Int)≤b)∧LangP l n w
  else False
def LangJ:List Tree→List Int→Prop
 | [],w=>w=[]
 | x::l,w=>∃ u v,w=u++v∧Lang x u∧LangJ l v
def LangC:List Tree→List Int→Prop
 | [],_=>False
 | x::l,w=>Lang x w∨LangC l w
def LangP:List Tree→Nat→List Int→Prop
 | [],_,_=>False
 | x::_,n,w=>Pow (fun u=>Lang x u) n w
end
theorem cat_assoc (L M N:List Int→Prop) (w:List Int):Cat (Cat L M) N w↔Cat L (Cat M N) w:=by
 constructor
 ·rintro ⟨_,v,rfl,⟨a,b,rfl,h1,h2⟩,h3⟩;exact ⟨a,b++v,by simp,h1,b,v,rfl,h2,h3⟩
 ·rintro ⟨a,_,rfl,h1,b,v,rfl,h2,h3⟩;exact ⟨a++b,v,by simp,⟨a,b,rfl,h1,h2⟩,h3⟩
theorem cat_eps (L:List Int→Prop) (w:List Int):Cat L Eps w↔L w:=by
 constructor
 ·rintro ⟨u,v,rfl,h1,rfl⟩;simpa using h1
 ·intro h;exact ⟨w,[],by simp,h,rfl⟩
theorem eps_cat (L:List Int→Prop) (w:List Int):Cat Eps L w↔L w:=by
 constructor
 ·rintro ⟨u,v,rfl,rfl,h1⟩;simpa using h1
 ·intro h;exact ⟨[],w,by simp,rfl,h⟩
theorem cat_congr {L L' M M':List Int→Prop} (h:∀ w,L w↔L' w) (k:∀ w,M w↔M' w) (w:List Int):Cat L M w↔Cat L' M' w:=by
 constructor
 ·rintro ⟨u,v,rfl,h1,h2⟩;exact ⟨u,v,rfl,(h _).1 h1,(k _).1 h2⟩
 ·rintro ⟨u,v,rfl,h1,h2⟩;exact ⟨u,v,rfl,(h _).2 h1,(k _).2 h2⟩
theorem pow_succ (L:List Int→Prop) (n:Nat) (w:List Int):Pow L (n+1) w↔Cat L (Pow L n) w:=Iff.rfl
theorem pow_zero (L:List Int→Prop) (w:List Int):Pow L 0 w↔Eps w:=Iff.rfl
theorem pow_snoc (L:List Int→Prop):∀ (n:Nat) (w:List Int),Pow L (n+1) w↔Cat (Pow L n) L w
 | 0,w=>by
  rw [pow_succ]
  exact (cat_congr (fun _=>Iff.rfl) (fun _=>pow_zero L _) w).trans ((cat_eps L w).trans ((eps_cat L w).symm.trans (cat_congr (fun _=>(pow_zero L _).symm) (fun _=>Iff.rfl) w)))
 | n+1,w=>by
  rw [pow_succ]
  exact (cat_congr (fun _=>Iff.rfl) (fun _=>pow_snoc L n _) w).trans ((cat_assoc _ _ _ w).symm.trans (cat_congr (fun _=>(pow_succ L n _).symm) (fun _=>Iff.rfl) w))
theorem pow_add (L:List Int→Prop) (m:Nat):∀ (n:Nat) (w:List Int),Pow L (m+n) w↔Cat (Pow L m) (Pow L n) w
 | 0,w=>((cat_congr (fun _=>Iff.rfl) (fun _=>pow_zero L _) w).trans (cat_eps _ w)).symm
 | n+1,w=>by
  have:=pow_snoc L (m+n) w
  rw [show m+(n+1)=m+n+1 by omega,this]
  exact (cat_congr (pow_add L m n) (fun _=>Iff.rfl) w).trans ((cat_assoc _ _ _ w).trans (cat_congr (fun _=>Iff.rfl) (fun _=>(pow_snoc L n _).symm) w))
theorem langJ_nil (w:List Int):LangJ [] w↔Eps w:=by simp only [LangJ,Eps]
theorem langJ_cons (x:Tree) (l:List Tree) (w:List Int):LangJ (x::l) w↔Cat (Lang x) (LangJ l) w:=by simp only [LangJ,Cat]
theorem langC_iff (l:List Tree) (w:List Int):LangC l w↔∃ x,x∈l∧Lang x w:=by
 induction l with
 | nil=>simp [LangC]
 | cons x l ih=>simp [LangC,ih]
/- places in a text -/
end Pat
/- Calls of the library by its contracts. -/


set_option linter.unusedVariables false
set_option linter.unusedSimpArgs false
namespace Nv
open Go Go.RowKit
def sc:AV→Bool
 | .d (.int _ _)=>true
 | .d (.bool _)=>true
 | .d (.str _)=>true
 | _=>false
def scv:AV→Value
 | .d (.int k n)=>.int k n
 | .d (.bool b)=>.bool b
 | .d (.str s)=>.string ⟨s.toArray⟩
 | _=>undef
section
variable {P:Program} {ρ ρ':RHO} {σ σ':ST} {I I':Nat→Prop} {w w':World}
theorem sc_inv {a:AV} {v:Value} (h:sc a=true) (hv:V ρ σ I w a v):v=scv a:=by
 cases hv <;> try (simp [sc] at h;done)
 rename_i x hx
 cases x <;> simp [sc] at h
 ·exact hx.int_inv
 ·exact hx.bool_inv
 ·exact hx.str_inv
theorem sc_V (ρ:RHO) (σ:ST) (I:Nat→Prop) (w:World) {a:AV} (h:sc a=true):V ρ σ I w a (scv a):=by
 cases a <;> simp [sc] at h
 rename_i x
 cases x <;> simp [sc] at h
 ·exact .d (.int _ _)
 ·exact .d (.bool _)
 ·exact .d (.str _)
theorem scs_inv {args:List AV} {vs:Array Value} (h:args.all sc=true) (hv:VL ρ σ I w args vs):vs=(args.map scv).toArray:=by
 apply Array.ext
 ·simp [hv.1]
 ·intro i h1 h2
  have hl:i<args.length:=by rw [hv.1];exact h1
  have:=sc_inv (List.all_eq_true.1 h _ (List.getElem_mem hl)) (hv.2 i _ (List.getElem?_eq_getElem hl))
  simp only [Array.getD_eq_getD_getElem?,h1,Array.getElem?_eq_getElem,Option.getD_some] at this
  simp [this]
theorem PCall.of_callsT {f:FuncId} {args:List AV} {r:AV} (ha:args.all sc=true) (hr:sc r=true)
  (h:∀ (w:World) (I:Nat→Prop),Tabs P I w→Calls P f (args.map scv).toArray w fun e w'=>e=.returned (scv r)∧Below w.heap.size w w'):PCall P f args r:=by
 intro σ ρ I w vs hrs hv
 rw [scs_inv ha hv]
 refine (h w I hrs.tabs).mono ?_
 rintro e w' ⟨rfl,hb⟩
 have hx:Ext w w':=⟨hb.size,⟨hb.os,hb.tape,hb.output⟩⟩
 exact ⟨ρ,I,σ,.ret r,Step.more hx hb.block,hrs.more hx hb.block,sc_V _ _ _ _ hr,rfl,rfl⟩
end
end Nv
/- A nil slice seen avl a list without elements: contracts at data that says less. -/

set_option linter.unusedVariables false
set_option linter.unusedSimpArgs false
namespace Nv
open Go
def WkD (x y:DV):Prop:=x=y∨(x=.nilslice∧∃ e,y=.list e [])
inductive WkA:AV→AV→Prop
 | refl (a:AV):WkA a a
 | nil (e:Nat):WkA (.d .nilslice) (.d (.list e []))
 | rows {xs ys:List DV}:xs.length=ys.length→(∀ i,i<xs.length→WkD (xs.getD i default) (ys.getD i default))→WkA (.d (.list 1 xs)) (.d (.list 1 ys))
 | agg {cs ds:List AV}:cs.length=ds.length→(∀ i,i<cs.length→WkA (cs.getD i .any) (ds.getD i .any))→WkA (.agg cs) (.agg ds)
section
variable {P:Program} {ρ:RHO} {σ:ST} {I:Nat→Prop} {w:World}
theorem VD.wkd {x y:DV} {v:Value} (h:WkD x y) (hv:VD I w x v):VD I w y v:=by
 rcases h with rfl | ⟨rfl,e,rfl⟩
 ·exact hv
 ·cases hv;exact .listNil _ _
theorem V.wk {a b:AV} (h:WkA a b):∀ {v:Value},V ρ σ I w a v→V ρ σ I w b v:=by
 induction h with
 | refl a=>exact fun hv=>hv
 | nil e=>intro v hv;exact .d (VD.wkd (.inr ⟨rfl,e,rfl⟩) hv.d_inv)
 | @rows xs ys hl hx =>
  intro v hv
  cases hv.d_inv with
  | listNil _ p =>
   obtain rfl:ys=[]:=List.length_eq_zero_iff.1 (by simpa using hl.symm)
   exact .d (.listNil _ _)
  | @list _ _ b off n cap us q1 q2 q0 q3 q4 =>
   have hy0:∀ i,i<ys.length→Uni 1 (ys.getD i default):=by
    intro i hi
    rcases hx i (by omega) with h | ⟨h,e,h'⟩
    ·rw [← h]
     refine q0 _ ?_
     rw [List.getD_eq_getElem?_getD,List.getElem?_eq_getElem (by omega)]
     exact List.getElem_mem _
    ·rw [h'];exact ⟨rfl,by simp [DV.isAgg]⟩
   have hy:∀ y,y∈ys→Uni 1 y:=by
    intro y hm
    obtain ⟨i,hi,rfl⟩:=List.getElem_of_mem hm
    have:=hy0 i hi
    rwa [List.getD_eq_getElem?_getD,List.getElem?_eq_getElem hi] at this
   have key:∀ (j:Nat) (c:DV),(flat ys)[j]? = some c→∃ c',(flat xs)[j]? = some c'∧WkD c' c:=by
    intro j c hj
    have hjl:j<(flat ys).length:=by
     rcases Nat.lt_or_ge j (flat ys).length with h | h
     ·exact h
     ·rw [List.getElem?_eq_none h] at hj;cases hj
    rw [flat_len hy,Nat.mul_one] at hjl
    have e1:=flat_get hy (i:=j) (o:=0) hjl (by omega)
    have e2:=flat_get q0 (i:=j) (o:=0) (by omega) (by omega)
    rw [Nat.mul_one,Nat.add_zero] at e1 e2
    rw [hj] at e1
    rcases hx j (by omega) with h | ⟨h,e,h'⟩
    ·rw [h,← e1] at e2
     exact ⟨c,e2,.inl rfl⟩
    ·rw [h'] at e1
     rw [h] at e2
     simp only [DV.cells,List.getElem?_cons_zero,Option.some.injEq] at e1 e2
     exact ⟨_,e2,.inr ⟨rfl,e,e1⟩⟩
   refine .d (.list us (by omega) q2 hy (fun j c hj=>?_) (fun j c hj=>?_))
   ·obtain ⟨c',h1,h2⟩:=key j c hj
    exact q3 j c' h1
   ·obtain ⟨c',h1,h2⟩:=key j c hj
    exact VD.wkd h2 (q4 j c' h1)
 | @agg cs ds hl _ ih =>
  intro v hv
  cases hv with | agg k1 k2 =>
  refine .agg (by omega) (fun j c hj=>?_)
  have hjl:j<ds.length:=by
   rcases Nat.lt_or_ge j ds.length with h | h
   ·exact h
   ·rw [List.getElem?_eq_none h] at hj;cases hj
  have h1:cs[j]? = some (cs.getD j .any):=by rw [List.getD_eq_getElem?_getD,List.getElem?_eq_getElem (by omega)];rfl
  have:=ih j (by omega) (k2 j _ h1)
  rwa [List.getD_eq_getElem?_getD,hj] at this
theorem PCall.wk {f:FuncId} {args args':List AV} {r:AV} (h:PCall P f args' r) (hl:args.length=args'.length) (ha:∀ i,i<args.length→WkA (args.getD i .any) (args'.getD i .any)):PCall P f args r:=by
 intro σ ρ I w vs hr hv
 refine h σ ρ I w vs hr ⟨by rw [← hl];exact hv.1,fun j a hj=>?_⟩
 have hjl:j<args'.length:=by
  rcases Nat.lt_or_ge j args'.length with h | h
  ·exact h
  ·rw [List.getElem?_eq_none h] at hj;cases hj
 have h1:args[j]? = some (args.getD j .any):=by rw [List.getD_eq_getElem?_getD,List.getElem?_eq_getElem (by omega)];rfl
 have:=V.wk (ha j (by omega)) (hv.2 j _ h1)
 rwa [List.getD_eq_getElem?_getD,hj] at this
end
end Nv
set_option linter.unusedVariables false
set_option linter.unusedSimpArgs false
set_option maxRecDepth 100000
namespace Go.Proofs.YtfnddhbiolpmgaaGreatDoor
open Go Nv Pat
def rgD (r:Int × Int):DV:=.agg [.int .i32 r.1,.int .i32 r.2]
def setD (s:List (Int × Int)):DV:=.list 2 (s.map rgD)
@[go_sem] theorem one_setD (s:List (Int × Int)):(AV.d (setD s)).one=true:=nrfl rfl
mutual
def nodeD:Tree→DV
 | .mk k s l a b=>.agg [.int .i64 k,setD s,.list 5 (nodesD l),.int .i64 a,.int .i64 b]
def nodesD:List Tree→List DV
 | []=>[]
 | x::l=>nodeD x::nodesD l
end
theorem nodesD_map:∀ l:List Tree,nodesD l=l.map nodeD
 | []=>rfl
 | x::l=>by rw [nodesD,nodesD_map l];rfl
def nodeC (n:Tree):List DV:=[.int .i64 n.kind,setD n.set,.list 5 (n.sub.map nodeD),.int .i64 n.min,.int .i64 n.max]
theorem nodeD_eq:∀ n:Tree,nodeD n=.agg (nodeC n)
 | .mk k s l a b=>by simp only [nodeD,nodeC,nodesD_map,Tree.kind,Tree.set,Tree.sub,Tree.min,Tree.max]
def nodeF (n:Tree):List AV:=[.d (.int .i64 n.kind),.d (setD n.set),.d (.list 5 (n.sub.map nodeD)),.d (.int .i64 n.min),.d (.int .i64 n.max)]
def nodeA (n:Tree):AV:=.agg (nodeF n)
theorem nodesL_append:∀ l m:List Tree,Tree.nodesL (l++m)=Tree.nodesL l+Tree.nodesL m
 | [],m=>by simp [Tree.nodesL]
 | x::l,m=>by simp only [List.cons_append,Tree.nodesL,nodesL_append l m];omega
theorem take_succ' {α:Type} [Inhabited α] (l:List α) (k:Nat) (h:k<l.length):l.take (k+1)=l.take k++[l.getD k default]:=by
 rw [List.take_succ_eq_append_getElem h];simp [List.getD_eq_getElem?_getD,h]
theorem getD_mem {α:Type} [Inhabited α] (l:List α) (k:Nat) (h:k<l.length):l.getD k default∈l:=by
 rw [List.getD_eq_getElem?_getD,List.getElem?_eq_getElem h];exact List.getElem_mem _
theorem nodesL_take (l:List Tree) (k:Nat):Tree.nodesL (l.take k)≤Tree.nodesL l:=by
 have:=nodesL_append (l.take k) (l.drop k)
 rw [List.take_append_drop] at this
 omega
theorem length_nodesL:∀ l:List Tree,l.length≤Tree.nodesL l
 | []=>Nat.le_refl _
 | x::l=>by
  have:=length_nodesL l
  have h1:1≤x.nodes:=by cases x;simp only [Tree.nodes];omega
  simp only [List.length_cons,Tree.nodesL];omega
theorem nodes_mem:∀ (l:List Tree) (x:Tree),x∈l→x.nodes≤Tree.nodesL l
 | y::l,x,h=>by
  rcases List.mem_cons.1 h with h | h
  ·rw [h,Tree.nodesL];omega
  ·have:=nodes_mem l x h
   rw [Tree.nodesL];omega
theorem nodes_eq:∀ n:Tree,n.nodes=1+Tree.nodesL n.sub
 | .mk k s l a b=>by simp only [Tree.nodes,Tree.sub]
def cnt (n:Tree) (lim:Nat):Nat:=min n.nodes (lim+1)
theorem count25:∀ (n:Tree) (lim:Nat),lim≤1000000→PCall Tryz.prog 43 [nodeA n,.d (.int .i64 lim)] (.d (.int .i64 (cnt n lim))):=by
 intro n
 induction n using Tree.ind with
 | h k s sub a b ih =>
  intro lim hlim
  refine fn43.pure noHint (Nat.le_refl _) (by simp only [go_sem,nodeA,nodeF,setD]) (by simp only [go_sem]) ?_
  simp (disch:=omega) only [go_sem,nodeA,nodeF,Tree.kind,Tree.set,Tree.sub,Tree.min,Tree.max,setD]
  have hn:(Tree.mk k s sub a b).nodes=1+Tree.nodesL sub:=nodes_eq _
  refine wL_ind (fun (j:Nat) fr σ=>j≤sub.length∧fr 1=.d (.int .i64 lim)∧fr 5=.d (.int .i64 (min (1+Tree.nodesL (sub.take j)) (lim+1):Nat))∧fr 9=.d (.list 5 (sub.map nodeD))∧fr 10=.d (.int .i64 sub.length)∧fr 11=.d (.int .i64 j)) (fun j=>sub.length - j) ?_ 0 ?_
  ·rintro j fr σ ⟨hj,f1,f5,f9,f10,f11⟩ ih2
   obtain ⟨o,ho⟩:∃ o,o=min (1+Tree.nodesL (sub.take j)) (lim+1):=⟨_,rfl⟩
   rw [← ho] at f5
   have h1:=nodesL_take sub j
   by_cases hlt:j<sub.length
   ·by_cases hgt:lim<o
    ·have hgt':(lim:Int)<o:=by omega
     have e:cnt (.mk k s sub a b) lim=o:=by rw [cnt,hn];omega
     simp (disch:=omega) only [go_sem,f1,f5,f9,f10,f11,hlt,nodeD_eq,nodeC,hgt',e]
    ·have hgt':¬ (lim:Int)<o:=by omega
     obtain ⟨x,hx⟩:∃ x,x=sub.getD j default:=⟨_,rfl⟩
     have hxm:x∈sub:=by rw [hx];exact getD_mem sub j hlt
     have e1:(lim:Int) - o=((lim - o:Nat):Int):=by omega
     simp (disch:=omega) only [go_sem,f1,f5,f9,f10,f11,hlt,nodeD_eq,nodeC,hgt',← hx,e1]
     refine (ih x hxm (lim - o) (by omega)).at ?_
     have hjl:=length_nodesL (sub.take j)
     rw [List.length_take] at hjl
     have hc:cnt x (lim - o)≤lim - o+1:=by rw [cnt];omega
     have e2:(o:Int)+cnt x (lim - o)=((o+cnt x (lim - o):Nat):Int):=by omega
     have hj2:j+1≤1000001:=by omega
     clear hjl
     simp (disch:=omega) only [go_sem,f5,f11,e2]
     refine ih2 (j+1) _ _ (by omega) ⟨by omega,?_,?_,?_,?_,?_⟩
     ·simp (disch:=omega) only [go_sem,f1]
     ·rw [take_succ' sub j hlt,nodesL_append,← hx]
      have e3:min (1+(Tree.nodesL (sub.take j)+Tree.nodesL [x])) (lim+1)=o+cnt x (lim - o):=by simp only [Tree.nodesL,cnt];omega
      rw [e3];simp (disch:=omega) only [go_sem]
     ·simp (disch:=omega) only [go_sem,f9]
     ·simp (disch:=omega) only [go_sem,f10]
     ·simp (disch:=omega) only [go_sem]
   ·have e:cnt (.mk k s sub a b) lim=o:=by rw [cnt,hn,ho,List.take_of_length_le (by omega)]
    simp (disch:=omega) only [go_sem,f1,f5,f9,f10,f11,hlt,e]
  ·refine ⟨by omega,?_,?_,?_,?_,?_⟩
   all_goals simp (disch:=omega) only [go_sem]
   have:min (1+Tree.nodesL []) (lim+1)=1:=by simp only [Tree.nodesL];omega
   rw [this];rfl
end Go.Proofs.YtfnddhbiolpmgaaGreatDoor
set_option linter.unusedVariables false
set_option linter.unusedSimpArgs false
set_option maxRecDepth 100000
namespace Go.Proofs.YtfnddhbiolpmgaaGreatDoor
open Go Nv Pat
def charB (r:Int):Bool:=(decide (0≤r) && decide (r≤55295)) || (decide (57344≤r) && decide (r≤1114111))
theorem charB_iff (r:Int):charB r=true↔(0≤r∧r≤55295)∨(57344≤r∧r≤1114111):=by simp [charB]
theorem char66 (r:Int):PCall Tryz.prog 85 [.d (.int .i32 r)] (.d (.bool (charB r))):=by
 refine fn85.pure noHint (Nat.le_refl _) (by simp only [go_sem]) (by simp only [go_sem]) ?_
 simp (disch:=omega) only [go_sem]
 by_cases h1:0≤r
 ·by_cases h2:r≤55295
  ·simp (disch:=omega) only [go_sem,h1,h2,charB]
  ·by_cases h3:57344≤r
   ·simp (disch:=omega) only [go_sem,h1,h2,h3,charB]
   ·simp (disch:=omega) only [go_sem,h1,h2,h3,charB]
 ·by_cases h3:57344≤r
  ·omega
  ·simp (disch:=omega) only [go_sem,h1,h3,charB]
def rgB (r:Int × Int):Bool:=charB r.1 && charB r.2 && decide (r.1≤r.2) && (decide (r.1<55296) == decide (r.2<55296))
def properFrom:Option Int→List (Int × Int)→Bool
 | _,[]=>true
 | none,r::l=>rgB r && properFrom (some r.2) l
 | some q,r::l=>rgB r && decide (2≤r.1 - q) && properFrom (some r.2) l
def properB (s:List (Int × Int)):Bool:=properFrom none s
def prevOf (s:List (Int × Int)) (k:Nat):Option Int:=if k=0 then none else some (s.getD (k - 1) default).2
theorem proper43 (s:List (Int × Int)) (hs:s.length≤1000000):PCall Tryz.prog 62 [.d (setD s)] (.d (.bool (properB s))):=by
 refine fn62.pure noHint (Nat.le_refl _) (by simp only [go_sem,setD]) (by simp only [go_sem]) ?_
 simp (disch:=omega) only [go_sem,setD]
 refine wL_ind (fun (k:Nat) fr σ=>k≤s.length∧fr 0=.d (.list 2 (s.map rgD))∧fr 5=.d (.list 2 (s.map rgD))∧fr 6=.d (.int .i64 s.length)∧fr 7=.d (.int .i64 k) ∧
  properFrom (prevOf s k) (s.drop k)=properB s∧(0<k→0≤(s.getD (k - 1) default).2∧(s.getD (k - 1) default).2≤1114111)) (fun k=>s.length - k) ?_ 0 ?_
 ·rintro k fr σ ⟨hk,f0,f5,f6,f7,hp,hq⟩ ih
  by_cases hlt:k<s.length
  ·obtain ⟨r,hr⟩:∃ r,r=s.getD k default:=⟨_,rfl⟩
   have hd:s.drop k=r::s.drop (k+1):=by rw [hr];exact drop_getD s k hlt
   rw [hd] at hp
   have bad:rgB r=false→properB s=false:=fun h=>by
    rw [← hp];cases prevOf s k <;> simp only [properFrom,h,Bool.false_and]
   simp (disch:=omega) only [go_sem,f0,f5,f6,f7,hlt,rgD,← hr]
   refine (char66 r.1).at ?_
   by_cases c1:charB r.1=true
   ·simp (disch:=omega) only [go_sem,c1]
    refine (char66 r.2).at ?_
    by_cases c2:charB r.2=true
    ·simp (disch:=omega) only [go_sem,c2]
     by_cases c3:r.2<r.1
     ·have e:=bad (by simp only [rgB,Bool.and_eq_false_iff,decide_eq_false_iff_not];exact .inl (.inr (by omega)))
      simp (disch:=omega) only [go_sem,c3,e]
     ·by_cases c4:decide (r.1<55296)=decide (r.2<55296)
      ·have hg:rgB r=true:=by simp only [rgB,c1,c2,c4,Bool.true_and,beq_self_eq_true,Bool.and_true,decide_eq_true_eq];omega
       have hr1:=(charB_iff r.1).1 c1
       have hr2:=(charB_iff r.2).1 c2
       have prev:prevOf s (k+1)=some r.2:=by simp [prevOf,hr]
       have prev':(s.getD (k+1 - 1) default).2=r.2:=by rw [hr];rfl
       by_cases hk0:k=0
       ·subst hk0
        have hp':properFrom (some r.2) (s.drop (0+1))=properB s:=by rw [← hp];simp [prevOf,properFrom,hg]
        simp (disch:=omega) only [go_sem,c3,c4,beq_self_eq_true,Bool.not_true,f7]
        refine ih (0+1) _ _ (by omega) ⟨by omega,?_,?_,?_,?_,?_,fun _=>?_⟩
        ·simp (disch:=omega) only [go_sem,f0]
        ·simp (disch:=omega) only [go_sem,f5]
        ·simp (disch:=omega) only [go_sem,f6]
        ·simp (disch:=omega) only [go_sem];try rfl
        ·rw [prev];exact hp'
        ·rw [prev'];omega
       ·have hk1:(0:Int)<k:=by omega
        have hq':=hq (by omega)
        obtain ⟨q,hqe⟩:∃ q,q=(s.getD (k - 1) default).2:=⟨_,rfl⟩
        rw [← hqe] at hq'
        have ek:(k:Int) - 1=((k - 1:Nat):Int):=by omega
        have hk2:k - 1<s.length:=by omega
        have hpq:prevOf s k=some q:=by simp [prevOf,hk0,hqe]
        rw [hpq] at hp
        by_cases c6:r.1 - q<2
        ·have e:properB s=false:=by rw [← hp];simp [properFrom,hg];omega
         simp (disch:=omega) only [go_sem,c3,c4,beq_self_eq_true,Bool.not_true,hk1,f7,f0,ek,hk2,rgD,← hqe,c6,e]
        ·have hp':properFrom (some r.2) (s.drop (k+1))=properB s:=by rw [← hp];simp [properFrom,hg];omega
         simp (disch:=omega) only [go_sem,c3,c4,beq_self_eq_true,Bool.not_true,hk1,f7,f0,ek,hk2,rgD,← hqe,c6]
         refine ih (k+1) _ _ (by omega) ⟨by omega,?_,?_,?_,?_,?_,fun _=>?_⟩
         ·simp (disch:=omega) only [go_sem,f0]
         ·simp (disch:=omega) only [go_sem,f5]
         ·simp (disch:=omega) only [go_sem,f6]
         ·simp (disch:=omega) only [go_sem]
         ·rw [prev];exact hp'
         ·rw [prev'];omega
      ·have e:=bad (by simp only [rgB];rw [Bool.and_eq_false_iff];exact .inr (by simpa using c4))
       have c4':(decide (r.1<55296) == decide (r.2<55296))=false:=by simpa using c4
       simp (disch:=omega) only [go_sem,c3,c4',Bool.not_false,e]
    ·have e:=bad (by simp only [rgB,c2,Bool.and_false,Bool.false_and])
     simp (disch:=omega) only [go_sem,c2,e]
   ·have e:=bad (by simp only [rgB,c1,Bool.false_and])
    simp (disch:=omega) only [go_sem,c1,e]
  ·have e2:s.drop k=[]:=List.drop_of_length_le (by omega)
   have e:properB s=true:=by rw [← hp,e2];cases prevOf s k <;> rfl
   simp (disch:=omega) only [go_sem,f0,f5,f6,f7,hlt,e]
 ·refine ⟨by omega,?_,?_,?_,?_,?_,by omega⟩
  ·simp (disch:=omega) only [go_sem]
  ·simp (disch:=omega) only [go_sem]
  ·simp (disch:=omega) only [go_sem]
  ·simp (disch:=omega) only [go_sem]
  ·rfl
end Go.Proofs.YtfnddhbiolpmgaaGreatDoor
set_option linter.unusedVariables false
set_option linter.unusedSimpArgs false
set_option maxRecDepth 100000
namespace Go.Proofs.YtfnddhbiolpmgaaGreatDoor
open Go Nv Pat
def partsB (k:Int) (s:List (Int × Int)) (n:Int) (a b:Int):Bool :=
 if k=1 then decide (n=0)
 else if k=2 then decide (n=0) && properB s
 else if k=3 then decide (2≤n)
 else if k=4 then decide (2≤n)
 else decide (n=1) && decide (0≤a) && decide (a≤20) && (decide (b=-1) || (decide (a≤b) && decide (b≤20)))
def kindB (k:Int):Bool:=decide (k=1) || decide (k=2) || decide (k=3) || decide (k=4) || decide (k=5)
def badB (k:Int) (s:List (Int × Int)) (n:Int) (a b:Int):Bool :=
 !partsB k s n a b || (decide (k≠2) && decide (0<(s.length:Int))) || (decide (k≠5) && (decide (a≠0) || decide (b≠0)))
mutual
def chk:Tree→Int
 | .mk k s l a b=>if kindB k then (if badB k s l.length a b then 1 else chkL l) else 9
def chkL:List Tree→Int
 | []=>0
 | x::l=>if chk x=0 then chkL l else chk x
end
mutual
def Thin:Tree→Prop
 | .mk _ s l _ _=>s.length≤1000000∧ThinL l
def ThinL:List Tree→Prop
 | []=>True
 | x::l=>Thin x∧ThinL l
end
theorem thinL_mem:∀ {l:List Tree} {x:Tree},ThinL l→x∈l→Thin x
 | y::l,x,h,hx=>by
  rcases List.mem_cons.1 hx with e | hx
  ·rw [e];exact h.1
  ·exact thinL_mem h.2 hx
def boxF (k:Int) (s:List (Int × Int)) (sub:List Tree) (a b:Int):List AV:=[.d (.int .i64 k),.d (setD s),.d (.list 5 (sub.map nodeD)),.d (.int .i64 a),.d (.int .i64 b)]
theorem check26:∀ n:Tree,n.nodes≤1000000→Thin n→PCall Tryz.prog 44 [nodeA n] (.d (.int .i64 (chk n))):=by
 intro n
 induction n using Tree.ind with
 | h k s sub a b ih =>
  intro hn ht
  have hsub:sub.length≤1000000:=by
   have h1:=length_nodesL sub
   have h2:(Tree.mk k s sub a b).nodes=1+Tree.nodesL sub:=nodes_eq _
   omega
  have hs:s.length≤1000000:=ht.1
  refine fn44.pure noHint (Nat.le_refl _) (by simp only [go_sem,nodeA,nodeF,setD]) (by simp only [go_sem]) ?_
  have c0:chk (.mk k s sub a b)=if kindB k then (if badB k s sub.length a b then 1 else chkL sub) else 9:=by rw [chk]
  refine wW_cut (fun fr σ=>fr 1=.ptr 0 0∧σ=[.box 39 (boxF k s sub a b)]) ?_ ?_
  ·simp (disch:=omega) only [go_sem,nodeA,nodeF,Tree.kind,Tree.set,Tree.sub,Tree.min,Tree.max,boxF]
  rintro fr σ ⟨f1,rfl⟩
  refine wW_cut (fun fr σ=>fr 1=.ptr 0 0∧σ=[.box 39 (boxF k s sub a b)]) ?_ ?_
  ·simp (disch:=omega) only [go_sem,f1]
  rintro fr σ ⟨f1,rfl⟩
  refine wW_cut (fun fr σ=>fr 1=.ptr 0 0∧fr 3=.d (.bool (partsB k s sub.length a b))∧kindB k=true∧σ=[.box 39 (boxF k s sub a b)]) ?_ ?_
  ·by_cases k1:k=1
   ·have e:partsB k s sub.length a b=decide ((sub.length:Int)=0):=by simp only [partsB,if_pos k1]
    have e2:kindB k=true:=by simp [kindB,k1]
    rw [e,e2]
    subst k1
    simp (disch:=omega) only [go_sem,f1,boxF]
   by_cases k2:k=2
   ·have e:partsB k s sub.length a b=(decide ((sub.length:Int)=0) && properB s):=by simp only [partsB,if_neg k1,if_pos k2]
    have e2:kindB k=true:=by simp [kindB,k2]
    rw [e,e2]
    subst k2
    by_cases h0:(sub.length:Int)=0
    ·simp (disch:=omega) only [go_sem,f1,boxF,h0]
     refine (proper43 s hs).at ?_
     simp (disch:=omega) only [go_sem,f1,h0]
    ·simp (disch:=omega) only [go_sem,f1,boxF,h0]
   by_cases k34:k=3∨k=4
   ·have e:partsB k s sub.length a b=decide (2≤(sub.length:Int)):=by
     rcases k34 with h | h
     ·simp only [partsB,if_neg k1,if_neg k2,if_pos h]
     ·simp only [partsB,if_neg k1,if_neg k2,h];rfl
    have e2:kindB k=true:=by rcases k34 with h | h <;> simp [kindB,h]
    rw [e,e2]
    rcases k34 with h | h <;> subst h <;> simp (disch:=omega) only [go_sem,f1,boxF]
   by_cases k5:k=5
   ·have e2:kindB k=true:=by simp [kindB,k5]
    have e:partsB k s sub.length a b=(decide ((sub.length:Int)=1) && decide (0≤a) && decide (a≤20) && (decide (b=-1) || (decide (a≤b) && decide (b≤20)))):=by
     rw [k5];rfl
    rw [e,e2]
    subst k5
    by_cases h1:(sub.length:Int)=1
    ·by_cases h2:0≤a
     ·by_cases h3:a≤20
      ·by_cases h4:b=-1
       ·simp (disch:=omega) only [go_sem,f1,boxF,h1,h2,h3,h4]
       ·by_cases h5:a≤b
        ·simp (disch:=omega) only [go_sem,f1,boxF,h1,h2,h3,h4,h5]
        ·simp (disch:=omega) only [go_sem,f1,boxF,h1,h2,h3,h4,h5]
      ·simp (disch:=omega) only [go_sem,f1,boxF,h1,h2,h3]
     ·simp (disch:=omega) only [go_sem,f1,boxF,h1,h2]
    ·simp (disch:=omega) only [go_sem,f1,boxF,h1]
   ·have k3:¬ k=3:=fun h=>k34 (.inl h)
    have k4:¬ k=4:=fun h=>k34 (.inr h)
    have e2:kindB k=false:=by simp [kindB,k1,k2,k3,k4,k5]
    have e:chk (.mk k s sub a b)=9:=by rw [c0,e2];rfl
    simp (disch:=omega) only [go_sem,f1,boxF,k1,k2,k3,k4,k5,e]
  rintro fr σ ⟨f1,f3,hkB,rfl⟩
  rw [if_pos hkB] at c0
  obtain ⟨z,hz⟩:∃ z,z=badB k s sub.length a b:=⟨_,rfl⟩
  rw [← hz] at c0
  refine wW_cut (fun fr σ=>fr 1=.ptr 0 0∧z=false∧σ=[.box 39 (boxF k s sub a b)]) ?_ ?_
  ·have one:z=true→chk (.mk k s sub a b)=1:=fun h=>by rw [c0,if_pos h]
   obtain ⟨q,hq⟩:∃ q,q=partsB k s sub.length a b:=⟨_,rfl⟩
   rw [← hq] at f3
   unfold badB at hz
   rw [← hq] at hz
   cases q
   ·have e:=one (by simp [hz])
    simp (disch:=omega) only [go_sem,f1,f3,e]
   by_cases k2:k=2
   ·have k5:¬ k=5:=by omega
    by_cases ha:a=0
    ·by_cases hb:b=0
     ·have e:z=false:=by simp [hz,k2,ha,hb]
      simp (disch:=omega) only [go_sem,f1,f3,boxF,k2,ha,hb,e]
     ·have e:=one (by simp [hz,k5,hb])
      clear hz
      simp (disch:=omega) only [go_sem,f1,f3,boxF,k2,ha,hb]
      rw [← k2,← ha,e]
    ·have e:=one (by simp [hz,k5,ha])
     simp (disch:=omega) only [go_sem,f1,f3,boxF,k2,ha]
     rw [← k2,e]
   ·by_cases hl:(0:Int)<s.length
    ·have e:=one (by rw [hz,decide_eq_true hl];simp [k2])
     simp (disch:=omega) only [go_sem,f1,f3,boxF,k2,hl,setD,e]
    ·rw [decide_eq_false hl] at hz
     by_cases k5:k=5
     ·have e:z=false:=by simp [hz,k5]
      simp (disch:=omega) only [go_sem,f1,f3,boxF,k2,hl,setD,k5,e]
     ·by_cases ha:a=0
      ·by_cases hb:b=0
       ·have e:z=false:=by simp [hz,ha,hb]
        simp (disch:=omega) only [go_sem,f1,f3,boxF,k2,hl,setD,k5,ha,hb,e]
       ·have e:=one (by simp [hz,k5,hb])
        simp (disch:=omega) only [go_sem,f1,f3,boxF,k2,hl,setD,k5,ha,hb]
        rw [← ha,e]
      ·have e:=one (by simp [hz,k5,ha])
       simp (disch:=omega) only [go_sem,f1,f3,boxF,k2,hl,setD,k5,ha,e]
  rintro fr σ ⟨f1,hbad,rfl⟩
  rw [hbad] at c0
  have c1:chk (.mk k s sub a b)=chkL sub:=c0
  have hnl:∀ x,x∈sub→x.nodes≤1000000:=fun x hx=>by
   have h1:=nodes_mem sub x hx
   have h2:(Tree.mk k s sub a b).nodes=1+Tree.nodesL sub:=nodes_eq _
   omega
  simp (disch:=omega) only [go_sem,f1,boxF]
  refine wL_ind (fun (j:Nat) fr σ=>j≤sub.length∧fr 95=.d (.list 5 (sub.map nodeD))∧fr 96=.d (.int .i64 sub.length)∧fr 97=.d (.int .i64 j)∧chkL (sub.drop j)=chk (.mk k s sub a b)) (fun j=>sub.length - j) ?_ 0 ?_
  ·rintro j fr σ ⟨hj,f95,f96,f97,hc⟩ ih2
   by_cases hlt:j<sub.length
   ·obtain ⟨x,hx⟩:∃ x,x=sub.getD j default:=⟨_,rfl⟩
    have hxm:x∈sub:=by rw [hx];exact getD_mem sub j hlt
    have hd:sub.drop j=x::sub.drop (j+1):=by rw [hx];exact drop_getD sub j hlt
    rw [hd] at hc
    simp (disch:=omega) only [go_sem,f95,f96,f97,hlt,nodeD_eq,nodeC,← hx]
    refine (ih x hxm (hnl x hxm) (thinL_mem ht.2 hxm)).at ?_
    by_cases h0:chk x=0
    ·have hc':chkL (sub.drop (j+1))=chk (.mk k s sub a b):=by rw [← hc,chkL,if_pos h0]
     simp (disch:=omega) only [go_sem,h0,f97]
     refine ih2 (j+1) _ _ (by omega) ⟨by omega,?_,?_,?_,hc'⟩
     ·simp (disch:=omega) only [go_sem,f95]
     ·simp (disch:=omega) only [go_sem,f96]
     ·simp (disch:=omega) only [go_sem]
    ·have e:chk (.mk k s sub a b)=chk x:=by rw [← hc,chkL,if_neg h0]
     simp (disch:=omega) only [go_sem,h0,e]
   ·rw [List.drop_of_length_le (by omega)] at hc
    simp (disch:=omega) only [go_sem,f95,f96,f97,hlt]
    rw [← hc,chkL]
  ·refine ⟨by omega,?_,?_,?_,?_⟩
   ·simp (disch:=omega) only [go_sem]
   ·simp (disch:=omega) only [go_sem]
   ·simp (disch:=omega) only [go_sem]
   ·rw [c1];rfl
end Go.Proofs.YtfnddhbiolpmgaaGreatDoor
