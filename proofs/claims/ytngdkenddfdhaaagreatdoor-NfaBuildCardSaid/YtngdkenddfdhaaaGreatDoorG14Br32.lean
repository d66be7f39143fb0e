/- The prepared code of further functions. Written by a program of mine (gen.py) out of what the loaded dump prints. -/
import Derived.Test.YtngdkenddfdhaaaGreatDoorG09Base32
set_option linter.unusedVariables false
set_option maxRecDepth 100000
namespace Go.Proofs.YtngdkenddfdhaaaGreatDoor
open Go Nv
theorem fn10:FnIs Tryz.prog 10 1 [Go.ResultVar.cell 2 31,Go.ResultVar.tmp 3] (.seq (.region [⟨some 1,Go.Op.box 25 (Go.Operand.tmp 0),0,none⟩,
   ⟨some 2,Go.Op.alloc 31,0,none⟩,
   ⟨some 3,Go.Op.assign (Go.Operand.const (Go.Value.int Go.IntKind.i64 0)),32,none⟩])
  (.seq (.region [⟨some 8,Go.Op.load 25 (Go.Operand.tmp 1),25,none⟩,
   ⟨some 9,Go.Op.call { callee:=Go.Callee.value (Go.Operand.func 12),args:=#[Go.Operand.tmp 8],argTypes:=#[25] },3,none⟩,
   ⟨some 4,Go.Op.assign (Go.Operand.tmp 9),3,none⟩])
  (.seq (.seq (.region [⟨some 10,Go.Op.move (Go.Operand.tmp 4),3,none⟩,
   ⟨some 11,Go.Op.binOp Go.BinOp.neq 3 (Go.Operand.tmp 10) (Go.Operand.const (Go.Value.int Go.IntKind.i64 0)) 3,4,none⟩])
  (.cond (Go.Operand.tmp 11)
   (.seq (.region [⟨some 12,Go.Op.build 31 #[],31,none⟩,
    ⟨some 13,Go.Op.move (Go.Operand.tmp 4),3,none⟩,
    ⟨none,Go.Op.store 31 (Go.Operand.tmp 2) (Go.Operand.tmp 12),0,none⟩,
    ⟨some 3,Go.Op.assign (Go.Operand.tmp 13),32,none⟩])
   .ret)
   .skip))
  (.seq (.seq (.region [⟨some 14,Go.Op.load 25 (Go.Operand.tmp 1),25,none⟩,
   ⟨some 15,Go.Op.call { callee:=Go.Callee.value (Go.Operand.func 20),args:=#[Go.Operand.tmp 14],argTypes:=#[25] },3,none⟩,
   ⟨some 16,Go.Op.binOp Go.BinOp.gtr 3 (Go.Operand.tmp 15) (Go.Operand.const (Go.Value.int Go.IntKind.i64 3000)) 3,4,none⟩])
  (.cond (Go.Operand.tmp 16)
   (.seq (.region [⟨some 17,Go.Op.build 31 #[],31,none⟩,
    ⟨none,Go.Op.store 31 (Go.Operand.tmp 2) (Go.Operand.tmp 17),0,none⟩,
    ⟨some 3,Go.Op.assign (Go.Operand.const (Go.Value.int Go.IntKind.i64 5)),32,none⟩])
   .ret)
   .skip))
  (.seq (.region [⟨some 19,Go.Op.build 31 #[],31,none⟩,
   ⟨some 20,Go.Op.load 25 (Go.Operand.tmp 1),25,none⟩,
   ⟨some 21,Go.Op.call { callee:=Go.Callee.value (Go.Operand.func 27),args:=#[Go.Operand.tmp 19,Go.Operand.tmp 20],argTypes:=#[31,25] },53,none⟩,
   ⟨some 18,Go.Op.move (Go.Operand.tmp 21),53,none⟩,
   ⟨some 22,Go.Op.extract (Go.Operand.tmp 18) 0,31,none⟩,
   ⟨some 23,Go.Op.extract (Go.Operand.tmp 18) 1,3,none⟩,
   ⟨some 24,Go.Op.extract (Go.Operand.tmp 18) 2,3,none⟩,
   ⟨some 5,Go.Op.alloc 31,0,none⟩,
   ⟨none,Go.Op.store 31 (Go.Operand.tmp 5) (Go.Operand.tmp 22),0,none⟩,
   ⟨some 6,Go.Op.assign (Go.Operand.tmp 23),3,none⟩,
   ⟨some 7,Go.Op.assign (Go.Operand.tmp 24),3,none⟩])
  (.seq (.region [⟨some 25,Go.Op.move (Go.Operand.tmp 6),3,none⟩,
   ⟨some 26,Go.Op.move (Go.Operand.tmp 7),3,none⟩,
   ⟨some 27,Go.Op.fieldAddr 31 (Go.Operand.tmp 5) 0,0,none⟩,
   ⟨none,Go.Op.store 3 (Go.Operand.tmp 27) (Go.Operand.tmp 25),0,none⟩,
   ⟨some 28,Go.Op.fieldAddr 31 (Go.Operand.tmp 5) 1,0,none⟩,
   ⟨none,Go.Op.store 3 (Go.Operand.tmp 28) (Go.Operand.tmp 26),0,none⟩])
  (.seq (.region [⟨some 29,Go.Op.load 31 (Go.Operand.tmp 5),31,none⟩,
   ⟨none,Go.Op.store 31 (Go.Operand.tmp 2) (Go.Operand.tmp 29),0,none⟩,
   ⟨some 3,Go.Op.assign (Go.Operand.const (Go.Value.int Go.IntKind.i64 0)),32,none⟩])
  .ret))))))) :=
 ⟨foll,Tryz.f10,Tryz.func10,by kernel_rfl,by kernel_rfl,by kernel_rfl,by rw [Tryz.ntmps10];decide⟩
theorem fn11:FnIs Tryz.prog 11 2 [Go.ResultVar.tmp 4] (.seq (.region [⟨some 2,Go.Op.box 31 (Go.Operand.tmp 0),0,none⟩,
   ⟨some 3,Go.Op.box 31 (Go.Operand.tmp 1),0,none⟩,
   ⟨some 4,Go.Op.assign (Go.Operand.const (Go.Value.bool false)),4,none⟩])
  (.seq (.seq (.region [⟨some 8,Go.Op.fieldAddr 31 (Go.Operand.tmp 2) 0,0,none⟩,
   ⟨some 9,Go.Op.load 3 (Go.Operand.tmp 8),3,none⟩,
   ⟨some 10,Go.Op.fieldAddr 31 (Go.Operand.tmp 3) 0,0,none⟩,
   ⟨some 11,Go.Op.load 3 (Go.Operand.tmp 10),3,none⟩,
   ⟨some 12,Go.Op.binOp Go.BinOp.neq 3 (Go.Operand.tmp 9) (Go.Operand.tmp 11) 3,4,none⟩,
   ⟨some 13,Go.Op.move (Go.Operand.tmp 12),4,none⟩,
   ⟨some 14,Go.Op.fieldAddr 31 (Go.Operand.tmp 2) 1,0,(some (13,false))⟩,
   ⟨some 15,Go.Op.load 3 (Go.Operand.tmp 14),3,(some (13,false))⟩,
   ⟨some 16,Go.Op.fieldAddr 31 (Go.Operand.tmp 3) 1,0,(some (13,false))⟩,
   ⟨some 17,Go.Op.load 3 (Go.Operand.tmp 16),3,(some (13,false))⟩,
   ⟨some 18,Go.Op.binOp Go.BinOp.neq 3 (Go.Operand.tmp 15) (Go.Operand.tmp 17) 3,4,(some (13,false))⟩,
   ⟨some 19,Go.Op.pick (Go.Operand.tmp 13) (Go.Operand.const (Go.Value.bool true)) (Go.Operand.tmp 18),4,none⟩,
   ⟨some 20,Go.Op.move (Go.Operand.tmp 19),4,none⟩,
   ⟨some 21,Go.Op.fieldAddr 31 (Go.Operand.tmp 2) 2,0,(some (20,false))⟩,
   ⟨some 22,Go.Op.load 28 (Go.Operand.tmp 21),28,(some (20,false))⟩,
   ⟨some 23,Go.Op.call { callee:=Go.Callee.builtin Go.Builtin.len,args:=#[Go.Operand.tmp 22],argTypes:=#[28] },3,(some (20,false))⟩,
   ⟨some 24,Go.Op.fieldAddr 31 (Go.Operand.tmp 3) 2,0,(some (20,false))⟩,
   ⟨some 25,Go.Op.load 28 (Go.Operand.tmp 24),28,(some (20,false))⟩,
   ⟨some 26,Go.Op.call { callee:=Go.Callee.builtin Go.Builtin.len,args:=#[Go.Operand.tmp 25],argTypes:=#[28] },3,(some (20,false))⟩,
   ⟨some 27,Go.Op.binOp Go.BinOp.neq 3 (Go.Operand.tmp 23) (Go.Operand.tmp 26) 3,4,(some (20,false))⟩,
   ⟨some 28,Go.Op.pick (Go.Operand.tmp 20) (Go.Operand.const (Go.Value.bool true)) (Go.Operand.tmp 27),4,none⟩,
   ⟨some 29,Go.Op.move (Go.Operand.tmp 28),4,none⟩,
   ⟨some 30,Go.Op.fieldAddr 31 (Go.Operand.tmp 2) 3,0,(some (29,false))⟩,
   ⟨some 31,Go.Op.load 29 (Go.Operand.tmp 30),29,(some (29,false))⟩,
   ⟨some 32,Go.Op.call { callee:=Go.Callee.builtin Go.Builtin.len,args:=#[Go.Operand.tmp 31],argTypes:=#[29] },3,(some (29,false))⟩,
   ⟨some 33,Go.Op.fieldAddr 31 (Go.Operand.tmp 3) 3,0,(some (29,false))⟩,
   ⟨some 34,Go.Op.load 29 (Go.Operand.tmp 33),29,(some (29,false))⟩,
   ⟨some 35,Go.Op.call { callee:=Go.Callee.builtin Go.Builtin.len,args:=#[Go.Operand.tmp 34],argTypes:=#[29] },3,(some (29,false))⟩,
   ⟨some 36,Go.Op.binOp Go.BinOp.neq 3 (Go.Operand.tmp 32) (Go.Operand.tmp 35) 3,4,(some (29,false))⟩,
   ⟨some 37,Go.Op.pick (Go.Operand.tmp 29) (Go.Operand.const (Go.Value.bool true)) (Go.Operand.tmp 36),4,none⟩])
  (.cond (Go.Operand.tmp 37)
   (.seq (.region [⟨some 4,Go.Op.assign (Go.Operand.const (Go.Value.bool false)),4,none⟩])
   .ret)
   .skip))
  (.seq (.seq (.region [⟨some 5,Go.Op.assign (Go.Operand.const (Go.Value.int Go.IntKind.i64 0)),3,none⟩])
  (.block 0
   (.loop
    (.seq (.seq (.region [⟨some 38,Go.Op.move (Go.Operand.tmp 5),3,none⟩,
     ⟨some 39,Go.Op.fieldAddr 31 (Go.Operand.tmp 2) 2,0,none⟩,
     ⟨some 40,Go.Op.load 28 (Go.Operand.tmp 39),28,none⟩,
     ⟨some 41,Go.Op.call { callee:=Go.Callee.builtin Go.Builtin.len,args:=#[Go.Operand.tmp 40],argTypes:=#[28] },3,none⟩,
     ⟨some 42,Go.Op.binOp Go.BinOp.lss 3 (Go.Operand.tmp 38) (Go.Operand.tmp 41) 3,4,none⟩])
    (.cond (Go.Operand.tmp 42)
     .skip
     (.exit 0)))
    (.seq (.block 1
     (.seq (.seq (.draw true [⟨⟨some 45,Go.Op.fieldAddr 31 (Go.Operand.tmp 2) 2,0,none⟩,false,false,false⟩,
      ⟨⟨some 46,Go.Op.load 28 (Go.Operand.tmp 45),28,none⟩,false,false,false⟩,
      ⟨⟨some 47,Go.Op.move (Go.Operand.tmp 5),3,none⟩,false,false,false⟩,
      ⟨⟨some 48,Go.Op.indexAddr 28 (Go.Operand.tmp 46) (Go.Operand.tmp 47),0,none⟩,false,false,false⟩,
      ⟨⟨some 49,Go.Op.load 55 (Go.Operand.tmp 48),55,none⟩,false,false,false⟩,
      ⟨⟨some 50,Go.Op.call { callee:=Go.Callee.builtin Go.Builtin.len,args:=#[Go.Operand.tmp 49],argTypes:=#[55] },3,none⟩,false,false,false⟩,
      ⟨⟨some 51,Go.Op.fieldAddr 31 (Go.Operand.tmp 3) 2,0,none⟩,false,false,false⟩,
      ⟨⟨some 52,Go.Op.load 28 (Go.Operand.tmp 51),28,none⟩,false,false,false⟩,
      ⟨⟨some 53,Go.Op.move (Go.Operand.tmp 5),3,none⟩,false,false,false⟩,
      ⟨⟨some 54,Go.Op.indexAddr 28 (Go.Operand.tmp 52) (Go.Operand.tmp 53),0,none⟩,false,false,false⟩,
      ⟨⟨some 55,Go.Op.load 55 (Go.Operand.tmp 54),55,none⟩,false,false,false⟩,
      ⟨⟨some 56,Go.Op.call { callee:=Go.Callee.builtin Go.Builtin.len,args:=#[Go.Operand.tmp 55],argTypes:=#[55] },3,none⟩,false,false,false⟩,
      ⟨⟨some 57,Go.Op.binOp Go.BinOp.neq 3 (Go.Operand.tmp 50) (Go.Operand.tmp 56) 3,4,none⟩,false,false,false⟩] [[],[0],[],[0,1,2],[0,1,2,3],[0,1,2,3,4],[],[6],[],[6,7,8],[6,7,8,9],[6,7,8,9,10],[0,1,2,3,4,5,6,7,8,9,10,11]])
     (.cond (Go.Operand.tmp 57)
      (.seq (.region [⟨some 4,Go.Op.assign (Go.Operand.const (Go.Value.bool false)),4,none⟩])
      .ret)
      .skip))
     (.seq (.region [⟨some 6,Go.Op.assign (Go.Operand.const (Go.Value.int Go.IntKind.i64 0)),3,none⟩])
     (.block 2
      (.loop
       (.seq (.seq (.region [⟨some 58,Go.Op.move (Go.Operand.tmp 6),3,none⟩,
        ⟨some 59,Go.Op.fieldAddr 31 (Go.Operand.tmp 2) 2,0,none⟩,
        ⟨some 60,Go.Op.load 28 (Go.Operand.tmp 59),28,none⟩,
        ⟨some 61,Go.Op.move (Go.Operand.tmp 5),3,none⟩,
        ⟨some 62,Go.Op.indexAddr 28 (Go.Operand.tmp 60) (Go.Operand.tmp 61),0,none⟩,
        ⟨some 63,Go.Op.load 55 (Go.Operand.tmp 62),55,none⟩,
        ⟨some 64,Go.Op.call { callee:=Go.Callee.builtin Go.Builtin.len,args:=#[Go.Operand.tmp 63],argTypes:=#[55] },3,none⟩,
        ⟨some 65,Go.Op.binOp Go.BinOp.lss 3 (Go.Operand.tmp 58) (Go.Operand.tmp 64) 3,4,none⟩])
       (.cond (Go.Operand.tmp 65)
        .skip
        (.exit 2)))
       (.seq (.block 3
        (.seq (.draw true [⟨⟨some 68,Go.Op.fieldAddr 31 (Go.Operand.tmp 2) 2,0,none⟩,false,false,false⟩,
         ⟨⟨some 69,Go.Op.load 28 (Go.Operand.tmp 68),28,none⟩,false,false,false⟩,
         ⟨⟨some 70,Go.Op.move (Go.Operand.tmp 5),3,none⟩,false,false,false⟩,
         ⟨⟨some 71,Go.Op.indexAddr 28 (Go.Operand.tmp 69) (Go.Operand.tmp 70),0,none⟩,false,false,false⟩,
         ⟨⟨some 72,Go.Op.load 55 (Go.Operand.tmp 71),55,none⟩,false,false,false⟩,
         ⟨⟨some 73,Go.Op.move (Go.Operand.tmp 6),3,none⟩,false,false,false⟩,
         ⟨⟨some 74,Go.Op.indexAddr 55 (Go.Operand.tmp 72) (Go.Operand.tmp 73),0,none⟩,false,false,false⟩,
         ⟨⟨some 75,Go.Op.load 59 (Go.Operand.tmp 74),59,none⟩,false,false,false⟩,
         ⟨⟨some 76,Go.Op.fieldAddr 31 (Go.Operand.tmp 3) 2,0,none⟩,false,false,false⟩,
         ⟨⟨some 77,Go.Op.load 28 (Go.Operand.tmp 76),28,none⟩,false,false,false⟩,
         ⟨⟨some 78,Go.Op.move (Go.Operand.tmp 5),3,none⟩,false,false,false⟩,
         ⟨⟨some 79,Go.Op.indexAddr 28 (Go.Operand.tmp 77) (Go.Operand.tmp 78),0,none⟩,false,false,false⟩,
         ⟨⟨some 80,Go.Op.load 55 (Go.Operand.tmp 79),55,none⟩,false,false,false⟩,
         ⟨⟨some 81,Go.Op.move (Go.Operand.tmp 6),3,none⟩,false,false,false⟩,
         ⟨⟨some 82,Go.Op.indexAddr 55 (Go.Operand.tmp 80) (Go.Operand.tmp 81),0,none⟩,false,false,false⟩,
         ⟨⟨some 83,Go.Op.load 59 (Go.Operand.tmp 82),59,none⟩,false,false,false⟩,
         ⟨⟨some 84,Go.Op.binOp Go.BinOp.neq 59 (Go.Operand.tmp 75) (Go.Operand.tmp 83) 59,4,none⟩,false,false,false⟩] [[],[0],[],[0,1,2],[0,1,2,3],[],[0,1,2,3,4,5],[0,1,2,3,4,5,6],[],[8],[],[8,9,10],[8,9,10,11],[],[8,9,10,11,12,13],[8,9,10,11,12,13,14],[0,1,2,3,4,5,6,7,8,9,10,11,12,13,14,15]])
        (.cond (Go.Operand.tmp 84)
         (.seq (.region [⟨some 4,Go.Op.assign (Go.Operand.const (Go.Value.bool false)),4,none⟩])
         .ret)
         .skip)))
       (.region [⟨some 66,Go.Op.move (Go.Operand.tmp 6),3,none⟩,
        ⟨some 67,Go.Op.binOp Go.BinOp.add 3 (Go.Operand.tmp 66) (Go.Operand.const (Go.Value.int Go.IntKind.i64 1)) 3,3,none⟩,
        ⟨some 6,Go.Op.assign (Go.Operand.tmp 67),3,none⟩]))))))))
    (.region [⟨some 43,Go.Op.move (Go.Operand.tmp 5),3,none⟩,
     ⟨some 44,Go.Op.binOp Go.BinOp.add 3 (Go.Operand.tmp 43) (Go.Operand.const (Go.Value.int Go.IntKind.i64 1)) 3,3,none⟩,
     ⟨some 5,Go.Op.assign (Go.Operand.tmp 44),3,none⟩]))))))
  (.seq (.seq (.region [⟨some 7,Go.Op.assign (Go.Operand.const (Go.Value.int Go.IntKind.i64 0)),3,none⟩])
  (.block 4
   (.loop
    (.seq (.seq (.region [⟨some 85,Go.Op.move (Go.Operand.tmp 7),3,none⟩,
     ⟨some 86,Go.Op.fieldAddr 31 (Go.Operand.tmp 2) 3,0,none⟩,
     ⟨some 87,Go.Op.load 29 (Go.Operand.tmp 86),29,none⟩,
     ⟨some 88,Go.Op.call { callee:=Go.Callee.builtin Go.Builtin.len,args:=#[Go.Operand.tmp 87],argTypes:=#[29] },3,none⟩,
     ⟨some 89,Go.Op.binOp Go.BinOp.lss 3 (Go.Operand.tmp 85) (Go.Operand.tmp 88) 3,4,none⟩])
    (.cond (Go.Operand.tmp 89)
     .skip
     (.exit 4)))
    (.seq (.block 5
     (.seq (.draw true [⟨⟨some 92,Go.Op.fieldAddr 31 (Go.Operand.tmp 2) 3,0,none⟩,false,false,false⟩,
      ⟨⟨some 93,Go.Op.load 29 (Go.Operand.tmp 92),29,none⟩,false,false,false⟩,
      ⟨⟨some 94,Go.Op.move (Go.Operand.tmp 7),3,none⟩,false,false,false⟩,
      ⟨⟨some 95,Go.Op.indexAddr 29 (Go.Operand.tmp 93) (Go.Operand.tmp 94),0,none⟩,false,false,false⟩,
      ⟨⟨some 96,Go.Op.load 51 (Go.Operand.tmp 95),51,none⟩,false,false,false⟩,
      ⟨⟨some 97,Go.Op.fieldAddr 31 (Go.Operand.tmp 3) 3,0,none⟩,false,false,false⟩,
      ⟨⟨some 98,Go.Op.load 29 (Go.Operand.tmp 97),29,none⟩,false,false,false⟩,
      ⟨⟨some 99,Go.Op.move (Go.Operand.tmp 7),3,none⟩,false,false,false⟩,
      ⟨⟨some 100,Go.Op.indexAddr 29 (Go.Operand.tmp 98) (Go.Operand.tmp 99),0,none⟩,false,false,false⟩,
      ⟨⟨some 101,Go.Op.load 51 (Go.Operand.tmp 100),51,none⟩,false,false,false⟩,
      ⟨⟨some 102,Go.Op.call { callee:=Go.Callee.value (Go.Operand.func 28),args:=#[Go.Operand.tmp 96,Go.Operand.tmp 101],argTypes:=#[51,51] },4,none⟩,false,false,false⟩,
      ⟨⟨some 103,Go.Op.unOp Go.UnOp.not 4 (Go.Operand.tmp 102),4,none⟩,false,false,false⟩] [[],[0],[],[0,1,2],[0,1,2,3],[],[5],[],[5,6,7],[5,6,7,8],[0,1,2,3,4,5,6,7,8,9],[0,1,2,3,4,5,6,7,8,9,10]])
     (.cond (Go.Operand.tmp 103)
      (.seq (.region [⟨some 4,Go.Op.assign (Go.Operand.const (Go.Value.bool false)),4,none⟩])
      .ret)
      .skip)))
    (.region [⟨some 90,Go.Op.move (Go.Operand.tmp 7),3,none⟩,
     ⟨some 91,Go.Op.binOp Go.BinOp.add 3 (Go.Operand.tmp 90) (Go.Operand.const (Go.Value.int Go.IntKind.i64 1)) 3,3,none⟩,
     ⟨some 7,Go.Op.assign (Go.Operand.tmp 91),3,none⟩]))))))
  (.seq (.region [⟨some 4,Go.Op.assign (Go.Operand.const (Go.Value.bool true)),4,none⟩])
  .ret))))) :=
 ⟨foll,Tryz.f11,Tryz.func11,by kernel_rfl,by kernel_rfl,by kernel_rfl,by rw [Tryz.ntmps11];decide⟩
theorem fn20:FnIs Tryz.prog 20 1 [Go.ResultVar.tmp 2] (.seq (.region [⟨some 1,Go.Op.box 25 (Go.Operand.tmp 0),0,none⟩,
   ⟨some 2,Go.Op.assign (Go.Operand.const (Go.Value.int Go.IntKind.i64 0)),3,none⟩])
  (.seq (.region [⟨some 3,Go.Op.assign (Go.Operand.const (Go.Value.int Go.IntKind.i64 2)),3,none⟩])
  (.seq (.seq (.region [⟨some 4,Go.Op.assign (Go.Operand.const (Go.Value.int Go.IntKind.i64 0)),3,none⟩])
  (.block 0
   (.loop
    (.seq (.seq (.region [⟨some 6,Go.Op.move (Go.Operand.tmp 4),3,none⟩,
     ⟨some 7,Go.Op.fieldAddr 25 (Go.Operand.tmp 1) 2,0,none⟩,
     ⟨some 8,Go.Op.load 23 (Go.Operand.tmp 7),23,none⟩,
     ⟨some 9,Go.Op.call { callee:=Go.Callee.builtin Go.Builtin.len,args:=#[Go.Operand.tmp 8],argTypes:=#[23] },3,none⟩,
     ⟨some 10,Go.Op.binOp Go.BinOp.lss 3 (Go.Operand.tmp 6) (Go.Operand.tmp 9) 3,4,none⟩])
    (.cond (Go.Operand.tmp 10)
     .skip
     (.exit 0)))
    (.seq (.block 1
     (.seq (.region [⟨some 5,Go.Op.assign (Go.Operand.const (Go.Value.int Go.IntKind.i64 1)),3,none⟩])
     (.seq (.seq (.region [⟨some 13,Go.Op.fieldAddr 25 (Go.Operand.tmp 1) 0,0,none⟩,
      ⟨some 14,Go.Op.load 3 (Go.Operand.tmp 13),3,none⟩,
      ⟨some 15,Go.Op.binOp Go.BinOp.eql 3 (Go.Operand.tmp 14) (Go.Operand.const (Go.Value.int Go.IntKind.i64 5)) 3,4,none⟩])
     (.cond (Go.Operand.tmp 15)
      (.region [⟨some 16,Go.Op.load 25 (Go.Operand.tmp 1),25,none⟩,
       ⟨some 17,Go.Op.call { callee:=Go.Callee.value (Go.Operand.func 41),args:=#[Go.Operand.tmp 16],argTypes:=#[25] },3,none⟩,
       ⟨some 5,Go.Op.assign (Go.Operand.tmp 17),3,none⟩])
      .skip))
     (.region [⟨some 18,Go.Op.move (Go.Operand.tmp 3),3,none⟩,
      ⟨some 19,Go.Op.move (Go.Operand.tmp 5),3,none⟩,
      ⟨some 20,Go.Op.fieldAddr 25 (Go.Operand.tmp 1) 2,0,none⟩,
      ⟨some 21,Go.Op.load 23 (Go.Operand.tmp 20),23,none⟩,
      ⟨some 22,Go.Op.move (Go.Operand.tmp 4),3,none⟩,
      ⟨some 23,Go.Op.indexAddr 23 (Go.Operand.tmp 21) (Go.Operand.tmp 22),0,none⟩,
      ⟨some 24,Go.Op.load 25 (Go.Operand.tmp 23),25,none⟩,
      ⟨some 25,Go.Op.call { callee:=Go.Callee.value (Go.Operand.func 20),args:=#[Go.Operand.tmp 24],argTypes:=#[25] },3,none⟩,
      ⟨some 26,Go.Op.binOp Go.BinOp.mul 3 (Go.Operand.tmp 19) (Go.Operand.tmp 25) 3,3,none⟩,
      ⟨some 27,Go.Op.binOp Go.BinOp.add 3 (Go.Operand.tmp 18) (Go.Operand.tmp 26) 3,3,none⟩,
      ⟨some 28,Go.Op.call { callee:=Go.Callee.builtin Go.Builtin.min,args:=#[Go.Operand.tmp 27,Go.Operand.const (Go.Value.int Go.IntKind.i64 10000)],argTypes:=#[3,3] },3,none⟩,
      ⟨some 3,Go.Op.assign (Go.Operand.tmp 28),3,none⟩]))))
    (.region [⟨some 11,Go.Op.move (Go.Operand.tmp 4),3,none⟩,
     ⟨some 12,Go.Op.binOp Go.BinOp.add 3 (Go.Operand.tmp 11) (Go.Operand.const (Go.Value.int Go.IntKind.i64 1)) 3,3,none⟩,
     ⟨some 4,Go.Op.assign (Go.Operand.tmp 12),3,none⟩]))))))
  (.seq (.region [⟨some 29,Go.Op.move (Go.Operand.tmp 3),3,none⟩,
   ⟨some 2,Go.Op.assign (Go.Operand.tmp 29),3,none⟩])
  .ret)))) :=
 ⟨foll,Tryz.f20,Tryz.func20,by kernel_rfl,by kernel_rfl,by kernel_rfl,by rw [Tryz.ntmps20];decide⟩
theorem fn27:FnIs Tryz.prog 27 2 [Go.ResultVar.cell 4 31,Go.ResultVar.tmp 5,Go.ResultVar.tmp 6] (.seq (.region [⟨some 2,Go.Op.box 31 (Go.Operand.tmp 0),0,none⟩,
   ⟨some 3,Go.Op.box 25 (Go.Operand.tmp 1),0,none⟩,
   ⟨some 4,Go.Op.alloc 31,0,none⟩,
   ⟨some 5,Go.Op.assign (Go.Operand.const (Go.Value.int Go.IntKind.i64 0)),3,none⟩,
   ⟨some 6,Go.Op.assign (Go.Operand.const (Go.Value.int Go.IntKind.i64 0)),3,none⟩])
  (.seq (.region [⟨some 24,Go.Op.load 31 (Go.Operand.tmp 2),31,none⟩,
   ⟨some 25,Go.Op.call { callee:=Go.Callee.value (Go.Operand.func 53),args:=#[Go.Operand.tmp 24],argTypes:=#[31] },87,none⟩,
   ⟨some 23,Go.Op.move (Go.Operand.tmp 25),87,none⟩,
   ⟨some 26,Go.Op.extract (Go.Operand.tmp 23) 0,31,none⟩,
   ⟨some 27,Go.Op.extract (Go.Operand.tmp 23) 1,3,none⟩,
   ⟨none,Go.Op.store 31 (Go.Operand.tmp 2) (Go.Operand.tmp 26),0,none⟩,
   ⟨some 7,Go.Op.assign (Go.Operand.tmp 27),3,none⟩])
  (.seq (.region [⟨some 28,Go.Op.buildSlice 51 0 #[],51,none⟩,
   ⟨some 29,Go.Op.buildSlice 51 0 #[],51,none⟩,
   ⟨some 8,Go.Op.assign (Go.Operand.tmp 28),51,none⟩,
   ⟨some 9,Go.Op.assign (Go.Operand.tmp 29),51,none⟩])
  (.seq (.seq (.region [⟨some 10,Go.Op.assign (Go.Operand.const (Go.Value.int Go.IntKind.i64 0)),3,none⟩])
  (.block 0
   (.loop
    (.seq (.seq (.region [⟨some 30,Go.Op.move (Go.Operand.tmp 10),3,none⟩,
     ⟨some 31,Go.Op.fieldAddr 25 (Go.Operand.tmp 3) 2,0,none⟩,
     ⟨some 32,Go.Op.load 23 (Go.Operand.tmp 31),23,none⟩,
     ⟨some 33,Go.Op.call { callee:=Go.Callee.builtin Go.Builtin.len,args:=#[Go.Operand.tmp 32],argTypes:=#[23] },3,none⟩,
     ⟨some 34,Go.Op.binOp Go.BinOp.lss 3 (Go.Operand.tmp 30) (Go.Operand.tmp 33) 3,4,none⟩])
    (.cond (Go.Operand.tmp 34)
     .skip
     (.exit 0)))
    (.seq (.block 1
     (.seq (.region [⟨some 11,Go.Op.assign (Go.Operand.const (Go.Value.int Go.IntKind.i64 1)),3,none⟩])
     (.seq (.seq (.region [⟨some 37,Go.Op.fieldAddr 25 (Go.Operand.tmp 3) 0,0,none⟩,
      ⟨some 38,Go.Op.load 3 (Go.Operand.tmp 37),3,none⟩,
      ⟨some 39,Go.Op.binOp Go.BinOp.eql 3 (Go.Operand.tmp 38) (Go.Operand.const (Go.Value.int Go.IntKind.i64 5)) 3,4,none⟩])
     (.cond (Go.Operand.tmp 39)
      (.region [⟨some 40,Go.Op.load 25 (Go.Operand.tmp 3),25,none⟩,
       ⟨some 41,Go.Op.call { callee:=Go.Callee.value (Go.Operand.func 41),args:=#[Go.Operand.tmp 40],argTypes:=#[25] },3,none⟩,
       ⟨some 11,Go.Op.assign (Go.Operand.tmp 41),3,none⟩])
      .skip))
     (.seq (.region [⟨some 12,Go.Op.assign (Go.Operand.const (Go.Value.int Go.IntKind.i64 0)),3,none⟩])
     (.block 2
      (.loop
       (.seq (.seq (.region [⟨some 42,Go.Op.move (Go.Operand.tmp 12),3,none⟩,
        ⟨some 43,Go.Op.move (Go.Operand.tmp 11),3,none⟩,
        ⟨some 44,Go.Op.binOp Go.BinOp.lss 3 (Go.Operand.tmp 42) (Go.Operand.tmp 43) 3,4,none⟩])
       (.cond (Go.Operand.tmp 44)
        .skip
        (.exit 2)))
       (.seq (.block 3
        (.seq (.draw true [⟨⟨some 48,Go.Op.load 31 (Go.Operand.tmp 2),31,none⟩,false,false,true⟩,
         ⟨⟨some 49,Go.Op.fieldAddr 25 (Go.Operand.tmp 3) 2,0,none⟩,false,false,true⟩,
         ⟨⟨some 50,Go.Op.load 23 (Go.Operand.tmp 49),23,none⟩,false,false,true⟩,
         ⟨⟨some 51,Go.Op.move (Go.Operand.tmp 10),3,none⟩,false,false,true⟩,
         ⟨⟨some 52,Go.Op.indexAddr 23 (Go.Operand.tmp 50) (Go.Operand.tmp 51),0,none⟩,false,false,true⟩,
         ⟨⟨some 53,Go.Op.load 25 (Go.Operand.tmp 52),25,none⟩,false,false,true⟩,
         ⟨⟨some 54,Go.Op.call { callee:=Go.Callee.value (Go.Operand.func 27),args:=#[Go.Operand.tmp 48,Go.Operand.tmp 53],argTypes:=#[31,25] },53,none⟩,false,false,true⟩,
         ⟨⟨some 47,Go.Op.move (Go.Operand.tmp 54),53,none⟩,false,false,true⟩,
         ⟨⟨some 55,Go.Op.extract (Go.Operand.tmp 47) 0,31,none⟩,false,false,true⟩,
         ⟨⟨some 56,Go.Op.extract (Go.Operand.tmp 47) 1,3,none⟩,false,false,true⟩,
         ⟨⟨some 57,Go.Op.extract (Go.Operand.tmp 47) 2,3,none⟩,false,false,true⟩,
         ⟨⟨some 13,Go.Op.alloc 31,0,none⟩,true,false,false⟩,
         ⟨⟨none,Go.Op.store 31 (Go.Operand.tmp 13) (Go.Operand.tmp 55),0,none⟩,true,false,false⟩,
         ⟨⟨some 14,Go.Op.assign (Go.Operand.tmp 56),3,none⟩,false,false,false⟩,
         ⟨⟨some 15,Go.Op.assign (Go.Operand.tmp 57),3,none⟩,false,false,false⟩] [[],[],[1],[],[1,2,3],[1,2,3,4],[0,1,2,3,4,5],[0,1,2,3,4,5,6],[0,1,2,3,4,5,6,7],[0,1,2,3,4,5,6,7],[0,1,2,3,4,5,6,7],[],[0,1,2,3,4,5,6,7,8,11],[0,1,2,3,4,5,6,7,8,9,11,12],[0,1,2,3,4,5,6,7,8,9,10,11,12,13]])
        (.seq (.region [⟨some 58,Go.Op.load 31 (Go.Operand.tmp 13),31,none⟩,
         ⟨none,Go.Op.store 31 (Go.Operand.tmp 2) (Go.Operand.tmp 58),0,none⟩])
        (.region [⟨some 59,Go.Op.move (Go.Operand.tmp 8),51,none⟩,
         ⟨some 60,Go.Op.move (Go.Operand.tmp 14),3,none⟩,
         ⟨some 61,Go.Op.buildSlice 51 1 #[(0,Go.Operand.tmp 60)],51,none⟩,
         ⟨some 62,Go.Op.call { callee:=Go.Callee.builtin Go.Builtin.append,args:=#[Go.Operand.tmp 59,Go.Operand.tmp 61],argTypes:=#[51,51] },51,none⟩,
         ⟨some 63,Go.Op.move (Go.Operand.tmp 9),51,none⟩,
         ⟨some 64,Go.Op.move (Go.Operand.tmp 15),3,none⟩,
         ⟨some 65,Go.Op.buildSlice 51 1 #[(0,Go.Operand.tmp 64)],51,none⟩,
         ⟨some 66,Go.Op.call { callee:=Go.Callee.builtin Go.Builtin.append,args:=#[Go.Operand.tmp 63,Go.Operand.tmp 65],argTypes:=#[51,51] },51,none⟩,
         ⟨some 8,Go.Op.assign (Go.Operand.tmp 62),51,none⟩,
         ⟨some 9,Go.Op.assign (Go.Operand.tmp 66),51,none⟩]))))
       (.region [⟨some 45,Go.Op.move (Go.Operand.tmp 12),3,none⟩,
        ⟨some 46,Go.Op.binOp Go.BinOp.add 3 (Go.Operand.tmp 45) (Go.Operand.const (Go.Value.int Go.IntKind.i64 1)) 3,3,none⟩,
        ⟨some 12,Go.Op.assign (Go.Operand.tmp 46),3,none⟩])))))))))
    (.region [⟨some 35,Go.Op.move (Go.Operand.tmp 10),3,none⟩,
     ⟨some 36,Go.Op.binOp Go.BinOp.add 3 (Go.Operand.tmp 35) (Go.Operand.const (Go.Value.int Go.IntKind.i64 1)) 3,3,none⟩,
     ⟨some 10,Go.Op.assign (Go.Operand.tmp 36),3,none⟩]))))))
  (.seq (.region [⟨some 68,Go.Op.load 31 (Go.Operand.tmp 2),31,none⟩,
   ⟨some 69,Go.Op.call { callee:=Go.Callee.value (Go.Operand.func 53),args:=#[Go.Operand.tmp 68],argTypes:=#[31] },87,none⟩,
   ⟨some 67,Go.Op.move (Go.Operand.tmp 69),87,none⟩,
   ⟨some 70,Go.Op.extract (Go.Operand.tmp 67) 0,31,none⟩,
   ⟨some 71,Go.Op.extract (Go.Operand.tmp 67) 1,3,none⟩,
   ⟨none,Go.Op.store 31 (Go.Operand.tmp 2) (Go.Operand.tmp 70),0,none⟩,
   ⟨some 16,Go.Op.assign (Go.Operand.tmp 71),3,none⟩])
  (.seq (.seq (.region [⟨some 72,Go.Op.fieldAddr 25 (Go.Operand.tmp 3) 0,0,none⟩,
   ⟨some 73,Go.Op.load 3 (Go.Operand.tmp 72),3,none⟩])
  (.block 4
   (.seq (.region [⟨some 137,Go.Op.binOp Go.BinOp.eql 3 (Go.Operand.tmp 73) (Go.Operand.const (Go.Value.int Go.IntKind.i64 1)) 3,4,none⟩,
    ⟨some 136,Go.Op.assign (Go.Operand.tmp 137),4,none⟩])
   (.cond (Go.Operand.tmp 136)
    (.region [⟨some 138,Go.Op.load 31 (Go.Operand.tmp 2),31,none⟩,
     ⟨some 139,Go.Op.move (Go.Operand.tmp 7),3,none⟩,
     ⟨some 140,Go.Op.move (Go.Operand.tmp 16),3,none⟩,
     ⟨some 141,Go.Op.call { callee:=Go.Callee.value (Go.Operand.func 54),args:=#[Go.Operand.tmp 138,Go.Operand.tmp 139,Go.Operand.tmp 140],argTypes:=#[31,3,3] },31,none⟩,
     ⟨none,Go.Op.store 31 (Go.Operand.tmp 2) (Go.Operand.tmp 141),0,none⟩])
    (.seq (.region [⟨some 143,Go.Op.binOp Go.BinOp.eql 3 (Go.Operand.tmp 73) (Go.Operand.const (Go.Value.int Go.IntKind.i64 2)) 3,4,none⟩,
     ⟨some 142,Go.Op.assign (Go.Operand.tmp 143),4,none⟩])
    (.cond (Go.Operand.tmp 142)
     (.seq (.region [⟨some 17,Go.Op.assign (Go.Operand.const (Go.Value.int Go.IntKind.i64 0)),3,none⟩])
     (.block 9
      (.loop
       (.seq (.seq (.region [⟨some 144,Go.Op.move (Go.Operand.tmp 17),3,none⟩,
        ⟨some 145,Go.Op.fieldAddr 25 (Go.Operand.tmp 3) 1,0,none⟩,
        ⟨some 146,Go.Op.load 22 (Go.Operand.tmp 145),22,none⟩,
        ⟨some 147,Go.Op.call { callee:=Go.Callee.builtin Go.Builtin.len,args:=#[Go.Operand.tmp 146],argTypes:=#[22] },3,none⟩,
        ⟨some 148,Go.Op.binOp Go.BinOp.lss 3 (Go.Operand.tmp 144) (Go.Operand.tmp 147) 3,4,none⟩])
       (.cond (Go.Operand.tmp 148)
        .skip
        (.exit 9)))
       (.seq (.block 10
        (.draw true [⟨⟨some 151,Go.Op.fieldAddr 31 (Go.Operand.tmp 2) 2,0,none⟩,false,false,true⟩,
         ⟨⟨some 152,Go.Op.load 28 (Go.Operand.tmp 151),28,none⟩,false,false,true⟩,
         ⟨⟨some 153,Go.Op.move (Go.Operand.tmp 7),3,none⟩,false,false,true⟩,
         ⟨⟨some 154,Go.Op.fieldAddr 31 (Go.Operand.tmp 2) 2,0,none⟩,false,false,true⟩,
         ⟨⟨some 155,Go.Op.load 28 (Go.Operand.tmp 154),28,none⟩,false,false,true⟩,
         ⟨⟨some 156,Go.Op.move (Go.Operand.tmp 7),3,none⟩,false,false,true⟩,
         ⟨⟨some 157,Go.Op.indexAddr 28 (Go.Operand.tmp 155) (Go.Operand.tmp 156),0,none⟩,false,false,true⟩,
         ⟨⟨some 158,Go.Op.load 55 (Go.Operand.tmp 157),55,none⟩,false,false,true⟩,
         ⟨⟨some 159,Go.Op.fieldAddr 25 (Go.Operand.tmp 3) 1,0,none⟩,false,false,false⟩,
         ⟨⟨some 160,Go.Op.load 22 (Go.Operand.tmp 159),22,none⟩,false,false,false⟩,
         ⟨⟨some 161,Go.Op.move (Go.Operand.tmp 17),3,none⟩,false,false,false⟩,
         ⟨⟨some 162,Go.Op.indexAddr 22 (Go.Operand.tmp 160) (Go.Operand.tmp 161),0,none⟩,false,false,false⟩,
         ⟨⟨some 163,Go.Op.load 57 (Go.Operand.tmp 162),57,none⟩,false,false,false⟩,
         ⟨⟨some 164,Go.Op.move (Go.Operand.tmp 16),3,none⟩,false,false,false⟩,
         ⟨⟨some 165,Go.Op.build 59 #[(0,Go.Operand.tmp 163),(1,Go.Operand.tmp 164)],59,none⟩,false,false,false⟩,
         ⟨⟨some 166,Go.Op.buildSlice 55 1 #[(0,Go.Operand.tmp 165)],55,none⟩,true,false,false⟩,
         ⟨⟨some 167,Go.Op.call { callee:=Go.Callee.builtin Go.Builtin.append,args:=#[Go.Operand.tmp 158,Go.Operand.tmp 166],argTypes:=#[55,55] },55,none⟩,true,false,false⟩,
         ⟨⟨some 168,Go.Op.indexAddr 28 (Go.Operand.tmp 152) (Go.Operand.tmp 153),0,none⟩,false,false,false⟩,
         ⟨⟨none,Go.Op.store 55 (Go.Operand.tmp 168) (Go.Operand.tmp 167),0,none⟩,true,false,false⟩] [[],[0],[],[],[3],[],[3,4,5],[3,4,5,6],[],[8],[],[8,9,10],[8,9,10,11],[],[8,9,10,11,12,13],[8,9,10,11,12,13,14],[3,4,5,6,7,8,9,10,11,12,13,14,15],[0,1,2,3,4,5,6,7,8,9,10,11,12,13,14,15,16],[0,1,2,3,4,5,6,7,8,9,10,11,12,13,14,15,16,17]]))
       (.region [⟨some 149,Go.Op.move (Go.Operand.tmp 17),3,none⟩,
        ⟨some 150,Go.Op.binOp Go.BinOp.add 3 (Go.Operand.tmp 149) (Go.Operand.const (Go.Value.int Go.IntKind.i64 1)) 3,3,none⟩,
        ⟨some 17,Go.Op.assign (Go.Operand.tmp 150),3,none⟩]))))))
     (.seq (.region [⟨some 170,Go.Op.binOp Go.BinOp.eql 3 (Go.Operand.tmp 73) (Go.Operand.const (Go.Value.int Go.IntKind.i64 4)) 3,4,none⟩,
      ⟨some 169,Go.Op.assign (Go.Operand.tmp 170),4,none⟩])
     (.cond (Go.Operand.tmp 169)
      (.seq (.region [⟨some 18,Go.Op.assign (Go.Operand.const (Go.Value.int Go.IntKind.i64 0)),3,none⟩])
      (.block 11
       (.loop
        (.seq (.seq (.region [⟨some 171,Go.Op.move (Go.Operand.tmp 18),3,none⟩,
         ⟨some 172,Go.Op.move (Go.Operand.tmp 8),51,none⟩,
         ⟨some 173,Go.Op.call { callee:=Go.Callee.builtin Go.Builtin.len,args:=#[Go.Operand.tmp 172],argTypes:=#[51] },3,none⟩,
         ⟨some 174,Go.Op.binOp Go.BinOp.lss 3 (Go.Operand.tmp 171) (Go.Operand.tmp 173) 3,4,none⟩])
        (.cond (Go.Operand.tmp 174)
         .skip
         (.exit 11)))
        (.seq (.block 12
         (.draw true [⟨⟨some 177,Go.Op.load 31 (Go.Operand.tmp 2),31,none⟩,false,false,false⟩,
          ⟨⟨some 178,Go.Op.move (Go.Operand.tmp 7),3,none⟩,false,false,false⟩,
          ⟨⟨some 179,Go.Op.move (Go.Operand.tmp 8),51,none⟩,false,false,false⟩,
          ⟨⟨some 180,Go.Op.move (Go.Operand.tmp 18),3,none⟩,false,false,false⟩,
          ⟨⟨some 181,Go.Op.indexAddr 51 (Go.Operand.tmp 179) (Go.Operand.tmp 180),0,none⟩,false,false,false⟩,
          ⟨⟨some 182,Go.Op.load 3 (Go.Operand.tmp 181),3,none⟩,false,false,false⟩,
          ⟨⟨some 183,Go.Op.call { callee:=Go.Callee.value (Go.Operand.func 54),args:=#[Go.Operand.tmp 177,Go.Operand.tmp 178,Go.Operand.tmp 182],argTypes:=#[31,3,3] },31,none⟩,false,false,false⟩,
          ⟨⟨some 184,Go.Op.move (Go.Operand.tmp 9),51,none⟩,false,false,false⟩,
          ⟨⟨some 185,Go.Op.move (Go.Operand.tmp 18),3,none⟩,false,false,false⟩,
          ⟨⟨some 186,Go.Op.indexAddr 51 (Go.Operand.tmp 184) (Go.Operand.tmp 185),0,none⟩,false,false,false⟩,
          ⟨⟨some 187,Go.Op.load 3 (Go.Operand.tmp 186),3,none⟩,false,false,false⟩,
          ⟨⟨some 188,Go.Op.move (Go.Operand.tmp 16),3,none⟩,false,false,false⟩,
          ⟨⟨some 189,Go.Op.call { callee:=Go.Callee.value (Go.Operand.func 54),args:=#[Go.Operand.tmp 183,Go.Operand.tmp 187,Go.Operand.tmp 188],argTypes:=#[31,3,3] },31,none⟩,false,false,false⟩,
          ⟨⟨none,Go.Op.store 31 (Go.Operand.tmp 2) (Go.Operand.tmp 189),0,none⟩,true,false,false⟩] [[],[],[],[],[2,3],[2,3,4],[0,1,2,3,4,5],[],[],[7,8],[7,8,9],[],[0,1,2,3,4,5,6,7,8,9,10,11],[0,1,2,3,4,5,6,7,8,9,10,11,12]]))
        (.region [⟨some 175,Go.Op.move (Go.Operand.tmp 18),3,none⟩,
         ⟨some 176,Go.Op.binOp Go.BinOp.add 3 (Go.Operand.tmp 175) (Go.Operand.const (Go.Value.int Go.IntKind.i64 1)) 3,3,none⟩,
         ⟨some 18,Go.Op.assign (Go.Operand.tmp 176),3,none⟩]))))))
      (.seq (.region [⟨some 74,Go.Op.move (Go.Operand.tmp 7),3,none⟩,
       ⟨some 75,Go.Op.buildSlice 51 1 #[(0,Go.Operand.tmp 74)],51,none⟩,
       ⟨some 76,Go.Op.move (Go.Operand.tmp 9),51,none⟩,
       ⟨some 77,Go.Op.call { callee:=Go.Callee.builtin Go.Builtin.append,args:=#[Go.Operand.tmp 75,Go.Operand.tmp 76],argTypes:=#[51,51] },51,none⟩,
       ⟨some 19,Go.Op.assign (Go.Operand.tmp 77),51,none⟩])
      (.seq (.seq (.region [⟨some 20,Go.Op.assign (Go.Operand.const (Go.Value.int Go.IntKind.i64 0)),3,none⟩])
      (.block 5
       (.loop
        (.seq (.seq (.region [⟨some 78,Go.Op.move (Go.Operand.tmp 20),3,none⟩,
         ⟨some 79,Go.Op.move (Go.Operand.tmp 8),51,none⟩,
         ⟨some 80,Go.Op.call { callee:=Go.Callee.builtin Go.Builtin.len,args:=#[Go.Operand.tmp 79],argTypes:=#[51] },3,none⟩,
         ⟨some 81,Go.Op.binOp Go.BinOp.lss 3 (Go.Operand.tmp 78) (Go.Operand.tmp 80) 3,4,none⟩])
        (.cond (Go.Operand.tmp 81)
         .skip
         (.exit 5)))
        (.seq (.block 6
         (.draw true [⟨⟨some 84,Go.Op.load 31 (Go.Operand.tmp 2),31,none⟩,false,false,false⟩,
          ⟨⟨some 85,Go.Op.move (Go.Operand.tmp 19),51,none⟩,false,false,false⟩,
          ⟨⟨some 86,Go.Op.move (Go.Operand.tmp 20),3,none⟩,false,false,false⟩,
          ⟨⟨some 87,Go.Op.indexAddr 51 (Go.Operand.tmp 85) (Go.Operand.tmp 86),0,none⟩,false,false,false⟩,
          ⟨⟨some 88,Go.Op.load 3 (Go.Operand.tmp 87),3,none⟩,false,false,false⟩,
          ⟨⟨some 89,Go.Op.move (Go.Operand.tmp 8),51,none⟩,false,false,false⟩,
          ⟨⟨some 90,Go.Op.move (Go.Operand.tmp 20),3,none⟩,false,false,false⟩,
          ⟨⟨some 91,Go.Op.indexAddr 51 (Go.Operand.tmp 89) (Go.Operand.tmp 90),0,none⟩,false,false,false⟩,
          ⟨⟨some 92,Go.Op.load 3 (Go.Operand.tmp 91),3,none⟩,false,false,false⟩,
          ⟨⟨some 93,Go.Op.call { callee:=Go.Callee.value (Go.Operand.func 54),args:=#[Go.Operand.tmp 84,Go.Operand.tmp 88,Go.Operand.tmp 92],argTypes:=#[31,3,3] },31,none⟩,false,false,false⟩,
          ⟨⟨none,Go.Op.store 31 (Go.Operand.tmp 2) (Go.Operand.tmp 93),0,none⟩,true,false,false⟩] [[],[],[],[1,2],[1,2,3],[],[],[5,6],[5,6,7],[0,1,2,3,4,5,6,7,8],[0,1,2,3,4,5,6,7,8,9]]))
        (.region [⟨some 82,Go.Op.move (Go.Operand.tmp 20),3,none⟩,
         ⟨some 83,Go.Op.binOp Go.BinOp.add 3 (Go.Operand.tmp 82) (Go.Operand.const (Go.Value.int Go.IntKind.i64 1)) 3,3,none⟩,
         ⟨some 20,Go.Op.assign (Go.Operand.tmp 83),3,none⟩]))))))
      (.seq (.region [⟨some 94,Go.Op.move (Go.Operand.tmp 8),51,none⟩,
       ⟨some 95,Go.Op.call { callee:=Go.Callee.builtin Go.Builtin.len,args:=#[Go.Operand.tmp 94],argTypes:=#[51] },3,none⟩,
       ⟨some 21,Go.Op.assign (Go.Operand.tmp 95),3,none⟩])
      (.seq (.seq (.region [⟨some 96,Go.Op.fieldAddr 25 (Go.Operand.tmp 3) 0,0,none⟩,
       ⟨some 97,Go.Op.load 3 (Go.Operand.tmp 96),3,none⟩,
       ⟨some 98,Go.Op.binOp Go.BinOp.eql 3 (Go.Operand.tmp 97) (Go.Operand.const (Go.Value.int Go.IntKind.i64 5)) 3,4,none⟩])
      (.cond (Go.Operand.tmp 98)
       (.region [⟨some 99,Go.Op.fieldAddr 25 (Go.Operand.tmp 3) 3,0,none⟩,
        ⟨some 100,Go.Op.load 3 (Go.Operand.tmp 99),3,none⟩,
        ⟨some 21,Go.Op.assign (Go.Operand.tmp 100),3,none⟩])
       .skip))
      (.seq (.seq (.region [⟨some 101,Go.Op.move (Go.Operand.tmp 21),3,none⟩,
       ⟨some 22,Go.Op.assign (Go.Operand.tmp 101),3,none⟩])
      (.block 7
       (.loop
        (.seq (.seq (.region [⟨some 102,Go.Op.move (Go.Operand.tmp 22),3,none⟩,
         ⟨some 103,Go.Op.move (Go.Operand.tmp 19),51,none⟩,
         ⟨some 104,Go.Op.call { callee:=Go.Callee.builtin Go.Builtin.len,args:=#[Go.Operand.tmp 103],argTypes:=#[51] },3,none⟩,
         ⟨some 105,Go.Op.binOp Go.BinOp.lss 3 (Go.Operand.tmp 102) (Go.Operand.tmp 104) 3,4,none⟩])
        (.cond (Go.Operand.tmp 105)
         .skip
         (.exit 7)))
        (.seq (.block 8
         (.draw true [⟨⟨some 108,Go.Op.load 31 (Go.Operand.tmp 2),31,none⟩,false,false,false⟩,
          ⟨⟨some 109,Go.Op.move (Go.Operand.tmp 19),51,none⟩,false,false,false⟩,
          ⟨⟨some 110,Go.Op.move (Go.Operand.tmp 22),3,none⟩,false,false,false⟩,
          ⟨⟨some 111,Go.Op.indexAddr 51 (Go.Operand.tmp 109) (Go.Operand.tmp 110),0,none⟩,false,false,false⟩,
          ⟨⟨some 112,Go.Op.load 3 (Go.Operand.tmp 111),3,none⟩,false,false,false⟩,
          ⟨⟨some 113,Go.Op.move (Go.Operand.tmp 16),3,none⟩,false,false,false⟩,
          ⟨⟨some 114,Go.Op.call { callee:=Go.Callee.value (Go.Operand.func 54),args:=#[Go.Operand.tmp 108,Go.Operand.tmp 112,Go.Operand.tmp 113],argTypes:=#[31,3,3] },31,none⟩,false,false,false⟩,
          ⟨⟨none,Go.Op.store 31 (Go.Operand.tmp 2) (Go.Operand.tmp 114),0,none⟩,true,false,false⟩] [[],[],[],[1,2],[1,2,3],[],[0,1,2,3,4,5],[0,1,2,3,4,5,6]]))
        (.region [⟨some 106,Go.Op.move (Go.Operand.tmp 22),3,none⟩,
         ⟨some 107,Go.Op.binOp Go.BinOp.add 3 (Go.Operand.tmp 106) (Go.Operand.const (Go.Value.int Go.IntKind.i64 1)) 3,3,none⟩,
         ⟨some 22,Go.Op.assign (Go.Operand.tmp 107),3,none⟩]))))))
      (.seq (.region [⟨some 115,Go.Op.fieldAddr 25 (Go.Operand.tmp 3) 0,0,none⟩,
       ⟨some 116,Go.Op.load 3 (Go.Operand.tmp 115),3,none⟩,
       ⟨some 117,Go.Op.binOp Go.BinOp.eql 3 (Go.Operand.tmp 116) (Go.Operand.const (Go.Value.int Go.IntKind.i64 5)) 3,4,none⟩,
       ⟨some 118,Go.Op.move (Go.Operand.tmp 117),4,none⟩,
       ⟨some 119,Go.Op.fieldAddr 25 (Go.Operand.tmp 3) 4,0,(some (118,true))⟩,
       ⟨some 120,Go.Op.load 3 (Go.Operand.tmp 119),3,(some (118,true))⟩,
       ⟨some 121,Go.Op.binOp Go.BinOp.lss 3 (Go.Operand.tmp 120) (Go.Operand.const (Go.Value.int Go.IntKind.i64 0)) 3,4,(some (118,true))⟩,
       ⟨some 122,Go.Op.pick (Go.Operand.tmp 118) (Go.Operand.tmp 121) (Go.Operand.const (Go.Value.bool false)),4,none⟩])
      (.cond (Go.Operand.tmp 122)
       (.draw true [⟨⟨some 123,Go.Op.load 31 (Go.Operand.tmp 2),31,none⟩,false,false,false⟩,
        ⟨⟨some 124,Go.Op.move (Go.Operand.tmp 19),51,none⟩,false,false,false⟩,
        ⟨⟨some 125,Go.Op.move (Go.Operand.tmp 8),51,none⟩,false,false,false⟩,
        ⟨⟨some 126,Go.Op.call { callee:=Go.Callee.builtin Go.Builtin.len,args:=#[Go.Operand.tmp 125],argTypes:=#[51] },3,none⟩,false,false,false⟩,
        ⟨⟨some 127,Go.Op.indexAddr 51 (Go.Operand.tmp 124) (Go.Operand.tmp 126),0,none⟩,false,false,false⟩,
        ⟨⟨some 128,Go.Op.load 3 (Go.Operand.tmp 127),3,none⟩,false,false,false⟩,
        ⟨⟨some 129,Go.Op.move (Go.Operand.tmp 8),51,none⟩,false,false,false⟩,
        ⟨⟨some 130,Go.Op.move (Go.Operand.tmp 8),51,none⟩,false,false,false⟩,
        ⟨⟨some 131,Go.Op.call { callee:=Go.Callee.builtin Go.Builtin.len,args:=#[Go.Operand.tmp 130],argTypes:=#[51] },3,none⟩,false,false,false⟩,
        ⟨⟨some 132,Go.Op.binOp Go.BinOp.sub 3 (Go.Operand.tmp 131) (Go.Operand.const (Go.Value.int Go.IntKind.i64 1)) 3,3,none⟩,false,false,false⟩,
        ⟨⟨some 133,Go.Op.indexAddr 51 (Go.Operand.tmp 129) (Go.Operand.tmp 132),0,none⟩,false,false,false⟩,
        ⟨⟨some 134,Go.Op.load 3 (Go.Operand.tmp 133),3,none⟩,false,false,false⟩,
        ⟨⟨some 135,Go.Op.call { callee:=Go.Callee.value (Go.Operand.func 54),args:=#[Go.Operand.tmp 123,Go.Operand.tmp 128,Go.Operand.tmp 134],argTypes:=#[31,3,3] },31,none⟩,false,false,false⟩,
        ⟨⟨none,Go.Op.store 31 (Go.Operand.tmp 2) (Go.Operand.tmp 135),0,none⟩,true,false,false⟩] [[],[],[],[2],[1,2,3],[1,2,3,4],[],[],[7],[7,8],[6,7,8,9],[6,7,8,9,10],[0,1,2,3,4,5,6,7,8,9,10,11],[0,1,2,3,4,5,6,7,8,9,10,11,12]])
       .skip)))))))))))))))
  (.seq (.region [⟨some 190,Go.Op.load 31 (Go.Operand.tmp 2),31,none⟩,
   ⟨some 191,Go.Op.move (Go.Operand.tmp 7),3,none⟩,
   ⟨some 192,Go.Op.move (Go.Operand.tmp 16),3,none⟩,
   ⟨none,Go.Op.store 31 (Go.Operand.tmp 4) (Go.Operand.tmp 190),0,none⟩,
   ⟨some 5,Go.Op.assign (Go.Operand.tmp 191),3,none⟩,
   ⟨some 6,Go.Op.assign (Go.Operand.tmp 192),3,none⟩])
  .ret))))))) :=
 ⟨foll,Tryz.f27,Tryz.func27,by kernel_rfl,by kernel_rfl,by kernel_rfl,by rw [Tryz.ntmps27];decide⟩
theorem fn28:FnIs Tryz.prog 28 2 [Go.ResultVar.tmp 4] (.seq (.region [⟨some 4,Go.Op.assign (Go.Operand.const (Go.Value.bool false)),4,none⟩])
  (.seq (.seq (.region [⟨some 6,Go.Op.move (Go.Operand.tmp 0),51,none⟩,
   ⟨some 7,Go.Op.call { callee:=Go.Callee.builtin Go.Builtin.len,args:=#[Go.Operand.tmp 6],argTypes:=#[51] },3,none⟩,
   ⟨some 8,Go.Op.move (Go.Operand.tmp 1),51,none⟩,
   ⟨some 9,Go.Op.call { callee:=Go.Callee.builtin Go.Builtin.len,args:=#[Go.Operand.tmp 8],argTypes:=#[51] },3,none⟩,
   ⟨some 10,Go.Op.binOp Go.BinOp.neq 3 (Go.Operand.tmp 7) (Go.Operand.tmp 9) 3,4,none⟩])
  (.cond (Go.Operand.tmp 10)
   (.seq (.region [⟨some 4,Go.Op.assign (Go.Operand.const (Go.Value.bool false)),4,none⟩])
   .ret)
   .skip))
  (.seq (.seq (.region [⟨some 5,Go.Op.assign (Go.Operand.const (Go.Value.int Go.IntKind.i64 0)),3,none⟩])
  (.block 0
   (.loop
    (.seq (.seq (.region [⟨some 11,Go.Op.move (Go.Operand.tmp 5),3,none⟩,
     ⟨some 12,Go.Op.move (Go.Operand.tmp 0),51,none⟩,
     ⟨some 13,Go.Op.call { callee:=Go.Callee.builtin Go.Builtin.len,args:=#[Go.Operand.tmp 12],argTypes:=#[51] },3,none⟩,
     ⟨some 14,Go.Op.binOp Go.BinOp.lss 3 (Go.Operand.tmp 11) (Go.Operand.tmp 13) 3,4,none⟩])
    (.cond (Go.Operand.tmp 14)
     .skip
     (.exit 0)))
    (.seq (.block 1
     (.seq (.draw true [⟨⟨some 17,Go.Op.move (Go.Operand.tmp 0),51,none⟩,false,false,false⟩,
      ⟨⟨some 18,Go.Op.move (Go.Operand.tmp 5),3,none⟩,false,false,false⟩,
      ⟨⟨some 19,Go.Op.indexAddr 51 (Go.Operand.tmp 17) (Go.Operand.tmp 18),0,none⟩,false,false,false⟩,
      ⟨⟨some 20,Go.Op.load 3 (Go.Operand.tmp 19),3,none⟩,false,false,false⟩,
      ⟨⟨some 21,Go.Op.move (Go.Operand.tmp 1),51,none⟩,false,false,false⟩,
      ⟨⟨some 22,Go.Op.move (Go.Operand.tmp 5),3,none⟩,false,false,false⟩,
      ⟨⟨some 23,Go.Op.indexAddr 51 (Go.Operand.tmp 21) (Go.Operand.tmp 22),0,none⟩,false,false,false⟩,
      ⟨⟨some 24,Go.Op.load 3 (Go.Operand.tmp 23),3,none⟩,false,false,false⟩,
      ⟨⟨some 25,Go.Op.binOp Go.BinOp.neq 3 (Go.Operand.tmp 20) (Go.Operand.tmp 24) 3,4,none⟩,false,false,false⟩] [[],[],[0,1],[0,1,2],[],[],[4,5],[4,5,6],[0,1,2,3,4,5,6,7]])
     (.cond (Go.Operand.tmp 25)
      (.seq (.region [⟨some 4,Go.Op.assign (Go.Operand.const (Go.Value.bool false)),4,none⟩])
      .ret)
      .skip)))
    (.region [⟨some 15,Go.Op.move (Go.Operand.tmp 5),3,none⟩,
     ⟨some 16,Go.Op.binOp Go.BinOp.add 3 (Go.Operand.tmp 15) (Go.Operand.const (Go.Value.int Go.IntKind.i64 1)) 3,3,none⟩,
     ⟨some 5,Go.Op.assign (Go.Operand.tmp 16),3,none⟩]))))))
  (.seq (.region [⟨some 4,Go.Op.assign (Go.Operand.const (Go.Value.bool true)),4,none⟩])
  .ret)))) :=
 ⟨foll,Tryz.f28,Tryz.func28,by kernel_rfl,by kernel_rfl,by kernel_rfl,by rw [Tryz.ntmps28];decide⟩
theorem fn41:FnIs Tryz.prog 41 1 [Go.ResultVar.tmp 2] (.seq (.region [⟨some 1,Go.Op.box 25 (Go.Operand.tmp 0),0,none⟩,
   ⟨some 2,Go.Op.assign (Go.Operand.const (Go.Value.int Go.IntKind.i64 0)),3,none⟩])
  (.seq (.seq (.region [⟨some 3,Go.Op.fieldAddr 25 (Go.Operand.tmp 1) 4,0,none⟩,
   ⟨some 4,Go.Op.load 3 (Go.Operand.tmp 3),3,none⟩,
   ⟨some 5,Go.Op.binOp Go.BinOp.lss 3 (Go.Operand.tmp 4) (Go.Operand.const (Go.Value.int Go.IntKind.i64 0)) 3,4,none⟩])
  (.cond (Go.Operand.tmp 5)
   (.seq (.region [⟨some 6,Go.Op.fieldAddr 25 (Go.Operand.tmp 1) 3,0,none⟩,
    ⟨some 7,Go.Op.load 3 (Go.Operand.tmp 6),3,none⟩,
    ⟨some 8,Go.Op.binOp Go.BinOp.add 3 (Go.Operand.tmp 7) (Go.Operand.const (Go.Value.int Go.IntKind.i64 1)) 3,3,none⟩,
    ⟨some 2,Go.Op.assign (Go.Operand.tmp 8),3,none⟩])
   .ret)
   .skip))
  (.seq (.region [⟨some 9,Go.Op.fieldAddr 25 (Go.Operand.tmp 1) 4,0,none⟩,
   ⟨some 10,Go.Op.load 3 (Go.Operand.tmp 9),3,none⟩,
   ⟨some 2,Go.Op.assign (Go.Operand.tmp 10),3,none⟩])
  .ret))) :=
 ⟨foll,Tryz.f41,Tryz.func41,by kernel_rfl,by kernel_rfl,by kernel_rfl,by rw [Tryz.ntmps41];decide⟩
theorem fn53:FnIs Tryz.prog 53 1 [Go.ResultVar.cell 2 31,Go.ResultVar.tmp 3] (.seq (.region [⟨some 1,Go.Op.box 31 (Go.Operand.tmp 0),0,none⟩,
   ⟨some 2,Go.Op.alloc 31,0,none⟩,
   ⟨some 3,Go.Op.assign (Go.Operand.const (Go.Value.int Go.IntKind.i64 0)),3,none⟩])
  (.seq (.region [⟨some 4,Go.Op.fieldAddr 31 (Go.Operand.tmp 1) 2,0,none⟩,
   ⟨some 5,Go.Op.load 28 (Go.Operand.tmp 4),28,none⟩,
   ⟨some 6,Go.Op.buildSlice 28 1 #[(0,Go.Operand.const (Go.Value.slice none 0 0))],28,none⟩,
   ⟨some 7,Go.Op.call { callee:=Go.Callee.builtin Go.Builtin.append,args:=#[Go.Operand.tmp 5,Go.Operand.tmp 6],argTypes:=#[28,28] },28,none⟩,
   ⟨some 8,Go.Op.fieldAddr 31 (Go.Operand.tmp 1) 2,0,none⟩,
   ⟨none,Go.Op.store 28 (Go.Operand.tmp 8) (Go.Operand.tmp 7),0,none⟩])
  (.seq (.region [⟨some 9,Go.Op.fieldAddr 31 (Go.Operand.tmp 1) 3,0,none⟩,
   ⟨some 10,Go.Op.load 29 (Go.Operand.tmp 9),29,none⟩,
   ⟨some 11,Go.Op.buildSlice 29 1 #[(0,Go.Operand.const (Go.Value.slice none 0 0))],29,none⟩,
   ⟨some 12,Go.Op.call { callee:=Go.Callee.builtin Go.Builtin.append,args:=#[Go.Operand.tmp 10,Go.Operand.tmp 11],argTypes:=#[29,29] },29,none⟩,
   ⟨some 13,Go.Op.fieldAddr 31 (Go.Operand.tmp 1) 3,0,none⟩,
   ⟨none,Go.Op.store 29 (Go.Operand.tmp 13) (Go.Operand.tmp 12),0,none⟩])
  (.seq (.draw true [⟨⟨some 14,Go.Op.load 31 (Go.Operand.tmp 1),31,none⟩,false,false,false⟩,
   ⟨⟨some 15,Go.Op.fieldAddr 31 (Go.Operand.tmp 1) 2,0,none⟩,false,false,true⟩,
   ⟨⟨some 16,Go.Op.load 28 (Go.Operand.tmp 15),28,none⟩,false,false,true⟩,
   ⟨⟨some 17,Go.Op.call { callee:=Go.Callee.builtin Go.Builtin.len,args:=#[Go.Operand.tmp 16],argTypes:=#[28] },3,none⟩,false,false,true⟩,
   ⟨⟨some 18,Go.Op.binOp Go.BinOp.sub 3 (Go.Operand.tmp 17) (Go.Operand.const (Go.Value.int Go.IntKind.i64 1)) 3,3,none⟩,false,false,true⟩,
   ⟨⟨none,Go.Op.store 31 (Go.Operand.tmp 2) (Go.Operand.tmp 14),0,none⟩,true,false,false⟩,
   ⟨⟨some 3,Go.Op.assign (Go.Operand.tmp 18),3,none⟩,false,false,false⟩] [[],[],[1],[1,2],[1,2,3],[0],[0,1,2,3,4,5]])
  .ret)))) :=
 ⟨foll,Tryz.f53,Tryz.func53,by kernel_rfl,by kernel_rfl,by kernel_rfl,by rw [Tryz.ntmps53];decide⟩
theorem fn54:FnIs Tryz.prog 54 3 [Go.ResultVar.cell 6 31] (.seq (.region [⟨some 3,Go.Op.box 31 (Go.Operand.tmp 0),0,none⟩,
   ⟨some 6,Go.Op.alloc 31,0,none⟩])
  (.seq (.region [⟨some 11,Go.Op.buildSlice 51 0 #[],51,none⟩,
   ⟨some 7,Go.Op.assign (Go.Operand.tmp 11),51,none⟩])
  (.seq (.seq (.region [⟨some 8,Go.Op.assign (Go.Operand.const (Go.Value.int Go.IntKind.i64 0)),3,none⟩])
  (.block 0
   (.loop
    (.seq (.seq (.region [⟨some 12,Go.Op.move (Go.Operand.tmp 8),3,none⟩,
     ⟨some 13,Go.Op.fieldAddr 31 (Go.Operand.tmp 3) 2,0,none⟩,
     ⟨some 14,Go.Op.load 28 (Go.Operand.tmp 13),28,none⟩,
     ⟨some 15,Go.Op.call { callee:=Go.Callee.builtin Go.Builtin.len,args:=#[Go.Operand.tmp 14],argTypes:=#[28] },3,none⟩,
     ⟨some 16,Go.Op.binOp Go.BinOp.lss 3 (Go.Operand.tmp 12) (Go.Operand.tmp 15) 3,4,none⟩])
    (.cond (Go.Operand.tmp 16)
     .skip
     (.exit 0)))
    (.seq (.block 1
     (.seq (.region [⟨some 19,Go.Op.move (Go.Operand.tmp 8),3,none⟩,
      ⟨some 20,Go.Op.move (Go.Operand.tmp 2),3,none⟩,
      ⟨some 21,Go.Op.binOp Go.BinOp.eql 3 (Go.Operand.tmp 19) (Go.Operand.tmp 20) 3,4,none⟩,
      ⟨some 9,Go.Op.assign (Go.Operand.tmp 21),4,none⟩])
     (.seq (.seq (.region [⟨some 10,Go.Op.assign (Go.Operand.const (Go.Value.int Go.IntKind.i64 0)),3,none⟩])
     (.block 2
      (.loop
       (.seq (.seq (.region [⟨some 22,Go.Op.move (Go.Operand.tmp 10),3,none⟩,
        ⟨some 23,Go.Op.fieldAddr 31 (Go.Operand.tmp 3) 3,0,none⟩,
        ⟨some 24,Go.Op.load 29 (Go.Operand.tmp 23),29,none⟩,
        ⟨some 25,Go.Op.move (Go.Operand.tmp 1),3,none⟩,
        ⟨some 26,Go.Op.indexAddr 29 (Go.Operand.tmp 24) (Go.Operand.tmp 25),0,none⟩,
        ⟨some 27,Go.Op.load 51 (Go.Operand.tmp 26),51,none⟩,
        ⟨some 28,Go.Op.call { callee:=Go.Callee.builtin Go.Builtin.len,args:=#[Go.Operand.tmp 27],argTypes:=#[51] },3,none⟩,
        ⟨some 29,Go.Op.binOp Go.BinOp.lss 3 (Go.Operand.tmp 22) (Go.Operand.tmp 28) 3,4,none⟩])
       (.cond (Go.Operand.tmp 29)
        .skip
        (.exit 2)))
       (.seq (.block 3
        (.region [⟨some 32,Go.Op.move (Go.Operand.tmp 9),4,none⟩,
         ⟨some 33,Go.Op.move (Go.Operand.tmp 32),4,none⟩,
         ⟨some 34,Go.Op.fieldAddr 31 (Go.Operand.tmp 3) 3,0,(some (33,false))⟩,
         ⟨some 35,Go.Op.load 29 (Go.Operand.tmp 34),29,(some (33,false))⟩,
         ⟨some 36,Go.Op.move (Go.Operand.tmp 1),3,(some (33,false))⟩,
         ⟨some 37,Go.Op.indexAddr 29 (Go.Operand.tmp 35) (Go.Operand.tmp 36),0,(some (33,false))⟩,
         ⟨some 38,Go.Op.load 51 (Go.Operand.tmp 37),51,(some (33,false))⟩,
         ⟨some 39,Go.Op.move (Go.Operand.tmp 10),3,(some (33,false))⟩,
         ⟨some 40,Go.Op.indexAddr 51 (Go.Operand.tmp 38) (Go.Operand.tmp 39),0,(some (33,false))⟩,
         ⟨some 41,Go.Op.load 3 (Go.Operand.tmp 40),3,(some (33,false))⟩,
         ⟨some 42,Go.Op.move (Go.Operand.tmp 8),3,(some (33,false))⟩,
         ⟨some 43,Go.Op.binOp Go.BinOp.eql 3 (Go.Operand.tmp 41) (Go.Operand.tmp 42) 3,4,(some (33,false))⟩,
         ⟨some 44,Go.Op.pick (Go.Operand.tmp 33) (Go.Operand.const (Go.Value.bool true)) (Go.Operand.tmp 43),4,none⟩,
         ⟨some 9,Go.Op.assign (Go.Operand.tmp 44),4,none⟩]))
       (.region [⟨some 30,Go.Op.move (Go.Operand.tmp 10),3,none⟩,
        ⟨some 31,Go.Op.binOp Go.BinOp.add 3 (Go.Operand.tmp 30) (Go.Operand.const (Go.Value.int Go.IntKind.i64 1)) 3,3,none⟩,
        ⟨some 10,Go.Op.assign (Go.Operand.tmp 31),3,none⟩]))))))
     (.seq (.region [⟨some 45,Go.Op.move (Go.Operand.tmp 9),4,none⟩])
     (.cond (Go.Operand.tmp 45)
      (.region [⟨some 46,Go.Op.move (Go.Operand.tmp 7),51,none⟩,
       ⟨some 47,Go.Op.move (Go.Operand.tmp 8),3,none⟩,
       ⟨some 48,Go.Op.buildSlice 51 1 #[(0,Go.Operand.tmp 47)],51,none⟩,
       ⟨some 49,Go.Op.call { callee:=Go.Callee.builtin Go.Builtin.append,args:=#[Go.Operand.tmp 46,Go.Operand.tmp 48],argTypes:=#[51,51] },51,none⟩,
       ⟨some 7,Go.Op.assign (Go.Operand.tmp 49),51,none⟩])
      .skip)))))
    (.region [⟨some 17,Go.Op.move (Go.Operand.tmp 8),3,none⟩,
     ⟨some 18,Go.Op.binOp Go.BinOp.add 3 (Go.Operand.tmp 17) (Go.Operand.const (Go.Value.int Go.IntKind.i64 1)) 3,3,none⟩,
     ⟨some 8,Go.Op.assign (Go.Operand.tmp 18),3,none⟩]))))))
  (.seq (.region [⟨some 50,Go.Op.fieldAddr 31 (Go.Operand.tmp 3) 3,0,none⟩,
   ⟨some 51,Go.Op.load 29 (Go.Operand.tmp 50),29,none⟩,
   ⟨some 52,Go.Op.move (Go.Operand.tmp 1),3,none⟩,
   ⟨some 53,Go.Op.move (Go.Operand.tmp 7),51,none⟩,
   ⟨some 54,Go.Op.indexAddr 29 (Go.Operand.tmp 51) (Go.Operand.tmp 52),0,none⟩,
   ⟨none,Go.Op.store 51 (Go.Operand.tmp 54) (Go.Operand.tmp 53),0,none⟩])
  (.seq (.region [⟨some 55,Go.Op.load 31 (Go.Operand.tmp 3),31,none⟩,
   ⟨none,Go.Op.store 31 (Go.Operand.tmp 6) (Go.Operand.tmp 55),0,none⟩])
  .ret))))) :=
 ⟨foll,Tryz.f54,Tryz.func54,by kernel_rfl,by kernel_rfl,by kernel_rfl,by rw [Tryz.ntmps54];decide⟩
end Go.Proofs.YtngdkenddfdhaaaGreatDoor
