/- The prepared code of further functions. Written by a program of mine (gen.py) out of what the loaded dump prints. -/
import Derived.Test.YtfnddhbiolpmgaaGreatDoorG10Base56
set_option linter.unusedVariables false
set_option maxRecDepth 100000
namespace Go.Proofs.YtfnddhbiolpmgaaGreatDoor
open Go Nv
theorem fn19:FnIs Tryz.prog 19 1 [Go.ResultVar.cell 2 43,Go.ResultVar.tmp 3] (.seq (.region [⟨some 1,Go.Op.box 39 (Go.Operand.tmp 0),0,none⟩,
   ⟨some 2,Go.Op.alloc 43,0,none⟩,
   ⟨some 3,Go.Op.assign (Go.Operand.const (Go.Value.int Go.IntKind.i64 0)),29,none⟩])
  (.seq (.seq (.region [⟨some 10,Go.Op.load 39 (Go.Operand.tmp 1),39,none⟩,
   ⟨some 11,Go.Op.call { callee:=Go.Callee.value (Go.Operand.func 29),args:=#[Go.Operand.tmp 10],argTypes:=#[39] },29,none⟩,
   ⟨some 4,Go.Op.assign (Go.Operand.tmp 11),29,none⟩])
  (.seq (.region [⟨some 12,Go.Op.move (Go.Operand.tmp 4),29,none⟩,
   ⟨some 13,Go.Op.binOp Go.BinOp.neq 29 (Go.Operand.tmp 12) (Go.Operand.const (Go.Value.int Go.IntKind.i64 0)) 29,4,none⟩])
  (.cond (Go.Operand.tmp 13)
   (.seq (.region [⟨some 14,Go.Op.build 43 #[],43,none⟩,
    ⟨some 15,Go.Op.move (Go.Operand.tmp 4),29,none⟩,
    ⟨none,Go.Op.store 43 (Go.Operand.tmp 2) (Go.Operand.tmp 14),0,none⟩,
    ⟨some 3,Go.Op.assign (Go.Operand.tmp 15),29,none⟩])
   .ret)
   .skip)))
  (.seq (.seq (.region [⟨some 16,Go.Op.load 39 (Go.Operand.tmp 1),39,none⟩,
   ⟨some 17,Go.Op.call { callee:=Go.Callee.value (Go.Operand.func 30),args:=#[Go.Operand.tmp 16],argTypes:=#[39] },3,none⟩,
   ⟨some 18,Go.Op.binOp Go.BinOp.gtr 3 (Go.Operand.tmp 17) (Go.Operand.const (Go.Value.int Go.IntKind.i64 3000)) 3,4,none⟩])
  (.cond (Go.Operand.tmp 18)
   (.seq (.region [⟨some 19,Go.Op.build 43 #[],43,none⟩,
    ⟨none,Go.Op.store 43 (Go.Operand.tmp 2) (Go.Operand.tmp 19),0,none⟩,
    ⟨some 3,Go.Op.assign (Go.Operand.const (Go.Value.int Go.IntKind.i64 5)),29,none⟩])
   .ret)
   .skip))
  (.seq (.region [⟨some 20,Go.Op.build 81 #[],81,none⟩,
   ⟨some 21,Go.Op.box 81 (Go.Operand.tmp 20),79,none⟩,
   ⟨some 5,Go.Op.assign (Go.Operand.tmp 21),79,none⟩])
  (.seq (.region [⟨some 23,Go.Op.move (Go.Operand.tmp 5),79,none⟩,
   ⟨some 24,Go.Op.load 39 (Go.Operand.tmp 1),39,none⟩,
   ⟨some 25,Go.Op.call { callee:=Go.Callee.value (Go.Operand.func 31),args:=#[Go.Operand.tmp 23,Go.Operand.tmp 24],argTypes:=#[79,39] },82,none⟩,
   ⟨some 22,Go.Op.move (Go.Operand.tmp 25),82,none⟩,
   ⟨some 26,Go.Op.extract (Go.Operand.tmp 22) 0,3,none⟩,
   ⟨some 27,Go.Op.extract (Go.Operand.tmp 22) 1,3,none⟩,
   ⟨some 6,Go.Op.assign (Go.Operand.tmp 26),3,none⟩,
   ⟨some 7,Go.Op.assign (Go.Operand.tmp 27),3,none⟩])
  (.seq (.seq (.region [⟨some 28,Go.Op.move (Go.Operand.tmp 5),79,none⟩,
   ⟨some 29,Go.Op.nilCheck (Go.Operand.tmp 28),0,none⟩,
   ⟨some 30,Go.Op.fieldAddr 81 (Go.Operand.tmp 29) 1,0,none⟩,
   ⟨some 31,Go.Op.load 41 (Go.Operand.tmp 30),41,none⟩,
   ⟨some 32,Go.Op.call { callee:=Go.Callee.builtin Go.Builtin.len,args:=#[Go.Operand.tmp 31],argTypes:=#[41] },3,none⟩,
   ⟨some 33,Go.Op.move (Go.Operand.const (Go.Value.int Go.IntKind.i64 0)),3,none⟩])
  (.block 0
   (.loop
    (.seq (.region [⟨some 34,Go.Op.binOp Go.BinOp.lss 3 (Go.Operand.tmp 33) (Go.Operand.tmp 32) 3,0,none⟩])
    (.seq (.cond (Go.Operand.tmp 34)
     .skip
     (.exit 0))
    (.seq (.block 1
     (.seq (.region [⟨some 35,Go.Op.indexAddr 41 (Go.Operand.tmp 31) (Go.Operand.tmp 33),0,none⟩,
      ⟨some 36,Go.Op.load 84 (Go.Operand.tmp 35),84,none⟩,
      ⟨some 9,Go.Op.assign (Go.Operand.tmp 36),84,none⟩])
     (.region [⟨some 37,Go.Op.move (Go.Operand.tmp 9),84,none⟩,
      ⟨some 38,Go.Op.call { callee:=Go.Callee.value (Go.Operand.func 32),args:=#[Go.Operand.tmp 37],argTypes:=#[84] },0,none⟩])))
    (.region [⟨some 39,Go.Op.binOp Go.BinOp.add 3 (Go.Operand.tmp 33) (Go.Operand.const (Go.Value.int Go.IntKind.i64 1)) 3,3,none⟩,
     ⟨some 33,Go.Op.move (Go.Operand.tmp 39),3,none⟩])))))))
  (.seq (.draw true [⟨⟨some 40,Go.Op.move (Go.Operand.tmp 6),3,none⟩,false,false,false⟩,
   ⟨⟨some 41,Go.Op.move (Go.Operand.tmp 7),3,none⟩,false,false,false⟩,
   ⟨⟨some 42,Go.Op.move (Go.Operand.tmp 5),79,none⟩,false,false,false⟩,
   ⟨⟨some 43,Go.Op.nilCheck (Go.Operand.tmp 42),0,none⟩,false,false,false⟩,
   ⟨⟨some 44,Go.Op.fieldAddr 81 (Go.Operand.tmp 43) 0,0,none⟩,false,false,false⟩,
   ⟨⟨some 45,Go.Op.load 40 (Go.Operand.tmp 44),40,none⟩,false,false,false⟩,
   ⟨⟨some 46,Go.Op.move (Go.Operand.tmp 5),79,none⟩,false,false,false⟩,
   ⟨⟨some 47,Go.Op.nilCheck (Go.Operand.tmp 46),0,none⟩,false,false,false⟩,
   ⟨⟨some 48,Go.Op.fieldAddr 81 (Go.Operand.tmp 47) 1,0,none⟩,false,false,false⟩,
   ⟨⟨some 49,Go.Op.load 41 (Go.Operand.tmp 48),41,none⟩,false,false,false⟩,
   ⟨⟨some 50,Go.Op.build 43 #[(0,Go.Operand.tmp 40),(1,Go.Operand.tmp 41),(2,Go.Operand.tmp 45),(3,Go.Operand.tmp 49)],43,none⟩,false,false,false⟩,
   ⟨⟨none,Go.Op.store 43 (Go.Operand.tmp 2) (Go.Operand.tmp 50),0,none⟩,true,false,false⟩,
   ⟨⟨some 3,Go.Op.assign (Go.Operand.const (Go.Value.int Go.IntKind.i64 0)),29,none⟩,false,false,false⟩] [[],[],[],[2],[2,3],[2,3,4],[],[6],[6,7],[6,7,8],[0,1,2,3,4,5,6,7,8,9],[0,1,2,3,4,5,6,7,8,9,10],[0,1,2,3,4,5,6,7,8,9,10,11]])
  .ret))))))) :=
 ⟨foll,Tryz.f19,Tryz.func19,by kernel_rfl,by kernel_rfl,by kernel_rfl,by rw [Tryz.ntmps19];decide⟩
theorem fn30:FnIs Tryz.prog 30 1 [Go.ResultVar.tmp 2] (.seq (.region [⟨some 1,Go.Op.box 39 (Go.Operand.tmp 0),0,none⟩,
   ⟨some 2,Go.Op.assign (Go.Operand.const (Go.Value.int Go.IntKind.i64 0)),3,none⟩])
  (.seq (.region [⟨some 3,Go.Op.assign (Go.Operand.const (Go.Value.int Go.IntKind.i64 0)),3,none⟩])
  (.seq (.seq (.region [⟨some 6,Go.Op.fieldAddr 39 (Go.Operand.tmp 1) 2,0,none⟩,
   ⟨some 7,Go.Op.load 37 (Go.Operand.tmp 6),37,none⟩,
   ⟨some 8,Go.Op.call { callee:=Go.Callee.builtin Go.Builtin.len,args:=#[Go.Operand.tmp 7],argTypes:=#[37] },3,none⟩,
   ⟨some 9,Go.Op.move (Go.Operand.const (Go.Value.int Go.IntKind.i64 0)),3,none⟩])
  (.block 0
   (.loop
    (.seq (.region [⟨some 10,Go.Op.binOp Go.BinOp.lss 3 (Go.Operand.tmp 9) (Go.Operand.tmp 8) 3,0,none⟩])
    (.seq (.cond (Go.Operand.tmp 10)
     .skip
     (.exit 0))
    (.seq (.block 1
     (.seq (.region [⟨some 11,Go.Op.indexAddr 37 (Go.Operand.tmp 7) (Go.Operand.tmp 9),0,none⟩,
      ⟨some 12,Go.Op.load 39 (Go.Operand.tmp 11),39,none⟩,
      ⟨some 5,Go.Op.alloc 39,0,none⟩,
      ⟨none,Go.Op.store 39 (Go.Operand.tmp 5) (Go.Operand.tmp 12),0,none⟩])
     (.region [⟨some 13,Go.Op.move (Go.Operand.tmp 3),3,none⟩,
      ⟨some 14,Go.Op.load 39 (Go.Operand.tmp 5),39,none⟩,
      ⟨some 15,Go.Op.call { callee:=Go.Callee.value (Go.Operand.func 30),args:=#[Go.Operand.tmp 14],argTypes:=#[39] },3,none⟩,
      ⟨some 16,Go.Op.binOp Go.BinOp.add 3 (Go.Operand.tmp 13) (Go.Operand.tmp 15) 3,3,none⟩,
      ⟨some 17,Go.Op.call { callee:=Go.Callee.builtin Go.Builtin.min,args:=#[Go.Operand.tmp 16,Go.Operand.const (Go.Value.int Go.IntKind.i64 3001)],argTypes:=#[3,3] },3,none⟩,
      ⟨some 3,Go.Op.assign (Go.Operand.tmp 17),3,none⟩])))
    (.region [⟨some 18,Go.Op.binOp Go.BinOp.add 3 (Go.Operand.tmp 9) (Go.Operand.const (Go.Value.int Go.IntKind.i64 1)) 3,3,none⟩,
     ⟨some 9,Go.Op.move (Go.Operand.tmp 18),3,none⟩])))))))
  (.seq (.seq (.region [⟨some 19,Go.Op.fieldAddr 39 (Go.Operand.tmp 1) 0,0,none⟩,
   ⟨some 20,Go.Op.load 3 (Go.Operand.tmp 19),3,none⟩,
   ⟨some 21,Go.Op.binOp Go.BinOp.eql 3 (Go.Operand.tmp 20) (Go.Operand.const (Go.Value.int Go.IntKind.i64 5)) 3,4,none⟩])
  (.cond (Go.Operand.tmp 21)
   (.region [⟨some 22,Go.Op.move (Go.Operand.tmp 3),3,none⟩,
    ⟨some 23,Go.Op.load 39 (Go.Operand.tmp 1),39,none⟩,
    ⟨some 24,Go.Op.call { callee:=Go.Callee.value (Go.Operand.func 45),args:=#[Go.Operand.tmp 23],argTypes:=#[39] },3,none⟩,
    ⟨some 25,Go.Op.binOp Go.BinOp.mul 3 (Go.Operand.tmp 22) (Go.Operand.tmp 24) 3,3,none⟩,
    ⟨some 26,Go.Op.call { callee:=Go.Callee.builtin Go.Builtin.min,args:=#[Go.Operand.tmp 25,Go.Operand.const (Go.Value.int Go.IntKind.i64 3001)],argTypes:=#[3,3] },3,none⟩,
    ⟨some 3,Go.Op.assign (Go.Operand.tmp 26),3,none⟩])
   .skip))
  (.seq (.region [⟨some 27,Go.Op.move (Go.Operand.tmp 3),3,none⟩,
   ⟨some 28,Go.Op.binOp Go.BinOp.add 3 (Go.Operand.tmp 27) (Go.Operand.const (Go.Value.int Go.IntKind.i64 2)) 3,3,none⟩,
   ⟨some 2,Go.Op.assign (Go.Operand.tmp 28),3,none⟩])
  .ret))))) :=
 ⟨foll,Tryz.f30,Tryz.func30,by kernel_rfl,by kernel_rfl,by kernel_rfl,by rw [Tryz.ntmps30];decide⟩
theorem fn31:FnIs Tryz.prog 31 2 [Go.ResultVar.tmp 4,Go.ResultVar.tmp 5] (.seq (.region [⟨some 3,Go.Op.box 39 (Go.Operand.tmp 1),0,none⟩,
   ⟨some 4,Go.Op.assign (Go.Operand.const (Go.Value.int Go.IntKind.i64 0)),3,none⟩,
   ⟨some 5,Go.Op.assign (Go.Operand.const (Go.Value.int Go.IntKind.i64 0)),3,none⟩])
  (.seq (.region [⟨some 25,Go.Op.move (Go.Operand.tmp 0),79,none⟩,
   ⟨some 26,Go.Op.call { callee:=Go.Callee.value (Go.Operand.func 46),args:=#[Go.Operand.tmp 25],argTypes:=#[79] },3,none⟩,
   ⟨some 6,Go.Op.assign (Go.Operand.tmp 26),3,none⟩])
  (.seq (.seq (.region [⟨some 27,Go.Op.fieldAddr 39 (Go.Operand.tmp 3) 0,0,none⟩,
   ⟨some 28,Go.Op.load 3 (Go.Operand.tmp 27),3,none⟩])
  (.block 0
   (.seq (.region [⟨some 30,Go.Op.binOp Go.BinOp.eql 3 (Go.Operand.tmp 28) (Go.Operand.const (Go.Value.int Go.IntKind.i64 2)) 3,4,none⟩,
    ⟨some 29,Go.Op.assign (Go.Operand.tmp 30),4,none⟩])
   (.cond (Go.Operand.tmp 29)
    (.seq (.region [⟨some 31,Go.Op.move (Go.Operand.tmp 0),79,none⟩,
     ⟨some 32,Go.Op.call { callee:=Go.Callee.value (Go.Operand.func 46),args:=#[Go.Operand.tmp 31],argTypes:=#[79] },3,none⟩,
     ⟨some 7,Go.Op.assign (Go.Operand.tmp 32),3,none⟩])
    (.seq (.seq (.region [⟨some 33,Go.Op.fieldAddr 39 (Go.Operand.tmp 3) 1,0,none⟩,
     ⟨some 34,Go.Op.load 36 (Go.Operand.tmp 33),36,none⟩,
     ⟨some 35,Go.Op.call { callee:=Go.Callee.builtin Go.Builtin.len,args:=#[Go.Operand.tmp 34],argTypes:=#[36] },3,none⟩,
     ⟨some 36,Go.Op.move (Go.Operand.const (Go.Value.int Go.IntKind.i64 0)),3,none⟩])
    (.block 1
     (.loop
      (.seq (.region [⟨some 37,Go.Op.binOp Go.BinOp.lss 3 (Go.Operand.tmp 36) (Go.Operand.tmp 35) 3,0,none⟩])
      (.seq (.cond (Go.Operand.tmp 37)
       .skip
       (.exit 1))
      (.seq (.block 2
       (.seq (.region [⟨some 38,Go.Op.indexAddr 36 (Go.Operand.tmp 34) (Go.Operand.tmp 36),0,none⟩,
        ⟨some 39,Go.Op.load 98 (Go.Operand.tmp 38),98,none⟩,
        ⟨some 9,Go.Op.alloc 98,0,none⟩,
        ⟨none,Go.Op.store 98 (Go.Operand.tmp 9) (Go.Operand.tmp 39),0,none⟩])
       (.draw true [⟨⟨some 40,Go.Op.move (Go.Operand.tmp 0),79,none⟩,false,false,true⟩,
        ⟨⟨some 41,Go.Op.nilCheck (Go.Operand.tmp 40),0,none⟩,false,false,true⟩,
        ⟨⟨some 42,Go.Op.fieldAddr 81 (Go.Operand.tmp 41) 0,0,none⟩,false,false,true⟩,
        ⟨⟨some 43,Go.Op.load 40 (Go.Operand.tmp 42),40,none⟩,false,false,true⟩,
        ⟨⟨some 44,Go.Op.move (Go.Operand.tmp 6),3,none⟩,false,false,true⟩,
        ⟨⟨some 45,Go.Op.move (Go.Operand.tmp 0),79,none⟩,false,false,true⟩,
        ⟨⟨some 46,Go.Op.nilCheck (Go.Operand.tmp 45),0,none⟩,false,false,true⟩,
        ⟨⟨some 47,Go.Op.fieldAddr 81 (Go.Operand.tmp 46) 0,0,none⟩,false,false,true⟩,
        ⟨⟨some 48,Go.Op.load 40 (Go.Operand.tmp 47),40,none⟩,false,false,true⟩,
        ⟨⟨some 49,Go.Op.move (Go.Operand.tmp 6),3,none⟩,false,false,true⟩,
        ⟨⟨some 50,Go.Op.indexAddr 40 (Go.Operand.tmp 48) (Go.Operand.tmp 49),0,none⟩,false,false,true⟩,
        ⟨⟨some 51,Go.Op.load 99 (Go.Operand.tmp 50),99,none⟩,false,false,true⟩,
        ⟨⟨some 52,Go.Op.load 98 (Go.Operand.tmp 9),98,none⟩,false,false,false⟩,
        ⟨⟨some 53,Go.Op.move (Go.Operand.tmp 7),3,none⟩,false,false,false⟩,
        ⟨⟨some 54,Go.Op.build 101 #[(0,Go.Operand.tmp 52),(1,Go.Operand.tmp 53)],101,none⟩,false,false,false⟩,
        ⟨⟨some 55,Go.Op.buildSlice 99 1 #[(0,Go.Operand.tmp 54)],99,none⟩,true,false,false⟩,
        ⟨⟨some 56,Go.Op.call { callee:=Go.Callee.builtin Go.Builtin.append,args:=#[Go.Operand.tmp 51,Go.Operand.tmp 55],argTypes:=#[99,99] },99,none⟩,true,false,false⟩,
        ⟨⟨some 57,Go.Op.indexAddr 40 (Go.Operand.tmp 43) (Go.Operand.tmp 44),0,none⟩,false,false,false⟩,
        ⟨⟨none,Go.Op.store 99 (Go.Operand.tmp 57) (Go.Operand.tmp 56),0,none⟩,true,false,false⟩] [[],[0],[0,1],[0,1,2],[],[],[5],[5,6],[5,6,7],[],[5,6,7,8,9],[5,6,7,8,9,10],[],[],[12,13],[12,13,14],[5,6,7,8,9,10,11,12,13,14,15],[0,1,2,3,4,5,6,7,8,9,10,11,12,13,14,15,16],[0,1,2,3,4,5,6,7,8,9,10,11,12,13,14,15,16,17]])))
      (.region [⟨some 58,Go.Op.binOp Go.BinOp.add 3 (Go.Operand.tmp 36) (Go.Operand.const (Go.Value.int Go.IntKind.i64 1)) 3,3,none⟩,
       ⟨some 36,Go.Op.move (Go.Operand.tmp 58),3,none⟩])))))))
    (.seq (.region [⟨some 59,Go.Op.move (Go.Operand.tmp 6),3,none⟩,
     ⟨some 60,Go.Op.move (Go.Operand.tmp 7),3,none⟩,
     ⟨some 4,Go.Op.assign (Go.Operand.tmp 59),3,none⟩,
     ⟨some 5,Go.Op.assign (Go.Operand.tmp 60),3,none⟩])
    .ret)))
    (.seq (.region [⟨some 62,Go.Op.binOp Go.BinOp.eql 3 (Go.Operand.tmp 28) (Go.Operand.const (Go.Value.int Go.IntKind.i64 3)) 3,4,none⟩,
     ⟨some 61,Go.Op.assign (Go.Operand.tmp 62),4,none⟩])
    (.cond (Go.Operand.tmp 61)
     (.seq (.region [⟨some 63,Go.Op.move (Go.Operand.tmp 6),3,none⟩,
      ⟨some 10,Go.Op.assign (Go.Operand.tmp 63),3,none⟩])
     (.seq (.seq (.region [⟨some 64,Go.Op.fieldAddr 39 (Go.Operand.tmp 3) 2,0,none⟩,
      ⟨some 65,Go.Op.load 37 (Go.Operand.tmp 64),37,none⟩,
      ⟨some 66,Go.Op.call { callee:=Go.Callee.builtin Go.Builtin.len,args:=#[Go.Operand.tmp 65],argTypes:=#[37] },3,none⟩,
      ⟨some 67,Go.Op.move (Go.Operand.const (Go.Value.int Go.IntKind.i64 0)),3,none⟩])
     (.block 3
      (.loop
       (.seq (.region [⟨some 68,Go.Op.binOp Go.BinOp.lss 3 (Go.Operand.tmp 67) (Go.Operand.tmp 66) 3,0,none⟩])
       (.seq (.cond (Go.Operand.tmp 68)
        .skip
        (.exit 3))
       (.seq (.block 4
        (.seq (.region [⟨some 69,Go.Op.indexAddr 37 (Go.Operand.tmp 65) (Go.Operand.tmp 67),0,none⟩,
         ⟨some 70,Go.Op.load 39 (Go.Operand.tmp 69),39,none⟩,
         ⟨some 12,Go.Op.alloc 39,0,none⟩,
         ⟨none,Go.Op.store 39 (Go.Operand.tmp 12) (Go.Operand.tmp 70),0,none⟩])
        (.seq (.region [⟨some 72,Go.Op.move (Go.Operand.tmp 0),79,none⟩,
         ⟨some 73,Go.Op.load 39 (Go.Operand.tmp 12),39,none⟩,
         ⟨some 74,Go.Op.call { callee:=Go.Callee.value (Go.Operand.func 31),args:=#[Go.Operand.tmp 72,Go.Operand.tmp 73],argTypes:=#[79,39] },82,none⟩,
         ⟨some 71,Go.Op.move (Go.Operand.tmp 74),82,none⟩,
         ⟨some 75,Go.Op.extract (Go.Operand.tmp 71) 0,3,none⟩,
         ⟨some 76,Go.Op.extract (Go.Operand.tmp 71) 1,3,none⟩,
         ⟨some 13,Go.Op.assign (Go.Operand.tmp 75),3,none⟩,
         ⟨some 14,Go.Op.assign (Go.Operand.tmp 76),3,none⟩])
        (.seq (.region [⟨some 77,Go.Op.move (Go.Operand.tmp 0),79,none⟩,
         ⟨some 78,Go.Op.move (Go.Operand.tmp 10),3,none⟩,
         ⟨some 79,Go.Op.move (Go.Operand.tmp 13),3,none⟩,
         ⟨some 80,Go.Op.call { callee:=Go.Callee.value (Go.Operand.func 47),args:=#[Go.Operand.tmp 77,Go.Operand.tmp 78,Go.Operand.tmp 79],argTypes:=#[79,3,3] },0,none⟩])
        (.region [⟨some 81,Go.Op.move (Go.Operand.tmp 14),3,none⟩,
         ⟨some 10,Go.Op.assign (Go.Operand.tmp 81),3,none⟩])))))
       (.region [⟨some 82,Go.Op.binOp Go.BinOp.add 3 (Go.Operand.tmp 67) (Go.Operand.const (Go.Value.int Go.IntKind.i64 1)) 3,3,none⟩,
        ⟨some 67,Go.Op.move (Go.Operand.tmp 82),3,none⟩])))))))
     (.seq (.region [⟨some 83,Go.Op.move (Go.Operand.tmp 0),79,none⟩,
      ⟨some 84,Go.Op.call { callee:=Go.Callee.value (Go.Operand.func 46),args:=#[Go.Operand.tmp 83],argTypes:=#[79] },3,none⟩,
      ⟨some 15,Go.Op.assign (Go.Operand.tmp 84),3,none⟩])
     (.seq (.region [⟨some 85,Go.Op.move (Go.Operand.tmp 0),79,none⟩,
      ⟨some 86,Go.Op.move (Go.Operand.tmp 10),3,none⟩,
      ⟨some 87,Go.Op.move (Go.Operand.tmp 15),3,none⟩,
      ⟨some 88,Go.Op.call { callee:=Go.Callee.value (Go.Operand.func 47),args:=#[Go.Operand.tmp 85,Go.Operand.tmp 86,Go.Operand.tmp 87],argTypes:=#[79,3,3] },0,none⟩])
     (.seq (.region [⟨some 89,Go.Op.move (Go.Operand.tmp 6),3,none⟩,
      ⟨some 90,Go.Op.move (Go.Operand.tmp 15),3,none⟩,
      ⟨some 4,Go.Op.assign (Go.Operand.tmp 89),3,none⟩,
      ⟨some 5,Go.Op.assign (Go.Operand.tmp 90),3,none⟩])
     .ret)))))
     (.seq (.region [⟨some 92,Go.Op.binOp Go.BinOp.eql 3 (Go.Operand.tmp 28) (Go.Operand.const (Go.Value.int Go.IntKind.i64 4)) 3,4,none⟩,
      ⟨some 91,Go.Op.assign (Go.Operand.tmp 92),4,none⟩])
     (.cond (Go.Operand.tmp 91)
      (.seq (.region [⟨some 16,Go.Op.assign (Go.Operand.const (Go.Value.slice none 0 0)),84,none⟩])
      (.seq (.seq (.region [⟨some 93,Go.Op.fieldAddr 39 (Go.Operand.tmp 3) 2,0,none⟩,
       ⟨some 94,Go.Op.load 37 (Go.Operand.tmp 93),37,none⟩,
       ⟨some 95,Go.Op.call { callee:=Go.Callee.builtin Go.Builtin.len,args:=#[Go.Operand.tmp 94],argTypes:=#[37] },3,none⟩,
       ⟨some 96,Go.Op.move (Go.Operand.const (Go.Value.int Go.IntKind.i64 0)),3,none⟩])
      (.block 5
       (.loop
        (.seq (.region [⟨some 97,Go.Op.binOp Go.BinOp.lss 3 (Go.Operand.tmp 96) (Go.Operand.tmp 95) 3,0,none⟩])
        (.seq (.cond (Go.Operand.tmp 97)
         .skip
         (.exit 5))
        (.seq (.block 6
         (.seq (.region [⟨some 98,Go.Op.indexAddr 37 (Go.Operand.tmp 94) (Go.Operand.tmp 96),0,none⟩,
          ⟨some 99,Go.Op.load 39 (Go.Operand.tmp 98),39,none⟩,
          ⟨some 18,Go.Op.alloc 39,0,none⟩,
          ⟨none,Go.Op.store 39 (Go.Operand.tmp 18) (Go.Operand.tmp 99),0,none⟩])
         (.seq (.region [⟨some 101,Go.Op.move (Go.Operand.tmp 0),79,none⟩,
          ⟨some 102,Go.Op.load 39 (Go.Operand.tmp 18),39,none⟩,
          ⟨some 103,Go.Op.call { callee:=Go.Callee.value (Go.Operand.func 31),args:=#[Go.Operand.tmp 101,Go.Operand.tmp 102],argTypes:=#[79,39] },82,none⟩,
          ⟨some 100,Go.Op.move (Go.Operand.tmp 103),82,none⟩,
          ⟨some 104,Go.Op.extract (Go.Operand.tmp 100) 0,3,none⟩,
          ⟨some 105,Go.Op.extract (Go.Operand.tmp 100) 1,3,none⟩,
          ⟨some 19,Go.Op.assign (Go.Operand.tmp 104),3,none⟩,
          ⟨some 20,Go.Op.assign (Go.Operand.tmp 105),3,none⟩])
         (.seq (.region [⟨some 106,Go.Op.move (Go.Operand.tmp 0),79,none⟩,
          ⟨some 107,Go.Op.move (Go.Operand.tmp 6),3,none⟩,
          ⟨some 108,Go.Op.move (Go.Operand.tmp 19),3,none⟩,
          ⟨some 109,Go.Op.call { callee:=Go.Callee.value (Go.Operand.func 47),args:=#[Go.Operand.tmp 106,Go.Operand.tmp 107,Go.Operand.tmp 108],argTypes:=#[79,3,3] },0,none⟩])
         (.region [⟨some 110,Go.Op.move (Go.Operand.tmp 16),84,none⟩,
          ⟨some 111,Go.Op.move (Go.Operand.tmp 20),3,none⟩,
          ⟨some 112,Go.Op.buildSlice 84 1 #[(0,Go.Operand.tmp 111)],84,none⟩,
          ⟨some 113,Go.Op.call { callee:=Go.Callee.builtin Go.Builtin.append,args:=#[Go.Operand.tmp 110,Go.Operand.tmp 112],argTypes:=#[84,84] },84,none⟩,
          ⟨some 16,Go.Op.assign (Go.Operand.tmp 113),84,none⟩])))))
        (.region [⟨some 114,Go.Op.binOp Go.BinOp.add 3 (Go.Operand.tmp 96) (Go.Operand.const (Go.Value.int Go.IntKind.i64 1)) 3,3,none⟩,
         ⟨some 96,Go.Op.move (Go.Operand.tmp 114),3,none⟩])))))))
      (.seq (.region [⟨some 115,Go.Op.move (Go.Operand.tmp 0),79,none⟩,
       ⟨some 116,Go.Op.call { callee:=Go.Callee.value (Go.Operand.func 46),args:=#[Go.Operand.tmp 115],argTypes:=#[79] },3,none⟩,
       ⟨some 21,Go.Op.assign (Go.Operand.tmp 116),3,none⟩])
      (.seq (.seq (.region [⟨some 117,Go.Op.move (Go.Operand.tmp 16),84,none⟩,
       ⟨some 118,Go.Op.call { callee:=Go.Callee.builtin Go.Builtin.len,args:=#[Go.Operand.tmp 117],argTypes:=#[84] },3,none⟩,
       ⟨some 119,Go.Op.move (Go.Operand.const (Go.Value.int Go.IntKind.i64 0)),3,none⟩])
      (.block 7
       (.loop
        (.seq (.region [⟨some 120,Go.Op.binOp Go.BinOp.lss 3 (Go.Operand.tmp 119) (Go.Operand.tmp 118) 3,0,none⟩])
        (.seq (.cond (Go.Operand.tmp 120)
         .skip
         (.exit 7))
        (.seq (.block 8
         (.seq (.region [⟨some 121,Go.Op.indexAddr 84 (Go.Operand.tmp 117) (Go.Operand.tmp 119),0,none⟩,
          ⟨some 122,Go.Op.load 3 (Go.Operand.tmp 121),3,none⟩,
          ⟨some 23,Go.Op.assign (Go.Operand.tmp 122),3,none⟩])
         (.region [⟨some 123,Go.Op.move (Go.Operand.tmp 0),79,none⟩,
          ⟨some 124,Go.Op.move (Go.Operand.tmp 23),3,none⟩,
          ⟨some 125,Go.Op.move (Go.Operand.tmp 21),3,none⟩,
          ⟨some 126,Go.Op.call { callee:=Go.Callee.value (Go.Operand.func 47),args:=#[Go.Operand.tmp 123,Go.Operand.tmp 124,Go.Operand.tmp 125],argTypes:=#[79,3,3] },0,none⟩])))
        (.region [⟨some 127,Go.Op.binOp Go.BinOp.add 3 (Go.Operand.tmp 119) (Go.Operand.const (Go.Value.int Go.IntKind.i64 1)) 3,3,none⟩,
         ⟨some 119,Go.Op.move (Go.Operand.tmp 127),3,none⟩])))))))
      (.seq (.region [⟨some 128,Go.Op.move (Go.Operand.tmp 6),3,none⟩,
       ⟨some 129,Go.Op.move (Go.Operand.tmp 21),3,none⟩,
       ⟨some 4,Go.Op.assign (Go.Operand.tmp 128),3,none⟩,
       ⟨some 5,Go.Op.assign (Go.Operand.tmp 129),3,none⟩])
      .ret)))))
      (.seq (.region [⟨some 131,Go.Op.binOp Go.BinOp.eql 3 (Go.Operand.tmp 28) (Go.Operand.const (Go.Value.int Go.IntKind.i64 5)) 3,4,none⟩,
       ⟨some 130,Go.Op.assign (Go.Operand.tmp 131),4,none⟩])
      (.cond (Go.Operand.tmp 130)
       (.seq (.region [⟨some 132,Go.Op.move (Go.Operand.tmp 6),3,none⟩,
        ⟨some 133,Go.Op.move (Go.Operand.tmp 0),79,none⟩,
        ⟨some 134,Go.Op.move (Go.Operand.tmp 6),3,none⟩,
        ⟨some 135,Go.Op.load 39 (Go.Operand.tmp 3),39,none⟩,
        ⟨some 136,Go.Op.call { callee:=Go.Callee.value (Go.Operand.func 48),args:=#[Go.Operand.tmp 133,Go.Operand.tmp 134,Go.Operand.tmp 135],argTypes:=#[79,3,39] },3,none⟩,
        ⟨some 4,Go.Op.assign (Go.Operand.tmp 132),3,none⟩,
        ⟨some 5,Go.Op.assign (Go.Operand.tmp 136),3,none⟩])
       .ret)
       .skip))))))))))
  (.seq (.region [⟨some 137,Go.Op.move (Go.Operand.tmp 0),79,none⟩,
   ⟨some 138,Go.Op.call { callee:=Go.Callee.value (Go.Operand.func 46),args:=#[Go.Operand.tmp 137],argTypes:=#[79] },3,none⟩,
   ⟨some 24,Go.Op.assign (Go.Operand.tmp 138),3,none⟩])
  (.seq (.region [⟨some 139,Go.Op.move (Go.Operand.tmp 0),79,none⟩,
   ⟨some 140,Go.Op.move (Go.Operand.tmp 6),3,none⟩,
   ⟨some 141,Go.Op.move (Go.Operand.tmp 24),3,none⟩,
   ⟨some 142,Go.Op.call { callee:=Go.Callee.value (Go.Operand.func 47),args:=#[Go.Operand.tmp 139,Go.Operand.tmp 140,Go.Operand.tmp 141],argTypes:=#[79,3,3] },0,none⟩])
  (.seq (.region [⟨some 143,Go.Op.move (Go.Operand.tmp 6),3,none⟩,
   ⟨some 144,Go.Op.move (Go.Operand.tmp 24),3,none⟩,
   ⟨some 4,Go.Op.assign (Go.Operand.tmp 143),3,none⟩,
   ⟨some 5,Go.Op.assign (Go.Operand.tmp 144),3,none⟩])
  .ret)))))) :=
 ⟨foll,Tryz.f31,Tryz.func31,by kernel_rfl,by kernel_rfl,by kernel_rfl,by rw [Tryz.ntmps31];decide⟩
theorem fn45:FnIs Tryz.prog 45 1 [Go.ResultVar.tmp 2] (.seq (.region [⟨some 1,Go.Op.box 39 (Go.Operand.tmp 0),0,none⟩,
   ⟨some 2,Go.Op.assign (Go.Operand.const (Go.Value.int Go.IntKind.i64 0)),3,none⟩])
  (.seq (.seq (.region [⟨some 3,Go.Op.fieldAddr 39 (Go.Operand.tmp 1) 4,0,none⟩,
   ⟨some 4,Go.Op.load 3 (Go.Operand.tmp 3),3,none⟩,
   ⟨some 5,Go.Op.binOp Go.BinOp.lss 3 (Go.Operand.tmp 4) (Go.Operand.const (Go.Value.int Go.IntKind.i64 0)) 3,4,none⟩])
  (.cond (Go.Operand.tmp 5)
   (.seq (.region [⟨some 6,Go.Op.fieldAddr 39 (Go.Operand.tmp 1) 3,0,none⟩,
    ⟨some 7,Go.Op.load 3 (Go.Operand.tmp 6),3,none⟩,
    ⟨some 8,Go.Op.binOp Go.BinOp.add 3 (Go.Operand.tmp 7) (Go.Operand.const (Go.Value.int Go.IntKind.i64 1)) 3,3,none⟩,
    ⟨some 2,Go.Op.assign (Go.Operand.tmp 8),3,none⟩])
   .ret)
   .skip))
  (.seq (.region [⟨some 9,Go.Op.fieldAddr 39 (Go.Operand.tmp 1) 4,0,none⟩,
   ⟨some 10,Go.Op.load 3 (Go.Operand.tmp 9),3,none⟩,
   ⟨some 2,Go.Op.assign (Go.Operand.tmp 10),3,none⟩])
  .ret))) :=
 ⟨foll,Tryz.f45,Tryz.func45,by kernel_rfl,by kernel_rfl,by kernel_rfl,by rw [Tryz.ntmps45];decide⟩
theorem fn46:FnIs Tryz.prog 46 1 [Go.ResultVar.tmp 2] (.seq (.region [⟨some 2,Go.Op.assign (Go.Operand.const (Go.Value.int Go.IntKind.i64 0)),3,none⟩])
  (.seq (.region [⟨some 3,Go.Op.move (Go.Operand.tmp 0),79,none⟩,
   ⟨some 4,Go.Op.move (Go.Operand.tmp 0),79,none⟩,
   ⟨some 5,Go.Op.nilCheck (Go.Operand.tmp 4),0,none⟩,
   ⟨some 6,Go.Op.fieldAddr 81 (Go.Operand.tmp 5) 0,0,none⟩,
   ⟨some 7,Go.Op.load 40 (Go.Operand.tmp 6),40,none⟩,
   ⟨some 8,Go.Op.buildSlice 40 1 #[(0,Go.Operand.const (Go.Value.slice none 0 0))],40,none⟩,
   ⟨some 9,Go.Op.call { callee:=Go.Callee.builtin Go.Builtin.append,args:=#[Go.Operand.tmp 7,Go.Operand.tmp 8],argTypes:=#[40,40] },40,none⟩,
   ⟨some 10,Go.Op.nilCheck (Go.Operand.tmp 3),0,none⟩,
   ⟨some 11,Go.Op.fieldAddr 81 (Go.Operand.tmp 10) 0,0,none⟩,
   ⟨none,Go.Op.store 40 (Go.Operand.tmp 11) (Go.Operand.tmp 9),0,none⟩])
  (.seq (.region [⟨some 12,Go.Op.move (Go.Operand.tmp 0),79,none⟩,
   ⟨some 13,Go.Op.move (Go.Operand.tmp 0),79,none⟩,
   ⟨some 14,Go.Op.nilCheck (Go.Operand.tmp 13),0,none⟩,
   ⟨some 15,Go.Op.fieldAddr 81 (Go.Operand.tmp 14) 1,0,none⟩,
   ⟨some 16,Go.Op.load 41 (Go.Operand.tmp 15),41,none⟩,
   ⟨some 17,Go.Op.buildSlice 41 1 #[(0,Go.Operand.const (Go.Value.slice none 0 0))],41,none⟩,
   ⟨some 18,Go.Op.call { callee:=Go.Callee.builtin Go.Builtin.append,args:=#[Go.Operand.tmp 16,Go.Operand.tmp 17],argTypes:=#[41,41] },41,none⟩,
   ⟨some 19,Go.Op.nilCheck (Go.Operand.tmp 12),0,none⟩,
   ⟨some 20,Go.Op.fieldAddr 81 (Go.Operand.tmp 19) 1,0,none⟩,
   ⟨none,Go.Op.store 41 (Go.Operand.tmp 20) (Go.Operand.tmp 18),0,none⟩])
  (.seq (.region [⟨some 21,Go.Op.move (Go.Operand.tmp 0),79,none⟩,
   ⟨some 22,Go.Op.nilCheck (Go.Operand.tmp 21),0,none⟩,
   ⟨some 23,Go.Op.fieldAddr 81 (Go.Operand.tmp 22) 0,0,none⟩,
   ⟨some 24,Go.Op.load 40 (Go.Operand.tmp 23),40,none⟩,
   ⟨some 25,Go.Op.call { callee:=Go.Callee.builtin Go.Builtin.len,args:=#[Go.Operand.tmp 24],argTypes:=#[40] },3,none⟩,
   ⟨some 26,Go.Op.binOp Go.BinOp.sub 3 (Go.Operand.tmp 25) (Go.Operand.const (Go.Value.int Go.IntKind.i64 1)) 3,3,none⟩,
   ⟨some 2,Go.Op.assign (Go.Operand.tmp 26),3,none⟩])
  .ret)))) :=
 ⟨foll,Tryz.f46,Tryz.func46,by kernel_rfl,by kernel_rfl,by kernel_rfl,by rw [Tryz.ntmps46];decide⟩
theorem fn47:FnIs Tryz.prog 47 3 [] (.seq (.region [⟨some 6,Go.Op.move (Go.Operand.tmp 0),79,none⟩,
   ⟨some 7,Go.Op.nilCheck (Go.Operand.tmp 6),0,none⟩,
   ⟨some 8,Go.Op.fieldAddr 81 (Go.Operand.tmp 7) 1,0,none⟩,
   ⟨some 9,Go.Op.load 41 (Go.Operand.tmp 8),41,none⟩,
   ⟨some 10,Go.Op.move (Go.Operand.tmp 1),3,none⟩,
   ⟨some 11,Go.Op.indexAddr 41 (Go.Operand.tmp 9) (Go.Operand.tmp 10),0,none⟩,
   ⟨some 12,Go.Op.load 84 (Go.Operand.tmp 11),84,none⟩,
   ⟨some 13,Go.Op.move (Go.Operand.tmp 2),3,none⟩,
   ⟨some 14,Go.Op.call { callee:=Go.Callee.value (Go.Operand.func 39),args:=#[Go.Operand.tmp 12,Go.Operand.tmp 13],argTypes:=#[84,3] },4,none⟩,
   ⟨some 15,Go.Op.unOp Go.UnOp.not 4 (Go.Operand.tmp 14),4,none⟩])
  (.cond (Go.Operand.tmp 15)
   (.draw true [⟨⟨some 16,Go.Op.move (Go.Operand.tmp 0),79,none⟩,false,false,true⟩,
    ⟨⟨some 17,Go.Op.nilCheck (Go.Operand.tmp 16),0,none⟩,false,false,true⟩,
    ⟨⟨some 18,Go.Op.fieldAddr 81 (Go.Operand.tmp 17) 1,0,none⟩,false,false,true⟩,
    ⟨⟨some 19,Go.Op.load 41 (Go.Operand.tmp 18),41,none⟩,false,false,true⟩,
    ⟨⟨some 20,Go.Op.move (Go.Operand.tmp 1),3,none⟩,false,false,true⟩,
    ⟨⟨some 21,Go.Op.move (Go.Operand.tmp 0),79,none⟩,false,false,true⟩,
    ⟨⟨some 22,Go.Op.nilCheck (Go.Operand.tmp 21),0,none⟩,false,false,true⟩,
    ⟨⟨some 23,Go.Op.fieldAddr 81 (Go.Operand.tmp 22) 1,0,none⟩,false,false,true⟩,
    ⟨⟨some 24,Go.Op.load 41 (Go.Operand.tmp 23),41,none⟩,false,false,true⟩,
    ⟨⟨some 25,Go.Op.move (Go.Operand.tmp 1),3,none⟩,false,false,true⟩,
    ⟨⟨some 26,Go.Op.indexAddr 41 (Go.Operand.tmp 24) (Go.Operand.tmp 25),0,none⟩,false,false,true⟩,
    ⟨⟨some 27,Go.Op.load 84 (Go.Operand.tmp 26),84,none⟩,false,false,true⟩,
    ⟨⟨some 28,Go.Op.move (Go.Operand.tmp 2),3,none⟩,false,false,false⟩,
    ⟨⟨some 29,Go.Op.buildSlice 84 1 #[(0,Go.Operand.tmp 28)],84,none⟩,true,false,false⟩,
    ⟨⟨some 30,Go.Op.call { callee:=Go.Callee.builtin Go.Builtin.append,args:=#[Go.Operand.tmp 27,Go.Operand.tmp 29],argTypes:=#[84,84] },84,none⟩,true,false,false⟩,
    ⟨⟨some 31,Go.Op.indexAddr 41 (Go.Operand.tmp 19) (Go.Operand.tmp 20),0,none⟩,false,false,false⟩,
    ⟨⟨none,Go.Op.store 84 (Go.Operand.tmp 31) (Go.Operand.tmp 30),0,none⟩,true,false,false⟩] [[],[0],[0,1],[0,1,2],[],[],[5],[5,6],[5,6,7],[],[5,6,7,8,9],[5,6,7,8,9,10],[],[12],[5,6,7,8,9,10,11,12,13],[0,1,2,3,4,5,6,7,8,9,10,11,12,13,14],[0,1,2,3,4,5,6,7,8,9,10,11,12,13,14,15]])
   .skip)) :=
 ⟨foll,Tryz.f47,Tryz.func47,by kernel_rfl,by kernel_rfl,by kernel_rfl,by rw [Tryz.ntmps47];decide⟩
theorem fn48:FnIs Tryz.prog 48 3 [Go.ResultVar.tmp 6] (.seq (.region [⟨some 5,Go.Op.box 39 (Go.Operand.tmp 2),0,none⟩,
   ⟨some 6,Go.Op.assign (Go.Operand.const (Go.Value.int Go.IntKind.i64 0)),3,none⟩])
  (.seq (.region [⟨some 14,Go.Op.move (Go.Operand.tmp 1),3,none⟩,
   ⟨some 15,Go.Op.buildSlice 84 1 #[(0,Go.Operand.tmp 14)],84,none⟩,
   ⟨some 7,Go.Op.assign (Go.Operand.tmp 15),84,none⟩])
  (.seq (.region [⟨some 16,Go.Op.move (Go.Operand.tmp 1),3,none⟩,
   ⟨some 8,Go.Op.assign (Go.Operand.tmp 16),3,none⟩])
  (.seq (.seq (.region [⟨some 17,Go.Op.load 39 (Go.Operand.tmp 5),39,none⟩,
   ⟨some 18,Go.Op.call { callee:=Go.Callee.value (Go.Operand.func 45),args:=#[Go.Operand.tmp 17],argTypes:=#[39] },3,none⟩,
   ⟨some 19,Go.Op.move (Go.Operand.const (Go.Value.int Go.IntKind.i64 0)),3,none⟩])
  (.block 0
   (.loop
    (.seq (.region [⟨some 20,Go.Op.binOp Go.BinOp.lss 3 (Go.Operand.tmp 19) (Go.Operand.tmp 18) 3,4,none⟩])
    (.seq (.cond (Go.Operand.tmp 20)
     .skip
     (.exit 0))
    (.seq (.block 1
     (.seq (.region [⟨some 22,Go.Op.move (Go.Operand.tmp 0),79,none⟩,
      ⟨some 23,Go.Op.fieldAddr 39 (Go.Operand.tmp 5) 2,0,none⟩,
      ⟨some 24,Go.Op.load 37 (Go.Operand.tmp 23),37,none⟩,
      ⟨some 25,Go.Op.indexAddr 37 (Go.Operand.tmp 24) (Go.Operand.const (Go.Value.int Go.IntKind.i64 0)),0,none⟩,
      ⟨some 26,Go.Op.load 39 (Go.Operand.tmp 25),39,none⟩,
      ⟨some 27,Go.Op.call { callee:=Go.Callee.value (Go.Operand.func 31),args:=#[Go.Operand.tmp 22,Go.Operand.tmp 26],argTypes:=#[79,39] },82,none⟩,
      ⟨some 21,Go.Op.move (Go.Operand.tmp 27),82,none⟩,
      ⟨some 28,Go.Op.extract (Go.Operand.tmp 21) 0,3,none⟩,
      ⟨some 29,Go.Op.extract (Go.Operand.tmp 21) 1,3,none⟩,
      ⟨some 9,Go.Op.assign (Go.Operand.tmp 28),3,none⟩,
      ⟨some 10,Go.Op.assign (Go.Operand.tmp 29),3,none⟩])
     (.seq (.region [⟨some 30,Go.Op.move (Go.Operand.tmp 0),79,none⟩,
      ⟨some 31,Go.Op.move (Go.Operand.tmp 7),84,none⟩,
      ⟨some 32,Go.Op.move (Go.Operand.tmp 7),84,none⟩,
      ⟨some 33,Go.Op.call { callee:=Go.Callee.builtin Go.Builtin.len,args:=#[Go.Operand.tmp 32],argTypes:=#[84] },3,none⟩,
      ⟨some 34,Go.Op.binOp Go.BinOp.sub 3 (Go.Operand.tmp 33) (Go.Operand.const (Go.Value.int Go.IntKind.i64 1)) 3,3,none⟩,
      ⟨some 35,Go.Op.indexAddr 84 (Go.Operand.tmp 31) (Go.Operand.tmp 34),0,none⟩,
      ⟨some 36,Go.Op.load 3 (Go.Operand.tmp 35),3,none⟩,
      ⟨some 37,Go.Op.move (Go.Operand.tmp 9),3,none⟩,
      ⟨some 38,Go.Op.call { callee:=Go.Callee.value (Go.Operand.func 47),args:=#[Go.Operand.tmp 30,Go.Operand.tmp 36,Go.Operand.tmp 37],argTypes:=#[79,3,3] },0,none⟩])
     (.seq (.region [⟨some 39,Go.Op.move (Go.Operand.tmp 7),84,none⟩,
      ⟨some 40,Go.Op.move (Go.Operand.tmp 10),3,none⟩,
      ⟨some 41,Go.Op.buildSlice 84 1 #[(0,Go.Operand.tmp 40)],84,none⟩,
      ⟨some 42,Go.Op.call { callee:=Go.Callee.builtin Go.Builtin.append,args:=#[Go.Operand.tmp 39,Go.Operand.tmp 41],argTypes:=#[84,84] },84,none⟩,
      ⟨some 7,Go.Op.assign (Go.Operand.tmp 42),84,none⟩])
     (.region [⟨some 43,Go.Op.move (Go.Operand.tmp 9),3,none⟩,
      ⟨some 8,Go.Op.assign (Go.Operand.tmp 43),3,none⟩])))))
    (.region [⟨some 44,Go.Op.binOp Go.BinOp.add 3 (Go.Operand.tmp 19) (Go.Operand.const (Go.Value.int Go.IntKind.i64 1)) 3,3,none⟩,
     ⟨some 19,Go.Op.move (Go.Operand.tmp 44),3,none⟩])))))))
  (.seq (.region [⟨some 45,Go.Op.move (Go.Operand.tmp 0),79,none⟩,
   ⟨some 46,Go.Op.call { callee:=Go.Callee.value (Go.Operand.func 46),args:=#[Go.Operand.tmp 45],argTypes:=#[79] },3,none⟩,
   ⟨some 11,Go.Op.assign (Go.Operand.tmp 46),3,none⟩])
  (.seq (.seq (.region [⟨some 47,Go.Op.move (Go.Operand.tmp 7),84,none⟩,
   ⟨some 48,Go.Op.fieldAddr 39 (Go.Operand.tmp 5) 3,0,none⟩,
   ⟨some 49,Go.Op.load 3 (Go.Operand.tmp 48),3,none⟩,
   ⟨some 50,Go.Op.slice 84 (Go.Operand.tmp 47) (some (Go.Operand.tmp 49)) none none,84,none⟩,
   ⟨some 51,Go.Op.call { callee:=Go.Callee.builtin Go.Builtin.len,args:=#[Go.Operand.tmp 50],argTypes:=#[84] },3,none⟩,
   ⟨some 52,Go.Op.move (Go.Operand.const (Go.Value.int Go.IntKind.i64 0)),3,none⟩])
  (.block 2
   (.loop
    (.seq (.region [⟨some 53,Go.Op.binOp Go.BinOp.lss 3 (Go.Operand.tmp 52) (Go.Operand.tmp 51) 3,0,none⟩])
    (.seq (.cond (Go.Operand.tmp 53)
     .skip
     (.exit 2))
    (.seq (.block 3
     (.seq (.region [⟨some 54,Go.Op.indexAddr 84 (Go.Operand.tmp 50) (Go.Operand.tmp 52),0,none⟩,
      ⟨some 55,Go.Op.load 3 (Go.Operand.tmp 54),3,none⟩,
      ⟨some 13,Go.Op.assign (Go.Operand.tmp 55),3,none⟩])
     (.region [⟨some 56,Go.Op.move (Go.Operand.tmp 0),79,none⟩,
      ⟨some 57,Go.Op.move (Go.Operand.tmp 13),3,none⟩,
      ⟨some 58,Go.Op.move (Go.Operand.tmp 11),3,none⟩,
      ⟨some 59,Go.Op.call { callee:=Go.Callee.value (Go.Operand.func 47),args:=#[Go.Operand.tmp 56,Go.Operand.tmp 57,Go.Operand.tmp 58],argTypes:=#[79,3,3] },0,none⟩])))
    (.region [⟨some 60,Go.Op.binOp Go.BinOp.add 3 (Go.Operand.tmp 52) (Go.Operand.const (Go.Value.int Go.IntKind.i64 1)) 3,3,none⟩,
     ⟨some 52,Go.Op.move (Go.Operand.tmp 60),3,none⟩])))))))
  (.seq (.seq (.region [⟨some 61,Go.Op.fieldAddr 39 (Go.Operand.tmp 5) 4,0,none⟩,
   ⟨some 62,Go.Op.load 3 (Go.Operand.tmp 61),3,none⟩,
   ⟨some 63,Go.Op.binOp Go.BinOp.lss 3 (Go.Operand.tmp 62) (Go.Operand.const (Go.Value.int Go.IntKind.i64 0)) 3,4,none⟩])
  (.cond (Go.Operand.tmp 63)
   (.region [⟨some 64,Go.Op.move (Go.Operand.tmp 0),79,none⟩,
    ⟨some 65,Go.Op.move (Go.Operand.tmp 7),84,none⟩,
    ⟨some 66,Go.Op.move (Go.Operand.tmp 7),84,none⟩,
    ⟨some 67,Go.Op.call { callee:=Go.Callee.builtin Go.Builtin.len,args:=#[Go.Operand.tmp 66],argTypes:=#[84] },3,none⟩,
    ⟨some 68,Go.Op.binOp Go.BinOp.sub 3 (Go.Operand.tmp 67) (Go.Operand.const (Go.Value.int Go.IntKind.i64 1)) 3,3,none⟩,
    ⟨some 69,Go.Op.indexAddr 84 (Go.Operand.tmp 65) (Go.Operand.tmp 68),0,none⟩,
    ⟨some 70,Go.Op.load 3 (Go.Operand.tmp 69),3,none⟩,
    ⟨some 71,Go.Op.move (Go.Operand.tmp 8),3,none⟩,
    ⟨some 72,Go.Op.call { callee:=Go.Callee.value (Go.Operand.func 47),args:=#[Go.Operand.tmp 64,Go.Operand.tmp 70,Go.Operand.tmp 71],argTypes:=#[79,3,3] },0,none⟩])
   .skip))
  (.seq (.region [⟨some 73,Go.Op.move (Go.Operand.tmp 11),3,none⟩,
   ⟨some 6,Go.Op.assign (Go.Operand.tmp 73),3,none⟩])
  .ret)))))))) :=
 ⟨foll,Tryz.f48,Tryz.func48,by kernel_rfl,by kernel_rfl,by kernel_rfl,by rw [Tryz.ntmps48];decide⟩
end Go.Proofs.YtfnddhbiolpmgaaGreatDoor
