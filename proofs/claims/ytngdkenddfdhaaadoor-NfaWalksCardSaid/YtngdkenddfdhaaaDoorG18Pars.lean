/- Part of a proof about the functions of this seat. -/
import Derived.Test.YtngdkenddfdhaaaDoorG09Base3e
import Derived.Test.YtngdkenddfdhaaaDoorG11O3e
/- The prepared code of further functions. Written by a program of mine (gen.py) out of what the loaded dump prints. -/

set_option linter.unusedVariables false
set_option maxRecDepth 100000
namespace Go.Proofs.YtngdkenddfdhaaaDoor
open Go Nv
theorem fn5:FnIs Tryd.prog 5 2 [Go.ResultVar.tmp 4] (.seq (.region [⟨some 2,Go.Op.box 25 (Go.Operand.tmp 0),0,none⟩,
   ⟨some 4,Go.Op.assign (Go.Operand.const (Go.Value.bool false)),4,none⟩])
  (.seq (.seq (.region [⟨some 12,Go.Op.load 25 (Go.Operand.tmp 2),25,none⟩,
   ⟨some 13,Go.Op.call { callee:=Go.Callee.value (Go.Operand.func 6),args:=#[Go.Operand.tmp 12],argTypes:=#[25] },3,none⟩,
   ⟨some 14,Go.Op.binOp Go.BinOp.gtr 3 (Go.Operand.tmp 13) (Go.Operand.const (Go.Value.int Go.IntKind.i64 0)) 3,4,none⟩,
   ⟨some 15,Go.Op.move (Go.Operand.tmp 14),4,none⟩,
   ⟨some 16,Go.Op.load 25 (Go.Operand.tmp 2),25,(some (15,false))⟩,
   ⟨some 17,Go.Op.call { callee:=Go.Callee.value (Go.Operand.func 7),args:=#[Go.Operand.tmp 16],argTypes:=#[25] },28,(some (15,false))⟩,
   ⟨some 18,Go.Op.binOp Go.BinOp.neq 28 (Go.Operand.tmp 17) (Go.Operand.const (Go.Value.int Go.IntKind.i64 0)) 28,4,(some (15,false))⟩,
   ⟨some 19,Go.Op.pick (Go.Operand.tmp 15) (Go.Operand.const (Go.Value.bool true)) (Go.Operand.tmp 18),4,none⟩,
   ⟨some 20,Go.Op.move (Go.Operand.tmp 19),4,none⟩,
   ⟨some 21,Go.Op.move (Go.Operand.tmp 1),37,(some (20,false))⟩,
   ⟨some 22,Go.Op.call { callee:=Go.Callee.builtin Go.Builtin.len,args:=#[Go.Operand.tmp 21],argTypes:=#[37] },3,(some (20,false))⟩,
   ⟨some 23,Go.Op.binOp Go.BinOp.gtr 3 (Go.Operand.tmp 22) (Go.Operand.const (Go.Value.int Go.IntKind.i64 20)) 3,4,(some (20,false))⟩,
   ⟨some 24,Go.Op.pick (Go.Operand.tmp 20) (Go.Operand.const (Go.Value.bool true)) (Go.Operand.tmp 23),4,none⟩])
  (.cond (Go.Operand.tmp 24)
   (.seq (.region [⟨some 25,Go.Op.call { callee:=Go.Callee.value (Go.Operand.func 8),args:=#[],argTypes:=#[] },4,none⟩,
    ⟨some 4,Go.Op.assign (Go.Operand.tmp 25),4,none⟩])
   .ret)
   .skip))
  (.seq (.region [⟨some 26,Go.Op.load 25 (Go.Operand.tmp 2),25,none⟩,
   ⟨some 27,Go.Op.fieldAddr 25 (Go.Operand.tmp 2) 0,0,none⟩,
   ⟨some 28,Go.Op.load 3 (Go.Operand.tmp 27),3,none⟩,
   ⟨some 29,Go.Op.buildSlice 26 1 #[(0,Go.Operand.tmp 28)],26,none⟩,
   ⟨some 30,Go.Op.call { callee:=Go.Callee.value (Go.Operand.func 9),args:=#[Go.Operand.tmp 26,Go.Operand.tmp 29],argTypes:=#[25,26] },26,none⟩,
   ⟨some 5,Go.Op.assign (Go.Operand.tmp 30),26,none⟩,
   ⟨some 6,Go.Op.assign (Go.Operand.const (Go.Value.string { data:=#[] })),9,none⟩])
  (.seq (.seq (.region [⟨some 31,Go.Op.move (Go.Operand.tmp 1),37,none⟩,
   ⟨some 32,Go.Op.call { callee:=Go.Callee.builtin Go.Builtin.len,args:=#[Go.Operand.tmp 31],argTypes:=#[37] },3,none⟩,
   ⟨some 33,Go.Op.move (Go.Operand.const (Go.Value.int Go.IntKind.i64 0)),3,none⟩])
  (.block 0
   (.loop
    (.seq (.region [⟨some 34,Go.Op.binOp Go.BinOp.lss 3 (Go.Operand.tmp 33) (Go.Operand.tmp 32) 3,0,none⟩])
    (.seq (.cond (Go.Operand.tmp 34)
     .skip
     (.exit 0))
    (.seq (.block 1
     (.seq (.region [⟨some 35,Go.Op.indexAddr 37 (Go.Operand.tmp 31) (Go.Operand.tmp 33),0,none⟩,
      ⟨some 36,Go.Op.load 5 (Go.Operand.tmp 35),5,none⟩,
      ⟨some 8,Go.Op.assign (Go.Operand.tmp 36),5,none⟩])
     (.seq (.region [⟨some 37,Go.Op.load 25 (Go.Operand.tmp 2),25,none⟩,
      ⟨some 38,Go.Op.move (Go.Operand.tmp 5),26,none⟩,
      ⟨some 39,Go.Op.move (Go.Operand.tmp 8),5,none⟩,
      ⟨some 40,Go.Op.binOp Go.BinOp.rem 5 (Go.Operand.tmp 39) (Go.Operand.const (Go.Value.int Go.IntKind.u8 128)) 5,5,none⟩,
      ⟨some 41,Go.Op.convert 5 21 (Go.Operand.tmp 40),21,none⟩,
      ⟨some 42,Go.Op.call { callee:=Go.Callee.value (Go.Operand.func 11),args:=#[Go.Operand.tmp 37,Go.Operand.tmp 38,Go.Operand.tmp 41],argTypes:=#[25,26,21] },26,none⟩,
      ⟨some 5,Go.Op.assign (Go.Operand.tmp 42),26,none⟩])
     (.region [⟨some 43,Go.Op.move (Go.Operand.tmp 6),9,none⟩,
      ⟨some 44,Go.Op.move (Go.Operand.tmp 8),5,none⟩,
      ⟨some 45,Go.Op.binOp Go.BinOp.rem 5 (Go.Operand.tmp 44) (Go.Operand.const (Go.Value.int Go.IntKind.u8 128)) 5,5,none⟩,
      ⟨some 46,Go.Op.buildSlice 37 1 #[(0,Go.Operand.tmp 45)],37,none⟩,
      ⟨some 47,Go.Op.convert 37 9 (Go.Operand.tmp 46),9,none⟩,
      ⟨some 48,Go.Op.binOp Go.BinOp.add 9 (Go.Operand.tmp 43) (Go.Operand.tmp 47) 9,9,none⟩,
      ⟨some 6,Go.Op.assign (Go.Operand.tmp 48),9,none⟩]))))
    (.region [⟨some 49,Go.Op.binOp Go.BinOp.add 3 (Go.Operand.tmp 33) (Go.Operand.const (Go.Value.int Go.IntKind.i64 1)) 3,3,none⟩,
     ⟨some 33,Go.Op.move (Go.Operand.tmp 49),3,none⟩])))))))
  (.seq (.region [⟨some 9,Go.Op.assign (Go.Operand.const (Go.Value.bool false)),4,none⟩])
  (.seq (.seq (.region [⟨some 50,Go.Op.move (Go.Operand.tmp 5),26,none⟩,
   ⟨some 51,Go.Op.call { callee:=Go.Callee.builtin Go.Builtin.len,args:=#[Go.Operand.tmp 50],argTypes:=#[26] },3,none⟩,
   ⟨some 52,Go.Op.move (Go.Operand.const (Go.Value.int Go.IntKind.i64 0)),3,none⟩])
  (.block 2
   (.loop
    (.seq (.region [⟨some 53,Go.Op.binOp Go.BinOp.lss 3 (Go.Operand.tmp 52) (Go.Operand.tmp 51) 3,0,none⟩])
    (.seq (.cond (Go.Operand.tmp 53)
     .skip
     (.exit 2))
    (.seq (.block 3
     (.seq (.region [⟨some 54,Go.Op.indexAddr 26 (Go.Operand.tmp 50) (Go.Operand.tmp 52),0,none⟩,
      ⟨some 55,Go.Op.load 3 (Go.Operand.tmp 54),3,none⟩,
      ⟨some 11,Go.Op.assign (Go.Operand.tmp 55),3,none⟩])
     (.region [⟨some 56,Go.Op.move (Go.Operand.tmp 9),4,none⟩,
      ⟨some 57,Go.Op.move (Go.Operand.tmp 56),4,none⟩,
      ⟨some 58,Go.Op.move (Go.Operand.tmp 11),3,(some (57,false))⟩,
      ⟨some 59,Go.Op.fieldAddr 25 (Go.Operand.tmp 2) 1,0,(some (57,false))⟩,
      ⟨some 60,Go.Op.load 3 (Go.Operand.tmp 59),3,(some (57,false))⟩,
      ⟨some 61,Go.Op.binOp Go.BinOp.eql 3 (Go.Operand.tmp 58) (Go.Operand.tmp 60) 3,4,(some (57,false))⟩,
      ⟨some 62,Go.Op.pick (Go.Operand.tmp 57) (Go.Operand.const (Go.Value.bool true)) (Go.Operand.tmp 61),4,none⟩,
      ⟨some 9,Go.Op.assign (Go.Operand.tmp 62),4,none⟩])))
    (.region [⟨some 63,Go.Op.binOp Go.BinOp.add 3 (Go.Operand.tmp 52) (Go.Operand.const (Go.Value.int Go.IntKind.i64 1)) 3,3,none⟩,
     ⟨some 52,Go.Op.move (Go.Operand.tmp 63),3,none⟩])))))))
  (.seq (.region [⟨some 64,Go.Op.load 25 (Go.Operand.tmp 2),25,none⟩,
   ⟨some 65,Go.Op.move (Go.Operand.tmp 6),9,none⟩,
   ⟨some 66,Go.Op.call { callee:=Go.Callee.value (Go.Operand.func 12),args:=#[Go.Operand.tmp 64,Go.Operand.tmp 65],argTypes:=#[25,9] },4,none⟩,
   ⟨some 67,Go.Op.move (Go.Operand.tmp 9),4,none⟩,
   ⟨some 68,Go.Op.binOp Go.BinOp.eql 4 (Go.Operand.tmp 66) (Go.Operand.tmp 67) 4,4,none⟩,
   ⟨some 69,Go.Op.move (Go.Operand.tmp 68),4,none⟩,
   ⟨some 70,Go.Op.call { callee:=Go.Callee.value (Go.Operand.func 8),args:=#[],argTypes:=#[] },4,(some (69,true))⟩,
   ⟨some 71,Go.Op.pick (Go.Operand.tmp 69) (Go.Operand.tmp 70) (Go.Operand.const (Go.Value.bool false)),4,none⟩,
   ⟨some 4,Go.Op.assign (Go.Operand.tmp 71),4,none⟩])
  .ret))))))) :=
 ⟨foll,Tryd.f5,Tryd.func5,by kernel_rfl,by kernel_rfl,by kernel_rfl,by rw [Tryd.ntmps5];decide⟩
theorem fn6:FnIs Tryd.prog 6 1 [Go.ResultVar.tmp 2] (.seq (.region [⟨some 1,Go.Op.box 25 (Go.Operand.tmp 0),0,none⟩,
   ⟨some 2,Go.Op.assign (Go.Operand.const (Go.Value.int Go.IntKind.i64 0)),3,none⟩])
  (.seq (.seq (.region [⟨some 5,Go.Op.fieldAddr 25 (Go.Operand.tmp 1) 2,0,none⟩,
   ⟨some 6,Go.Op.load 22 (Go.Operand.tmp 5),22,none⟩,
   ⟨some 7,Go.Op.call { callee:=Go.Callee.builtin Go.Builtin.len,args:=#[Go.Operand.tmp 6],argTypes:=#[22] },3,none⟩,
   ⟨some 8,Go.Op.binOp Go.BinOp.gtr 3 (Go.Operand.tmp 7) (Go.Operand.const (Go.Value.int Go.IntKind.i64 30)) 3,4,none⟩,
   ⟨some 9,Go.Op.move (Go.Operand.tmp 8),4,none⟩,
   ⟨some 10,Go.Op.fieldAddr 25 (Go.Operand.tmp 1) 3,0,(some (9,false))⟩,
   ⟨some 11,Go.Op.load 23 (Go.Operand.tmp 10),23,(some (9,false))⟩,
   ⟨some 12,Go.Op.call { callee:=Go.Callee.builtin Go.Builtin.len,args:=#[Go.Operand.tmp 11],argTypes:=#[23] },3,(some (9,false))⟩,
   ⟨some 13,Go.Op.binOp Go.BinOp.gtr 3 (Go.Operand.tmp 12) (Go.Operand.const (Go.Value.int Go.IntKind.i64 30)) 3,4,(some (9,false))⟩,
   ⟨some 14,Go.Op.pick (Go.Operand.tmp 9) (Go.Operand.const (Go.Value.bool true)) (Go.Operand.tmp 13),4,none⟩])
  (.cond (Go.Operand.tmp 14)
   (.seq (.region [⟨some 2,Go.Op.assign (Go.Operand.const (Go.Value.int Go.IntKind.i64 1)),3,none⟩])
   .ret)
   .skip))
  (.seq (.seq (.region [⟨some 3,Go.Op.assign (Go.Operand.const (Go.Value.int Go.IntKind.i64 0)),3,none⟩])
  (.block 0
   (.loop
    (.seq (.seq (.region [⟨some 15,Go.Op.move (Go.Operand.tmp 3),3,none⟩,
     ⟨some 16,Go.Op.fieldAddr 25 (Go.Operand.tmp 1) 2,0,none⟩,
     ⟨some 17,Go.Op.load 22 (Go.Operand.tmp 16),22,none⟩,
     ⟨some 18,Go.Op.call { callee:=Go.Callee.builtin Go.Builtin.len,args:=#[Go.Operand.tmp 17],argTypes:=#[22] },3,none⟩,
     ⟨some 19,Go.Op.binOp Go.BinOp.lss 3 (Go.Operand.tmp 15) (Go.Operand.tmp 18) 3,4,none⟩])
    (.cond (Go.Operand.tmp 19)
     .skip
     (.exit 0)))
    (.seq (.block 1
     (.seq (.region [⟨some 22,Go.Op.fieldAddr 25 (Go.Operand.tmp 1) 2,0,none⟩,
      ⟨some 23,Go.Op.load 22 (Go.Operand.tmp 22),22,none⟩,
      ⟨some 24,Go.Op.move (Go.Operand.tmp 3),3,none⟩,
      ⟨some 25,Go.Op.indexAddr 22 (Go.Operand.tmp 23) (Go.Operand.tmp 24),0,none⟩,
      ⟨some 26,Go.Op.load 40 (Go.Operand.tmp 25),40,none⟩,
      ⟨some 27,Go.Op.call { callee:=Go.Callee.builtin Go.Builtin.len,args:=#[Go.Operand.tmp 26],argTypes:=#[40] },3,none⟩,
      ⟨some 28,Go.Op.binOp Go.BinOp.gtr 3 (Go.Operand.tmp 27) (Go.Operand.const (Go.Value.int Go.IntKind.i64 30)) 3,4,none⟩])
     (.cond (Go.Operand.tmp 28)
      (.seq (.region [⟨some 2,Go.Op.assign (Go.Operand.const (Go.Value.int Go.IntKind.i64 1)),3,none⟩])
      .ret)
      .skip)))
    (.region [⟨some 20,Go.Op.move (Go.Operand.tmp 3),3,none⟩,
     ⟨some 21,Go.Op.binOp Go.BinOp.add 3 (Go.Operand.tmp 20) (Go.Operand.const (Go.Value.int Go.IntKind.i64 1)) 3,3,none⟩,
     ⟨some 3,Go.Op.assign (Go.Operand.tmp 21),3,none⟩]))))))
  (.seq (.seq (.region [⟨some 4,Go.Op.assign (Go.Operand.const (Go.Value.int Go.IntKind.i64 0)),3,none⟩])
  (.block 2
   (.loop
    (.seq (.seq (.region [⟨some 29,Go.Op.move (Go.Operand.tmp 4),3,none⟩,
     ⟨some 30,Go.Op.fieldAddr 25 (Go.Operand.tmp 1) 3,0,none⟩,
     ⟨some 31,Go.Op.load 23 (Go.Operand.tmp 30),23,none⟩,
     ⟨some 32,Go.Op.call { callee:=Go.Callee.builtin Go.Builtin.len,args:=#[Go.Operand.tmp 31],argTypes:=#[23] },3,none⟩,
     ⟨some 33,Go.Op.binOp Go.BinOp.lss 3 (Go.Operand.tmp 29) (Go.Operand.tmp 32) 3,4,none⟩])
    (.cond (Go.Operand.tmp 33)
     .skip
     (.exit 2)))
    (.seq (.block 3
     (.seq (.region [⟨some 36,Go.Op.fieldAddr 25 (Go.Operand.tmp 1) 3,0,none⟩,
      ⟨some 37,Go.Op.load 23 (Go.Operand.tmp 36),23,none⟩,
      ⟨some 38,Go.Op.move (Go.Operand.tmp 4),3,none⟩,
      ⟨some 39,Go.Op.indexAddr 23 (Go.Operand.tmp 37) (Go.Operand.tmp 38),0,none⟩,
      ⟨some 40,Go.Op.load 26 (Go.Operand.tmp 39),26,none⟩,
      ⟨some 41,Go.Op.call { callee:=Go.Callee.builtin Go.Builtin.len,args:=#[Go.Operand.tmp 40],argTypes:=#[26] },3,none⟩,
      ⟨some 42,Go.Op.binOp Go.BinOp.gtr 3 (Go.Operand.tmp 41) (Go.Operand.const (Go.Value.int Go.IntKind.i64 30)) 3,4,none⟩])
     (.cond (Go.Operand.tmp 42)
      (.seq (.region [⟨some 2,Go.Op.assign (Go.Operand.const (Go.Value.int Go.IntKind.i64 1)),3,none⟩])
      .ret)
      .skip)))
    (.region [⟨some 34,Go.Op.move (Go.Operand.tmp 4),3,none⟩,
     ⟨some 35,Go.Op.binOp Go.BinOp.add 3 (Go.Operand.tmp 34) (Go.Operand.const (Go.Value.int Go.IntKind.i64 1)) 3,3,none⟩,
     ⟨some 4,Go.Op.assign (Go.Operand.tmp 35),3,none⟩]))))))
  (.seq (.region [⟨some 2,Go.Op.assign (Go.Operand.const (Go.Value.int Go.IntKind.i64 0)),3,none⟩])
  .ret))))) :=
 ⟨foll,Tryd.f6,Tryd.func6,by kernel_rfl,by kernel_rfl,by kernel_rfl,by rw [Tryd.ntmps6];decide⟩
theorem fn8:FnIs Tryd.prog 8 0 [Go.ResultVar.tmp 0] (.seq (.region [⟨some 0,Go.Op.assign (Go.Operand.const (Go.Value.bool false)),4,none⟩])
  (.seq (.region [⟨some 8,Go.Op.call { callee:=Go.Callee.value (Go.Operand.func 16),args:=#[Go.Operand.const (Go.Value.int Go.IntKind.i32 97)],argTypes:=#[21] },52,none⟩,
   ⟨some 9,Go.Op.call { callee:=Go.Callee.value (Go.Operand.func 15),args:=#[Go.Operand.tmp 8],argTypes:=#[52] },47,none⟩,
   ⟨some 7,Go.Op.move (Go.Operand.tmp 9),47,none⟩,
   ⟨some 10,Go.Op.extract (Go.Operand.tmp 7) 0,25,none⟩,
   ⟨some 11,Go.Op.extract (Go.Operand.tmp 7) 1,28,none⟩,
   ⟨some 1,Go.Op.alloc 25,0,none⟩,
   ⟨none,Go.Op.store 25 (Go.Operand.tmp 1) (Go.Operand.tmp 10),0,none⟩,
   ⟨some 2,Go.Op.assign (Go.Operand.tmp 11),28,none⟩])
  (.seq (.region [⟨some 13,Go.Op.call { callee:=Go.Callee.value (Go.Operand.func 17),args:=#[Go.Operand.const (Go.Value.string { data:=#[97,123,50,44,125] })],argTypes:=#[9] },54,none⟩,
   ⟨some 12,Go.Op.move (Go.Operand.tmp 13),54,none⟩,
   ⟨some 14,Go.Op.extract (Go.Operand.tmp 12) 0,52,none⟩,
   ⟨some 15,Go.Op.extract (Go.Operand.tmp 12) 1,28,none⟩,
   ⟨some 3,Go.Op.alloc 52,0,none⟩,
   ⟨none,Go.Op.store 52 (Go.Operand.tmp 3) (Go.Operand.tmp 14),0,none⟩,
   ⟨some 4,Go.Op.assign (Go.Operand.tmp 15),28,none⟩])
  (.seq (.region [⟨some 17,Go.Op.load 52 (Go.Operand.tmp 3),52,none⟩,
   ⟨some 18,Go.Op.call { callee:=Go.Callee.value (Go.Operand.func 15),args:=#[Go.Operand.tmp 17],argTypes:=#[52] },47,none⟩,
   ⟨some 16,Go.Op.move (Go.Operand.tmp 18),47,none⟩,
   ⟨some 19,Go.Op.extract (Go.Operand.tmp 16) 0,25,none⟩,
   ⟨some 20,Go.Op.extract (Go.Operand.tmp 16) 1,28,none⟩,
   ⟨some 5,Go.Op.alloc 25,0,none⟩,
   ⟨none,Go.Op.store 25 (Go.Operand.tmp 5) (Go.Operand.tmp 19),0,none⟩,
   ⟨some 6,Go.Op.assign (Go.Operand.tmp 20),28,none⟩])
  (.seq (.region [⟨some 21,Go.Op.move (Go.Operand.tmp 2),28,none⟩,
   ⟨some 22,Go.Op.binOp Go.BinOp.eql 28 (Go.Operand.tmp 21) (Go.Operand.const (Go.Value.int Go.IntKind.i64 0)) 28,4,none⟩,
   ⟨some 23,Go.Op.move (Go.Operand.tmp 22),4,none⟩,
   ⟨some 24,Go.Op.move (Go.Operand.tmp 4),28,(some (23,true))⟩,
   ⟨some 25,Go.Op.binOp Go.BinOp.eql 28 (Go.Operand.tmp 24) (Go.Operand.const (Go.Value.int Go.IntKind.i64 0)) 28,4,(some (23,true))⟩,
   ⟨some 26,Go.Op.pick (Go.Operand.tmp 23) (Go.Operand.tmp 25) (Go.Operand.const (Go.Value.bool false)),4,none⟩,
   ⟨some 27,Go.Op.move (Go.Operand.tmp 26),4,none⟩,
   ⟨some 28,Go.Op.move (Go.Operand.tmp 6),28,(some (27,true))⟩,
   ⟨some 29,Go.Op.binOp Go.BinOp.eql 28 (Go.Operand.tmp 28) (Go.Operand.const (Go.Value.int Go.IntKind.i64 0)) 28,4,(some (27,true))⟩,
   ⟨some 30,Go.Op.pick (Go.Operand.tmp 27) (Go.Operand.tmp 29) (Go.Operand.const (Go.Value.bool false)),4,none⟩,
   ⟨some 31,Go.Op.move (Go.Operand.tmp 30),4,none⟩,
   ⟨some 32,Go.Op.fieldAddr 25 (Go.Operand.tmp 1) 2,0,(some (31,true))⟩,
   ⟨some 33,Go.Op.load 22 (Go.Operand.tmp 32),22,(some (31,true))⟩,
   ⟨some 34,Go.Op.call { callee:=Go.Callee.builtin Go.Builtin.len,args:=#[Go.Operand.tmp 33],argTypes:=#[22] },3,(some (31,true))⟩,
   ⟨some 35,Go.Op.binOp Go.BinOp.eql 3 (Go.Operand.tmp 34) (Go.Operand.const (Go.Value.int Go.IntKind.i64 2)) 3,4,(some (31,true))⟩,
   ⟨some 36,Go.Op.pick (Go.Operand.tmp 31) (Go.Operand.tmp 35) (Go.Operand.const (Go.Value.bool false)),4,none⟩,
   ⟨some 37,Go.Op.move (Go.Operand.tmp 36),4,none⟩,
   ⟨some 38,Go.Op.load 25 (Go.Operand.tmp 1),25,(some (37,true))⟩,
   ⟨some 39,Go.Op.call { callee:=Go.Callee.value (Go.Operand.func 12),args:=#[Go.Operand.tmp 38,Go.Operand.const (Go.Value.string { data:=#[97] })],argTypes:=#[25,9] },4,(some (37,true))⟩,
   ⟨some 40,Go.Op.pick (Go.Operand.tmp 37) (Go.Operand.tmp 39) (Go.Operand.const (Go.Value.bool false)),4,none⟩,
   ⟨some 41,Go.Op.move (Go.Operand.tmp 40),4,none⟩,
   ⟨some 42,Go.Op.load 25 (Go.Operand.tmp 1),25,(some (41,true))⟩,
   ⟨some 43,Go.Op.call { callee:=Go.Callee.value (Go.Operand.func 12),args:=#[Go.Operand.tmp 42,Go.Operand.const (Go.Value.string { data:=#[] })],argTypes:=#[25,9] },4,(some (41,true))⟩,
   ⟨some 44,Go.Op.unOp Go.UnOp.not 4 (Go.Operand.tmp 43),4,(some (41,true))⟩,
   ⟨some 45,Go.Op.pick (Go.Operand.tmp 41) (Go.Operand.tmp 44) (Go.Operand.const (Go.Value.bool false)),4,none⟩,
   ⟨some 46,Go.Op.move (Go.Operand.tmp 45),4,none⟩,
   ⟨some 47,Go.Op.fieldAddr 25 (Go.Operand.tmp 5) 2,0,(some (46,true))⟩,
   ⟨some 48,Go.Op.load 22 (Go.Operand.tmp 47),22,(some (46,true))⟩,
   ⟨some 49,Go.Op.call { callee:=Go.Callee.builtin Go.Builtin.len,args:=#[Go.Operand.tmp 48],argTypes:=#[22] },3,(some (46,true))⟩,
   ⟨some 50,Go.Op.binOp Go.BinOp.eql 3 (Go.Operand.tmp 49) (Go.Operand.const (Go.Value.int Go.IntKind.i64 8)) 3,4,(some (46,true))⟩,
   ⟨some 51,Go.Op.pick (Go.Operand.tmp 46) (Go.Operand.tmp 50) (Go.Operand.const (Go.Value.bool false)),4,none⟩,
   ⟨some 52,Go.Op.move (Go.Operand.tmp 51),4,none⟩,
   ⟨some 53,Go.Op.load 25 (Go.Operand.tmp 5),25,(some (52,true))⟩,
   ⟨some 54,Go.Op.call { callee:=Go.Callee.value (Go.Operand.func 12),args:=#[Go.Operand.tmp 53,Go.Operand.const (Go.Value.string { data:=#[97,97,97] })],argTypes:=#[25,9] },4,(some (52,true))⟩,
   ⟨some 55,Go.Op.pick (Go.Operand.tmp 52) (Go.Operand.tmp 54) (Go.Operand.const (Go.Value.bool false)),4,none⟩,
   ⟨some 56,Go.Op.move (Go.Operand.tmp 55),4,none⟩,
   ⟨some 57,Go.Op.load 25 (Go.Operand.tmp 5),25,(some (56,true))⟩,
   ⟨some 58,Go.Op.call { callee:=Go.Callee.value (Go.Operand.func 12),args:=#[Go.Operand.tmp 57,Go.Operand.const (Go.Value.string { data:=#[97] })],argTypes:=#[25,9] },4,(some (56,true))⟩,
   ⟨some 59,Go.Op.unOp Go.UnOp.not 4 (Go.Operand.tmp 58),4,(some (56,true))⟩,
   ⟨some 60,Go.Op.pick (Go.Operand.tmp 56) (Go.Operand.tmp 59) (Go.Operand.const (Go.Value.bool false)),4,none⟩,
   ⟨some 0,Go.Op.assign (Go.Operand.tmp 60),4,none⟩])
  .ret))))) :=
 ⟨foll,Tryd.f8,Tryd.func8,by kernel_rfl,by kernel_rfl,by kernel_rfl,by rw [Tryd.ntmps8];decide⟩
theorem fn9:FnIs Tryd.prog 9 2 [Go.ResultVar.tmp 4] (.seq (.region [⟨some 2,Go.Op.box 25 (Go.Operand.tmp 0),0,none⟩,
   ⟨some 4,Go.Op.assign (Go.Operand.const (Go.Value.slice none 0 0)),26,none⟩])
  (.seq (.seq (.region [⟨some 5,Go.Op.load 25 (Go.Operand.tmp 2),25,none⟩,
   ⟨some 6,Go.Op.call { callee:=Go.Callee.value (Go.Operand.func 7),args:=#[Go.Operand.tmp 5],argTypes:=#[25] },28,none⟩,
   ⟨some 7,Go.Op.binOp Go.BinOp.neq 28 (Go.Operand.tmp 6) (Go.Operand.const (Go.Value.int Go.IntKind.i64 0)) 28,4,none⟩])
  (.cond (Go.Operand.tmp 7)
   (.seq (.region [⟨some 4,Go.Op.assign (Go.Operand.const (Go.Value.slice none 0 0)),26,none⟩])
   .ret)
   .skip))
  (.seq (.region [⟨some 8,Go.Op.load 25 (Go.Operand.tmp 2),25,none⟩,
   ⟨some 9,Go.Op.move (Go.Operand.tmp 1),26,none⟩,
   ⟨some 10,Go.Op.call { callee:=Go.Callee.value (Go.Operand.func 18),args:=#[Go.Operand.tmp 8,Go.Operand.tmp 9],argTypes:=#[25,26] },26,none⟩,
   ⟨some 4,Go.Op.assign (Go.Operand.tmp 10),26,none⟩])
  .ret))) :=
 ⟨foll,Tryd.f9,Tryd.func9,by kernel_rfl,by kernel_rfl,by kernel_rfl,by rw [Tryd.ntmps9];decide⟩
theorem fn11:FnIs Tryd.prog 11 3 [Go.ResultVar.tmp 6] (.seq (.region [⟨some 3,Go.Op.box 25 (Go.Operand.tmp 0),0,none⟩,
   ⟨some 6,Go.Op.assign (Go.Operand.const (Go.Value.slice none 0 0)),26,none⟩])
  (.seq (.seq (.region [⟨some 7,Go.Op.load 25 (Go.Operand.tmp 3),25,none⟩,
   ⟨some 8,Go.Op.call { callee:=Go.Callee.value (Go.Operand.func 7),args:=#[Go.Operand.tmp 7],argTypes:=#[25] },28,none⟩,
   ⟨some 9,Go.Op.binOp Go.BinOp.neq 28 (Go.Operand.tmp 8) (Go.Operand.const (Go.Value.int Go.IntKind.i64 0)) 28,4,none⟩])
  (.cond (Go.Operand.tmp 9)
   (.seq (.region [⟨some 6,Go.Op.assign (Go.Operand.const (Go.Value.slice none 0 0)),26,none⟩])
   .ret)
   .skip))
  (.seq (.draw true [⟨⟨some 10,Go.Op.load 25 (Go.Operand.tmp 3),25,none⟩,false,false,false⟩,
   ⟨⟨some 11,Go.Op.load 25 (Go.Operand.tmp 3),25,none⟩,false,false,false⟩,
   ⟨⟨some 12,Go.Op.move (Go.Operand.tmp 1),26,none⟩,false,false,false⟩,
   ⟨⟨some 13,Go.Op.call { callee:=Go.Callee.value (Go.Operand.func 18),args:=#[Go.Operand.tmp 11,Go.Operand.tmp 12],argTypes:=#[25,26] },26,none⟩,false,false,false⟩,
   ⟨⟨some 14,Go.Op.move (Go.Operand.tmp 2),21,none⟩,false,false,false⟩,
   ⟨⟨some 15,Go.Op.call { callee:=Go.Callee.value (Go.Operand.func 19),args:=#[Go.Operand.tmp 10,Go.Operand.tmp 13,Go.Operand.tmp 14],argTypes:=#[25,26,21] },26,none⟩,false,false,false⟩,
   ⟨⟨some 6,Go.Op.assign (Go.Operand.tmp 15),26,none⟩,false,false,false⟩] [[],[],[],[1,2],[],[0,1,2,3,4],[0,1,2,3,4,5]])
  .ret))) :=
 ⟨foll,Tryd.f11,Tryd.func11,by kernel_rfl,by kernel_rfl,by kernel_rfl,by rw [Tryd.ntmps11];decide⟩
theorem fn16:FnIs Tryd.prog 16 1 [Go.ResultVar.cell 2 52] (.seq (.region [⟨some 2,Go.Op.alloc 52,0,none⟩])
  (.seq (.region [⟨some 3,Go.Op.move (Go.Operand.tmp 0),21,none⟩,
   ⟨some 4,Go.Op.move (Go.Operand.tmp 0),21,none⟩,
   ⟨some 5,Go.Op.build 43 #[(0,Go.Operand.tmp 3),(1,Go.Operand.tmp 4)],43,none⟩,
   ⟨some 6,Go.Op.buildSlice 49 1 #[(0,Go.Operand.tmp 5)],49,none⟩,
   ⟨some 7,Go.Op.build 52 #[(0,Go.Operand.const (Go.Value.int Go.IntKind.i64 2)),(1,Go.Operand.tmp 6)],52,none⟩,
   ⟨none,Go.Op.store 52 (Go.Operand.tmp 2) (Go.Operand.tmp 7),0,none⟩])
  .ret)) :=
 ⟨foll,Tryd.f16,Tryd.func16,by kernel_rfl,by kernel_rfl,by kernel_rfl,by rw [Tryd.ntmps16];decide⟩
end Go.Proofs.YtngdkenddfdhaaaDoor
/- Patterns as texts of characters: how they are read,and how they are written. Plain: no program. -/

set_option linter.unusedVariables false
set_option linter.unusedSimpArgs false
namespace Pat
def allS:List (Int × Int):=[(0,55295),(57344,1114111)]
def clip1 (a b:Int) (q:Int × Int):List (Int × Int):=if max a q.1≤min b q.2 then [(max a q.1,min b q.2)] else []
def clipS (a b:Int):List (Int × Int):=clip1 a b (0,55295)++clip1 a b (57344,1114111)
def joinR (out:List (Int × Int)) (r:Int × Int):List (Int × Int) :=
 if 0<out.length∧r.1≤(out.getD (out.length - 1) default).2+1 then out.set (out.length - 1) ((out.getD (out.length - 1) default).1,max (out.getD (out.length - 1) default).2 r.2)
 else out++[r]
def compL:Int→List (Int × Int)→List (Int × Int)
 | low,[]=>clipS low 1114111
 | low,r::l=>clipS low (r.1 - 1)++compL (r.2+1) l
def compS (l:List (Int × Int)):List (Int × Int):=compL 0 l
def spec:List Int:=[92,40,41,91,93,123,125,124,42,43,63,46]
def digit (c:Int):Bool:=decide (48≤c) && decide (c≤57)
def numL:List Int→Int→Int × List Int
 | [],n=>(n,[])
 | c::t,n=>if digit c then numL t (min (10 * n+(c - 48)) 1000) else (n,c::t)
def numP (l:List Int):Option (Int × List Int) :=
 if (numL l 0).2.length=l.length∨(l.headD 0=48∧(numL l 0).2.length+1<l.length)∨20<(numL l 0).1 then none else some (numL l 0)
def oneP:List Int→Option (Int × List Int)
 | []=>none
 | c::t=>some (c,t)
def letP:List Int→Option (Int × List Int)
 | []=>none
 | c::t=>if c=92 then oneP t else if c=93∨c=94∨c=45 then none else some (c,t)
def itemP (l:List Int):Option ((Int × Int) × List Int) :=
 match letP l with
 | none=>none
 | some x=>if x.2.headD (-1)=45 then (letP x.2.tail).map fun y=>((x.1,y.1),y.2) else some ((x.1,x.1),x.2)
def clsP:Nat→List (Int × Int)→List Int→Option (List (Int × Int) × List Int)
 | 0,_,_=>none
 | f+1,acc,l =>
  if acc≠[]∧l.headD (-1)=93 then some (acc,l.tail)
  else match itemP l with
   | none=>none
   | some (q,r)=>if q.2<q.1 then none else clsP f (acc++clipS q.1 q.2) r
section
variable (sort:List (Int × Int)→List (Int × Int))
def normS (l:List (Int × Int)):List (Int × Int):=(sort l).foldl joinR []
def classP (l:List Int):Option (List (Int × Int) × List Int) :=
 if l.headD (-1)=94 then (clsP (l.length+1) [] l.tail).map fun x=>(compS (normS sort x.1),x.2)
 else (clsP (l.length+1) [] l).map fun x=>(normS sort x.1,x.2)
def setT (s:List (Int × Int)):Tree:=.mk 2 s [] 0 0
def rep5 (x:Tree) (a b:Int):Tree:=.mk 5 [] [x] a b
def mkJoin:List Tree→Tree
 | []=>.mk 1 [] [] 0 0
 | [x]=>x
 | l=>.mk 3 [] l 0 0
def mkChoice:List Tree→Tree
 | [x]=>x
 | l=>.mk 4 [] l 0 0
variable (ch:List Int→Option (Tree × List Int))
def atomP:List Int→Option (Tree × List Int)
 | []=>none
 | c::t =>
  if c=40 then (match ch t with
   | none=>none
   | some (n,r)=>if r.headD (-1)=41 then some (n,r.tail) else none)
  else if c=46 then some (setT allS,t)
  else if c=91 then (classP sort t).map fun x=>(setT x.1,x.2)
  else if c=92 then (match t with | []=>none | d::t=>some (setT [(d,d)],t))
  else if c∈spec then none
  else some (setT [(c,c)],t)
def bndP (l:List Int):Option ((Int × Int) × List Int) :=
 match numP l with
 | none=>none
 | some (a,r) =>
  match (if r.headD (-1)=44 then (if r.tail.headD (-1)=125 then some (-1,r.tail) else numP r.tail) else some (a,r)) with
  | none=>none
  | some (b,r)=>if r.headD (-1)=125∧¬ (0≤b∧b<a) then some ((a,b),r.tail) else none
def repP (l:List Int):Option (Tree × List Int) :=
 match atomP sort ch l with
 | none=>none
 | some (x,r) =>
  if r.headD (-1)=42 then some (rep5 x 0 (-1),r.tail)
  else if r.headD (-1)=43 then some (rep5 x 1 (-1),r.tail)
  else if r.headD (-1)=63 then some (rep5 x 0 1,r.tail)
  else if r.headD (-1)=123 then (bndP r.tail).map fun y=>(rep5 x y.1.1 y.1.2,y.2)
  else some (x,r)
def joinL:Nat→List Int→Option (List Tree × List Int)
 | 0,_=>none
 | f+1,l =>
  if l.headD (-1)<0∨l.headD (-1)=124∨l.headD (-1)=41 then some ([],l)
  else match repP sort ch l with
   | none=>none
   | some (x,r)=>(joinL f r).map fun y=>(x::y.1,y.2)
def joinP (l:List Int):Option (Tree × List Int):=(joinL sort ch (l.length+1) l).map fun y=>(mkJoin y.1,y.2)
def choiceL:Nat→List Int→Option (List Tree × List Int)
 | 0,_=>none
 | f+1,l =>
  match joinP sort ch l with
  | none=>none
  | some (x,r)=>if r.headD (-1)=124 then (choiceL f r.tail).map fun y=>(x::y.1,y.2) else some ([x],r)
def choiceP (l:List Int):Option (Tree × List Int):=(choiceL sort ch (l.length+1) l).map fun y=>(mkChoice y.1,y.2)
end
def chP (sort:List (Int × Int)→List (Int × Int)):Nat→List Int→Option (Tree × List Int)
 | 0=>fun _=>none
 | f+1=>choiceP sort (chP sort f)
def parseC (sort:List (Int × Int)→List (Int × Int)) (l:List Int):Option Tree :=
 match chP sort (l.length+1) l with
 | some (n,[])=>some n
 | _=>none
/- writing -/
end Pat
