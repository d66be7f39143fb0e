/- Part of a proof about the functions of this seat. -/
import Derived.Test.YtfnddhbiolpmgaaGreatDoorG10Base56
import Derived.Shelf.Strings.Search3
import Derived.Shelf.LaysM
import Derived.Shelf.Vars
import Derived.KernelRfl
import Derived.Test.YtfnddhbiolpmgaaGreatDoorProg
import Derived.Test.YtfnddhbiolpmgaaGreatDoorG12Q56
import Derived.WalkKit
import Derived.ProofKit
import Derived.OpenShut
import Derived.Carry
import Derived.Deep.Slices
import Derived.HandedShaped
import Derived.ChangeMaps5
/- The prepared code of further functions. Written by a program of mine (gen.py) out of what the loaded dump prints. -/

set_option linter.unusedVariables false
set_option maxRecDepth 100000
namespace Go.Proofs.YtfnddhbiolpmgaaGreatDoor
open Go Nv
theorem fn3:FnIs Tryz.prog 3 2 [Go.ResultVar.tmp 4] (.seq (.region [⟨some 4,Go.Op.assign (Go.Operand.const (Go.Value.bool false)),4,none⟩])
  (.seq (.seq (.region [⟨some 13,Go.Op.move (Go.Operand.tmp 0),22,none⟩,
   ⟨some 14,Go.Op.call { callee:=Go.Callee.builtin Go.Builtin.len,args:=#[Go.Operand.tmp 13],argTypes:=#[22] },3,none⟩,
   ⟨some 15,Go.Op.binOp Go.BinOp.gtr 3 (Go.Operand.tmp 14) (Go.Operand.const (Go.Value.int Go.IntKind.i64 20)) 3,4,none⟩,
   ⟨some 16,Go.Op.move (Go.Operand.tmp 15),4,none⟩,
   ⟨some 17,Go.Op.move (Go.Operand.tmp 1),22,(some (16,false))⟩,
   ⟨some 18,Go.Op.call { callee:=Go.Callee.builtin Go.Builtin.len,args:=#[Go.Operand.tmp 17],argTypes:=#[22] },3,(some (16,false))⟩,
   ⟨some 19,Go.Op.binOp Go.BinOp.eql 3 (Go.Operand.tmp 18) (Go.Operand.const (Go.Value.int Go.IntKind.i64 0)) 3,4,(some (16,false))⟩,
   ⟨some 20,Go.Op.pick (Go.Operand.tmp 16) (Go.Operand.const (Go.Value.bool true)) (Go.Operand.tmp 19),4,none⟩,
   ⟨some 21,Go.Op.move (Go.Operand.tmp 20),4,none⟩,
   ⟨some 22,Go.Op.move (Go.Operand.tmp 1),22,(some (21,false))⟩,
   ⟨some 23,Go.Op.call { callee:=Go.Callee.builtin Go.Builtin.len,args:=#[Go.Operand.tmp 22],argTypes:=#[22] },3,(some (21,false))⟩,
   ⟨some 24,Go.Op.binOp Go.BinOp.gtr 3 (Go.Operand.tmp 23) (Go.Operand.const (Go.Value.int Go.IntKind.i64 5)) 3,4,(some (21,false))⟩,
   ⟨some 25,Go.Op.pick (Go.Operand.tmp 21) (Go.Operand.const (Go.Value.bool true)) (Go.Operand.tmp 24),4,none⟩])
  (.cond (Go.Operand.tmp 25)
   (.seq (.region [⟨some 26,Go.Op.call { callee:=Go.Callee.value (Go.Operand.func 4),args:=#[],argTypes:=#[] },4,none⟩,
    ⟨some 4,Go.Op.assign (Go.Operand.tmp 26),4,none⟩])
   .ret)
   .skip))
  (.seq (.region [⟨some 5,Go.Op.assign (Go.Operand.func 5),24,none⟩])
  (.seq (.region [⟨some 27,Go.Op.move (Go.Operand.tmp 5),24,none⟩,
   ⟨some 28,Go.Op.move (Go.Operand.tmp 0),22,none⟩,
   ⟨some 29,Go.Op.call { callee:=Go.Callee.value (Go.Operand.tmp 27),args:=#[Go.Operand.tmp 28],argTypes:=#[22] },9,none⟩,
   ⟨some 30,Go.Op.move (Go.Operand.tmp 5),24,none⟩,
   ⟨some 31,Go.Op.move (Go.Operand.tmp 1),22,none⟩,
   ⟨some 32,Go.Op.call { callee:=Go.Callee.value (Go.Operand.tmp 30),args:=#[Go.Operand.tmp 31],argTypes:=#[22] },9,none⟩,
   ⟨some 6,Go.Op.assign (Go.Operand.tmp 29),9,none⟩,
   ⟨some 7,Go.Op.assign (Go.Operand.tmp 32),9,none⟩])
  (.seq (.region [⟨some 33,Go.Op.buildSlice 25 0 #[],25,none⟩,
   ⟨some 8,Go.Op.assign (Go.Operand.tmp 33),25,none⟩])
  (.seq (.seq (.region [⟨some 9,Go.Op.assign (Go.Operand.const (Go.Value.int Go.IntKind.i64 0)),3,none⟩])
  (.block 0
   (.loop
    (.block 1
     (.seq (.region [⟨some 34,Go.Op.move (Go.Operand.tmp 6),9,none⟩,
      ⟨some 35,Go.Op.move (Go.Operand.tmp 9),3,none⟩,
      ⟨some 36,Go.Op.slice 9 (Go.Operand.tmp 34) (some (Go.Operand.tmp 35)) none none,9,none⟩,
      ⟨some 37,Go.Op.move (Go.Operand.tmp 7),9,none⟩,
      ⟨some 38,Go.Op.call { callee:=Go.Callee.value (Go.Operand.func 6),args:=#[Go.Operand.tmp 36,Go.Operand.tmp 37],argTypes:=#[9,9] },3,none⟩,
      ⟨some 10,Go.Op.assign (Go.Operand.tmp 38),3,none⟩])
     (.seq (.seq (.region [⟨some 39,Go.Op.move (Go.Operand.tmp 10),3,none⟩,
      ⟨some 40,Go.Op.binOp Go.BinOp.lss 3 (Go.Operand.tmp 39) (Go.Operand.const (Go.Value.int Go.IntKind.i64 0)) 3,4,none⟩])
     (.cond (Go.Operand.tmp 40)
      (.exit 0)
      .skip))
     (.seq (.region [⟨some 41,Go.Op.move (Go.Operand.tmp 8),25,none⟩,
      ⟨some 42,Go.Op.move (Go.Operand.tmp 9),3,none⟩,
      ⟨some 43,Go.Op.move (Go.Operand.tmp 10),3,none⟩,
      ⟨some 44,Go.Op.binOp Go.BinOp.add 3 (Go.Operand.tmp 42) (Go.Operand.tmp 43) 3,3,none⟩,
      ⟨some 45,Go.Op.move (Go.Operand.tmp 9),3,none⟩,
      ⟨some 46,Go.Op.move (Go.Operand.tmp 10),3,none⟩,
      ⟨some 47,Go.Op.binOp Go.BinOp.add 3 (Go.Operand.tmp 45) (Go.Operand.tmp 46) 3,3,none⟩,
      ⟨some 48,Go.Op.move (Go.Operand.tmp 7),9,none⟩,
      ⟨some 49,Go.Op.call { callee:=Go.Callee.builtin Go.Builtin.len,args:=#[Go.Operand.tmp 48],argTypes:=#[9] },3,none⟩,
      ⟨some 50,Go.Op.binOp Go.BinOp.add 3 (Go.Operand.tmp 47) (Go.Operand.tmp 49) 3,3,none⟩,
      ⟨some 51,Go.Op.build 28 #[(0,Go.Operand.tmp 44),(1,Go.Operand.tmp 50)],28,none⟩,
      ⟨some 52,Go.Op.buildSlice 25 1 #[(0,Go.Operand.tmp 51)],25,none⟩,
      ⟨some 53,Go.Op.call { callee:=Go.Callee.builtin Go.Builtin.append,args:=#[Go.Operand.tmp 41,Go.Operand.tmp 52],argTypes:=#[25,25] },25,none⟩,
      ⟨some 8,Go.Op.assign (Go.Operand.tmp 53),25,none⟩])
     (.region [⟨some 54,Go.Op.move (Go.Operand.tmp 9),3,none⟩,
      ⟨some 55,Go.Op.move (Go.Operand.tmp 10),3,none⟩,
      ⟨some 56,Go.Op.move (Go.Operand.tmp 7),9,none⟩,
      ⟨some 57,Go.Op.call { callee:=Go.Callee.builtin Go.Builtin.len,args:=#[Go.Operand.tmp 56],argTypes:=#[9] },3,none⟩,
      ⟨some 58,Go.Op.binOp Go.BinOp.add 3 (Go.Operand.tmp 55) (Go.Operand.tmp 57) 3,3,none⟩,
      ⟨some 59,Go.Op.binOp Go.BinOp.add 3 (Go.Operand.tmp 54) (Go.Operand.tmp 58) 3,3,none⟩,
      ⟨some 9,Go.Op.assign (Go.Operand.tmp 59),3,none⟩]))))))))
  (.seq (.region [⟨some 61,Go.Op.move (Go.Operand.tmp 6),9,none⟩,
   ⟨some 62,Go.Op.call { callee:=Go.Callee.value (Go.Operand.func 8),args:=#[Go.Operand.tmp 61],argTypes:=#[9] },32,none⟩,
   ⟨some 63,Go.Op.move (Go.Operand.tmp 7),9,none⟩,
   ⟨some 64,Go.Op.call { callee:=Go.Callee.value (Go.Operand.func 7),args:=#[Go.Operand.tmp 62,Go.Operand.tmp 63],argTypes:=#[32,9] },30,none⟩,
   ⟨some 60,Go.Op.move (Go.Operand.tmp 64),30,none⟩,
   ⟨some 65,Go.Op.extract (Go.Operand.tmp 60) 0,25,none⟩,
   ⟨some 66,Go.Op.extract (Go.Operand.tmp 60) 1,29,none⟩,
   ⟨some 11,Go.Op.assign (Go.Operand.tmp 65),25,none⟩,
   ⟨some 12,Go.Op.assign (Go.Operand.tmp 66),29,none⟩])
  (.seq (.region [⟨some 67,Go.Op.move (Go.Operand.tmp 12),29,none⟩,
   ⟨some 68,Go.Op.binOp Go.BinOp.eql 29 (Go.Operand.tmp 67) (Go.Operand.const (Go.Value.int Go.IntKind.i64 0)) 29,4,none⟩,
   ⟨some 69,Go.Op.move (Go.Operand.tmp 68),4,none⟩,
   ⟨some 70,Go.Op.move (Go.Operand.tmp 11),25,(some (69,true))⟩,
   ⟨some 71,Go.Op.move (Go.Operand.tmp 8),25,(some (69,true))⟩,
   ⟨some 72,Go.Op.call { callee:=Go.Callee.value (Go.Operand.func 9),args:=#[Go.Operand.tmp 70,Go.Operand.tmp 71],argTypes:=#[25,25] },4,(some (69,true))⟩,
   ⟨some 73,Go.Op.pick (Go.Operand.tmp 69) (Go.Operand.tmp 72) (Go.Operand.const (Go.Value.bool false)),4,none⟩,
   ⟨some 74,Go.Op.move (Go.Operand.tmp 73),4,none⟩,
   ⟨some 75,Go.Op.call { callee:=Go.Callee.value (Go.Operand.func 4),args:=#[],argTypes:=#[] },4,(some (74,true))⟩,
   ⟨some 76,Go.Op.pick (Go.Operand.tmp 74) (Go.Operand.tmp 75) (Go.Operand.const (Go.Value.bool false)),4,none⟩,
   ⟨some 4,Go.Op.assign (Go.Operand.tmp 76),4,none⟩])
  .ret)))))))) :=
 ⟨foll,Tryz.f3,Tryz.func3,by kernel_rfl,by kernel_rfl,by kernel_rfl,by rw [Tryz.ntmps3];decide⟩
theorem fn4:FnIs Tryz.prog 4 0 [Go.ResultVar.tmp 0] (.seq (.region [⟨some 0,Go.Op.assign (Go.Operand.const (Go.Value.bool false)),4,none⟩])
  (.seq (.region [⟨some 6,Go.Op.call { callee:=Go.Callee.value (Go.Operand.func 8),args:=#[Go.Operand.const (Go.Value.string { data:=#[97,49,32,98,50,50] })],argTypes:=#[9] },32,none⟩,
   ⟨some 7,Go.Op.call { callee:=Go.Callee.value (Go.Operand.func 7),args:=#[Go.Operand.tmp 6,Go.Operand.const (Go.Value.string { data:=#[91,48,45,57,93,43] })],argTypes:=#[32,9] },30,none⟩,
   ⟨some 5,Go.Op.move (Go.Operand.tmp 7),30,none⟩,
   ⟨some 8,Go.Op.extract (Go.Operand.tmp 5) 0,25,none⟩,
   ⟨some 9,Go.Op.extract (Go.Operand.tmp 5) 1,29,none⟩,
   ⟨some 1,Go.Op.assign (Go.Operand.tmp 8),25,none⟩,
   ⟨some 2,Go.Op.assign (Go.Operand.tmp 9),29,none⟩])
  (.seq (.region [⟨some 11,Go.Op.call { callee:=Go.Callee.value (Go.Operand.func 8),args:=#[Go.Operand.const (Go.Value.string { data:=#[97,49,32,98,50,50] })],argTypes:=#[9] },32,none⟩,
   ⟨some 12,Go.Op.call { callee:=Go.Callee.value (Go.Operand.func 7),args:=#[Go.Operand.tmp 11,Go.Operand.const (Go.Value.string { data:=#[91,97,45,122,93,91,48,45,57,93,42] })],argTypes:=#[32,9] },30,none⟩,
   ⟨some 10,Go.Op.move (Go.Operand.tmp 12),30,none⟩,
   ⟨some 13,Go.Op.extract (Go.Operand.tmp 10) 0,25,none⟩,
   ⟨some 14,Go.Op.extract (Go.Operand.tmp 10) 1,29,none⟩,
   ⟨some 3,Go.Op.assign (Go.Operand.tmp 13),25,none⟩,
   ⟨some 4,Go.Op.assign (Go.Operand.tmp 14),29,none⟩])
  (.seq (.region [⟨some 15,Go.Op.move (Go.Operand.tmp 2),29,none⟩,
   ⟨some 16,Go.Op.binOp Go.BinOp.eql 29 (Go.Operand.tmp 15) (Go.Operand.const (Go.Value.int Go.IntKind.i64 0)) 29,4,none⟩,
   ⟨some 17,Go.Op.move (Go.Operand.tmp 16),4,none⟩,
   ⟨some 18,Go.Op.move (Go.Operand.tmp 4),29,(some (17,true))⟩,
   ⟨some 19,Go.Op.binOp Go.BinOp.eql 29 (Go.Operand.tmp 18) (Go.Operand.const (Go.Value.int Go.IntKind.i64 0)) 29,4,(some (17,true))⟩,
   ⟨some 20,Go.Op.pick (Go.Operand.tmp 17) (Go.Operand.tmp 19) (Go.Operand.const (Go.Value.bool false)),4,none⟩,
   ⟨some 21,Go.Op.move (Go.Operand.tmp 20),4,none⟩,
   ⟨some 22,Go.Op.move (Go.Operand.tmp 1),25,(some (21,true))⟩,
   ⟨some 23,Go.Op.build 28 #[(0,Go.Operand.const (Go.Value.int Go.IntKind.i64 1)),(1,Go.Operand.const (Go.Value.int Go.IntKind.i64 2))],28,(some (21,true))⟩,
   ⟨some 24,Go.Op.build 28 #[(0,Go.Operand.const (Go.Value.int Go.IntKind.i64 4)),(1,Go.Operand.const (Go.Value.int Go.IntKind.i64 6))],28,(some (21,true))⟩,
   ⟨some 25,Go.Op.buildSlice 25 2 #[(0,Go.Operand.tmp 23),(1,Go.Operand.tmp 24)],25,(some (21,true))⟩,
   ⟨some 26,Go.Op.call { callee:=Go.Callee.value (Go.Operand.func 9),args:=#[Go.Operand.tmp 22,Go.Operand.tmp 25],argTypes:=#[25,25] },4,(some (21,true))⟩,
   ⟨some 27,Go.Op.pick (Go.Operand.tmp 21) (Go.Operand.tmp 26) (Go.Operand.const (Go.Value.bool false)),4,none⟩,
   ⟨some 28,Go.Op.move (Go.Operand.tmp 27),4,none⟩,
   ⟨some 29,Go.Op.move (Go.Operand.tmp 3),25,(some (28,true))⟩,
   ⟨some 30,Go.Op.build 28 #[(0,Go.Operand.const (Go.Value.int Go.IntKind.i64 0)),(1,Go.Operand.const (Go.Value.int Go.IntKind.i64 2))],28,(some (28,true))⟩,
   ⟨some 31,Go.Op.build 28 #[(0,Go.Operand.const (Go.Value.int Go.IntKind.i64 3)),(1,Go.Operand.const (Go.Value.int Go.IntKind.i64 6))],28,(some (28,true))⟩,
   ⟨some 32,Go.Op.buildSlice 25 2 #[(0,Go.Operand.tmp 30),(1,Go.Operand.tmp 31)],25,(some (28,true))⟩,
   ⟨some 33,Go.Op.call { callee:=Go.Callee.value (Go.Operand.func 9),args:=#[Go.Operand.tmp 29,Go.Operand.tmp 32],argTypes:=#[25,25] },4,(some (28,true))⟩,
   ⟨some 34,Go.Op.pick (Go.Operand.tmp 28) (Go.Operand.tmp 33) (Go.Operand.const (Go.Value.bool false)),4,none⟩,
   ⟨some 0,Go.Op.assign (Go.Operand.tmp 34),4,none⟩])
  .ret)))) :=
 ⟨foll,Tryz.f4,Tryz.func4,by kernel_rfl,by kernel_rfl,by kernel_rfl,by rw [Tryz.ntmps4];decide⟩
theorem fn5:FnIs Tryz.prog 5 1 [Go.ResultVar.tmp 2] (.seq (.region [⟨some 2,Go.Op.assign (Go.Operand.const (Go.Value.string { data:=#[] })),9,none⟩])
  (.seq (.region [⟨some 6,Go.Op.buildSlice 22 0 #[],22,none⟩,
   ⟨some 3,Go.Op.assign (Go.Operand.tmp 6),22,none⟩])
  (.seq (.seq (.region [⟨some 7,Go.Op.move (Go.Operand.tmp 0),22,none⟩,
   ⟨some 8,Go.Op.call { callee:=Go.Callee.builtin Go.Builtin.len,args:=#[Go.Operand.tmp 7],argTypes:=#[22] },3,none⟩,
   ⟨some 9,Go.Op.move (Go.Operand.const (Go.Value.int Go.IntKind.i64 0)),3,none⟩])
  (.block 0
   (.loop
    (.seq (.region [⟨some 10,Go.Op.binOp Go.BinOp.lss 3 (Go.Operand.tmp 9) (Go.Operand.tmp 8) 3,0,none⟩])
    (.seq (.cond (Go.Operand.tmp 10)
     .skip
     (.exit 0))
    (.seq (.block 1
     (.seq (.region [⟨some 11,Go.Op.indexAddr 22 (Go.Operand.tmp 7) (Go.Operand.tmp 9),0,none⟩,
      ⟨some 12,Go.Op.load 5 (Go.Operand.tmp 11),5,none⟩,
      ⟨some 5,Go.Op.assign (Go.Operand.tmp 12),5,none⟩])
     (.region [⟨some 13,Go.Op.move (Go.Operand.tmp 3),22,none⟩,
      ⟨some 14,Go.Op.move (Go.Operand.tmp 5),5,none⟩,
      ⟨some 15,Go.Op.binOp Go.BinOp.rem 5 (Go.Operand.tmp 14) (Go.Operand.const (Go.Value.int Go.IntKind.u8 3)) 5,5,none⟩,
      ⟨some 16,Go.Op.binOp Go.BinOp.add 5 (Go.Operand.const (Go.Value.int Go.IntKind.u8 97)) (Go.Operand.tmp 15) 5,5,none⟩,
      ⟨some 17,Go.Op.buildSlice 22 1 #[(0,Go.Operand.tmp 16)],22,none⟩,
      ⟨some 18,Go.Op.call { callee:=Go.Callee.builtin Go.Builtin.append,args:=#[Go.Operand.tmp 13,Go.Operand.tmp 17],argTypes:=#[22,22] },22,none⟩,
      ⟨some 3,Go.Op.assign (Go.Operand.tmp 18),22,none⟩])))
    (.region [⟨some 19,Go.Op.binOp Go.BinOp.add 3 (Go.Operand.tmp 9) (Go.Operand.const (Go.Value.int Go.IntKind.i64 1)) 3,3,none⟩,
     ⟨some 9,Go.Op.move (Go.Operand.tmp 19),3,none⟩])))))))
  (.seq (.region [⟨some 20,Go.Op.move (Go.Operand.tmp 3),22,none⟩,
   ⟨some 21,Go.Op.convert 22 9 (Go.Operand.tmp 20),9,none⟩,
   ⟨some 2,Go.Op.assign (Go.Operand.tmp 21),9,none⟩])
  .ret)))) :=
 ⟨foll,Tryz.f5,Tryz.func5,by kernel_rfl,by kernel_rfl,by kernel_rfl,by rw [Tryz.ntmps5];decide⟩
theorem fn7:FnIs Tryz.prog 7 2 [Go.ResultVar.tmp 4,Go.ResultVar.tmp 5] (.seq (.region [⟨some 4,Go.Op.assign (Go.Operand.const (Go.Value.slice none 0 0)),25,none⟩,
   ⟨some 5,Go.Op.assign (Go.Operand.const (Go.Value.int Go.IntKind.i64 0)),29,none⟩])
  (.seq (.region [⟨some 9,Go.Op.move (Go.Operand.tmp 1),9,none⟩,
   ⟨some 10,Go.Op.call { callee:=Go.Callee.value (Go.Operand.func 11),args:=#[Go.Operand.tmp 9],argTypes:=#[9] },46,none⟩,
   ⟨some 8,Go.Op.move (Go.Operand.tmp 10),46,none⟩,
   ⟨some 11,Go.Op.extract (Go.Operand.tmp 8) 0,45,none⟩,
   ⟨some 12,Go.Op.extract (Go.Operand.tmp 8) 1,29,none⟩,
   ⟨some 6,Go.Op.alloc 45,0,none⟩,
   ⟨none,Go.Op.store 45 (Go.Operand.tmp 6) (Go.Operand.tmp 11),0,none⟩,
   ⟨some 7,Go.Op.assign (Go.Operand.tmp 12),29,none⟩])
  (.seq (.seq (.region [⟨some 13,Go.Op.move (Go.Operand.tmp 7),29,none⟩,
   ⟨some 14,Go.Op.binOp Go.BinOp.neq 29 (Go.Operand.tmp 13) (Go.Operand.const (Go.Value.int Go.IntKind.i64 0)) 29,4,none⟩])
  (.cond (Go.Operand.tmp 14)
   (.seq (.region [⟨some 15,Go.Op.move (Go.Operand.tmp 7),29,none⟩,
    ⟨some 4,Go.Op.assign (Go.Operand.const (Go.Value.slice none 0 0)),25,none⟩,
    ⟨some 5,Go.Op.assign (Go.Operand.tmp 15),29,none⟩])
   .ret)
   .skip))
  (.seq (.region [⟨some 16,Go.Op.load 45 (Go.Operand.tmp 6),45,none⟩,
   ⟨some 17,Go.Op.move (Go.Operand.tmp 0),32,none⟩,
   ⟨some 18,Go.Op.call { callee:=Go.Callee.value (Go.Operand.func 13),args:=#[Go.Operand.tmp 16,Go.Operand.tmp 17],argTypes:=#[45,32] },50,none⟩,
   ⟨some 19,Go.Op.call { callee:=Go.Callee.value (Go.Operand.func 12),args:=#[Go.Operand.tmp 18],argTypes:=#[50] },25,none⟩,
   ⟨some 4,Go.Op.assign (Go.Operand.tmp 19),25,none⟩,
   ⟨some 5,Go.Op.assign (Go.Operand.const (Go.Value.int Go.IntKind.i64 0)),29,none⟩])
  .ret)))) :=
 ⟨foll,Tryz.f7,Tryz.func7,by kernel_rfl,by kernel_rfl,by kernel_rfl,by rw [Tryz.ntmps7];decide⟩
theorem fn8:FnIs Tryz.prog 8 1 [Go.ResultVar.tmp 2] (.seq (.region [⟨some 2,Go.Op.assign (Go.Operand.const (Go.Value.slice none 0 0)),32,none⟩])
  (.seq (.region [⟨some 5,Go.Op.buildSlice 32 0 #[],32,none⟩,
   ⟨some 3,Go.Op.assign (Go.Operand.tmp 5),32,none⟩])
  (.seq (.seq (.region [⟨some 6,Go.Op.move (Go.Operand.tmp 0),9,none⟩,
   ⟨some 7,Go.Op.call { callee:=Go.Callee.builtin Go.Builtin.len,args:=#[Go.Operand.tmp 6],argTypes:=#[9] },3,none⟩,
   ⟨some 8,Go.Op.move (Go.Operand.const (Go.Value.int Go.IntKind.i64 0)),3,none⟩])
  (.block 0
   (.loop
    (.seq (.region [⟨some 9,Go.Op.binOp Go.BinOp.lss 3 (Go.Operand.tmp 8) (Go.Operand.tmp 7) 3,4,none⟩])
    (.seq (.cond (Go.Operand.tmp 9)
     .skip
     (.exit 0))
    (.seq (.block 1
     (.seq (.region [⟨some 10,Go.Op.move (Go.Operand.tmp 8),3,none⟩,
      ⟨some 4,Go.Op.assign (Go.Operand.tmp 10),3,none⟩])
     (.region [⟨some 11,Go.Op.move (Go.Operand.tmp 3),32,none⟩,
      ⟨some 12,Go.Op.move (Go.Operand.tmp 0),9,none⟩,
      ⟨some 13,Go.Op.move (Go.Operand.tmp 4),3,none⟩,
      ⟨some 14,Go.Op.move (Go.Operand.tmp 4),3,none⟩,
      ⟨some 15,Go.Op.binOp Go.BinOp.add 3 (Go.Operand.tmp 14) (Go.Operand.const (Go.Value.int Go.IntKind.i64 1)) 3,3,none⟩,
      ⟨some 16,Go.Op.slice 9 (Go.Operand.tmp 12) (some (Go.Operand.tmp 13)) (some (Go.Operand.tmp 15)) none,9,none⟩,
      ⟨some 17,Go.Op.build 53 #[(0,Go.Operand.tmp 16)],53,none⟩,
      ⟨some 18,Go.Op.buildSlice 32 1 #[(0,Go.Operand.tmp 17)],32,none⟩,
      ⟨some 19,Go.Op.call { callee:=Go.Callee.builtin Go.Builtin.append,args:=#[Go.Operand.tmp 11,Go.Operand.tmp 18],argTypes:=#[32,32] },32,none⟩,
      ⟨some 3,Go.Op.assign (Go.Operand.tmp 19),32,none⟩])))
    (.region [⟨some 20,Go.Op.binOp Go.BinOp.add 3 (Go.Operand.tmp 8) (Go.Operand.const (Go.Value.int Go.IntKind.i64 1)) 3,3,none⟩,
     ⟨some 8,Go.Op.move (Go.Operand.tmp 20),3,none⟩])))))))
  (.seq (.region [⟨some 21,Go.Op.move (Go.Operand.tmp 3),32,none⟩,
   ⟨some 2,Go.Op.assign (Go.Operand.tmp 21),32,none⟩])
  .ret)))) :=
 ⟨foll,Tryz.f8,Tryz.func8,by kernel_rfl,by kernel_rfl,by kernel_rfl,by rw [Tryz.ntmps8];decide⟩
theorem fn9:FnIs Tryz.prog 9 2 [Go.ResultVar.tmp 4] (.seq (.region [⟨some 4,Go.Op.assign (Go.Operand.const (Go.Value.bool false)),4,none⟩])
  (.seq (.seq (.region [⟨some 6,Go.Op.move (Go.Operand.tmp 0),25,none⟩,
   ⟨some 7,Go.Op.call { callee:=Go.Callee.builtin Go.Builtin.len,args:=#[Go.Operand.tmp 6],argTypes:=#[25] },3,none⟩,
   ⟨some 8,Go.Op.move (Go.Operand.tmp 1),25,none⟩,
   ⟨some 9,Go.Op.call { callee:=Go.Callee.builtin Go.Builtin.len,args:=#[Go.Operand.tmp 8],argTypes:=#[25] },3,none⟩,
   ⟨some 10,Go.Op.binOp Go.BinOp.neq 3 (Go.Operand.tmp 7) (Go.Operand.tmp 9) 3,4,none⟩])
  (.cond (Go.Operand.tmp 10)
   (.seq (.region [⟨some 4,Go.Op.assign (Go.Operand.const (Go.Value.bool false)),4,none⟩])
   .ret)
   .skip))
  (.seq (.seq (.region [⟨some 5,Go.Op.assign (Go.Operand.const (Go.Value.int Go.IntKind.i64 0)),3,none⟩])
  (.block 0
   (.loop
    (.seq (.seq (.region [⟨some 11,Go.Op.move (Go.Operand.tmp 5),3,none⟩,
     ⟨some 12,Go.Op.move (Go.Operand.tmp 0),25,none⟩,
     ⟨some 13,Go.Op.call { callee:=Go.Callee.builtin Go.Builtin.len,args:=#[Go.Operand.tmp 12],argTypes:=#[25] },3,none⟩,
     ⟨some 14,Go.Op.binOp Go.BinOp.lss 3 (Go.Operand.tmp 11) (Go.Operand.tmp 13) 3,4,none⟩])
    (.cond (Go.Operand.tmp 14)
     .skip
     (.exit 0)))
    (.seq (.block 1
     (.seq (.draw true [⟨⟨some 17,Go.Op.move (Go.Operand.tmp 0),25,none⟩,false,false,false⟩,
      ⟨⟨some 18,Go.Op.move (Go.Operand.tmp 5),3,none⟩,false,false,false⟩,
      ⟨⟨some 19,Go.Op.indexAddr 25 (Go.Operand.tmp 17) (Go.Operand.tmp 18),0,none⟩,false,false,false⟩,
      ⟨⟨some 20,Go.Op.load 28 (Go.Operand.tmp 19),28,none⟩,false,false,false⟩,
      ⟨⟨some 21,Go.Op.move (Go.Operand.tmp 1),25,none⟩,false,false,false⟩,
      ⟨⟨some 22,Go.Op.move (Go.Operand.tmp 5),3,none⟩,false,false,false⟩,
      ⟨⟨some 23,Go.Op.indexAddr 25 (Go.Operand.tmp 21) (Go.Operand.tmp 22),0,none⟩,false,false,false⟩,
      ⟨⟨some 24,Go.Op.load 28 (Go.Operand.tmp 23),28,none⟩,false,false,false⟩,
      ⟨⟨some 25,Go.Op.binOp Go.BinOp.neq 28 (Go.Operand.tmp 20) (Go.Operand.tmp 24) 28,4,none⟩,false,false,false⟩] [[],[],[0,1],[0,1,2],[],[],[4,5],[4,5,6],[0,1,2,3,4,5,6,7]])
     (.cond (Go.Operand.tmp 25)
      (.seq (.region [⟨some 4,Go.Op.assign (Go.Operand.const (Go.Value.bool false)),4,none⟩])
      .ret)
      .skip)))
    (.region [⟨some 15,Go.Op.move (Go.Operand.tmp 5),3,none⟩,
     ⟨some 16,Go.Op.binOp Go.BinOp.add 3 (Go.Operand.tmp 15) (Go.Operand.const (Go.Value.int Go.IntKind.i64 1)) 3,3,none⟩,
     ⟨some 5,Go.Op.assign (Go.Operand.tmp 16),3,none⟩]))))))
  (.seq (.region [⟨some 4,Go.Op.assign (Go.Operand.const (Go.Value.bool true)),4,none⟩])
  .ret)))) :=
 ⟨foll,Tryz.f9,Tryz.func9,by kernel_rfl,by kernel_rfl,by kernel_rfl,by rw [Tryz.ntmps9];decide⟩
theorem fn11:FnIs Tryz.prog 11 1 [Go.ResultVar.cell 2 45,Go.ResultVar.tmp 3] (.seq (.region [⟨some 2,Go.Op.alloc 45,0,none⟩,
   ⟨some 3,Go.Op.assign (Go.Operand.const (Go.Value.int Go.IntKind.i64 0)),29,none⟩])
  (.seq (.region [⟨some 9,Go.Op.move (Go.Operand.tmp 0),9,none⟩,
   ⟨some 10,Go.Op.call { callee:=Go.Callee.value (Go.Operand.func 18),args:=#[Go.Operand.tmp 9],argTypes:=#[9] },57,none⟩,
   ⟨some 8,Go.Op.move (Go.Operand.tmp 10),57,none⟩,
   ⟨some 11,Go.Op.extract (Go.Operand.tmp 8) 0,39,none⟩,
   ⟨some 12,Go.Op.extract (Go.Operand.tmp 8) 1,29,none⟩,
   ⟨some 4,Go.Op.alloc 39,0,none⟩,
   ⟨none,Go.Op.store 39 (Go.Operand.tmp 4) (Go.Operand.tmp 11),0,none⟩,
   ⟨some 5,Go.Op.assign (Go.Operand.tmp 12),29,none⟩])
  (.seq (.seq (.region [⟨some 13,Go.Op.move (Go.Operand.tmp 5),29,none⟩,
   ⟨some 14,Go.Op.binOp Go.BinOp.neq 29 (Go.Operand.tmp 13) (Go.Operand.const (Go.Value.int Go.IntKind.i64 0)) 29,4,none⟩])
  (.cond (Go.Operand.tmp 14)
   (.seq (.region [⟨some 15,Go.Op.build 45 #[],45,none⟩,
    ⟨some 16,Go.Op.move (Go.Operand.tmp 5),29,none⟩,
    ⟨none,Go.Op.store 45 (Go.Operand.tmp 2) (Go.Operand.tmp 15),0,none⟩,
    ⟨some 3,Go.Op.assign (Go.Operand.tmp 16),29,none⟩])
   .ret)
   .skip))
  (.seq (.region [⟨some 18,Go.Op.load 39 (Go.Operand.tmp 4),39,none⟩,
   ⟨some 19,Go.Op.call { callee:=Go.Callee.value (Go.Operand.func 19),args:=#[Go.Operand.tmp 18],argTypes:=#[39] },59,none⟩,
   ⟨some 17,Go.Op.move (Go.Operand.tmp 19),59,none⟩,
   ⟨some 20,Go.Op.extract (Go.Operand.tmp 17) 0,43,none⟩,
   ⟨some 21,Go.Op.extract (Go.Operand.tmp 17) 1,29,none⟩,
   ⟨some 6,Go.Op.alloc 43,0,none⟩,
   ⟨none,Go.Op.store 43 (Go.Operand.tmp 6) (Go.Operand.tmp 20),0,none⟩,
   ⟨some 7,Go.Op.assign (Go.Operand.tmp 21),29,none⟩])
  (.seq (.region [⟨some 22,Go.Op.load 39 (Go.Operand.tmp 4),39,none⟩,
   ⟨some 23,Go.Op.load 43 (Go.Operand.tmp 6),43,none⟩,
   ⟨some 24,Go.Op.move (Go.Operand.tmp 7),29,none⟩,
   ⟨some 25,Go.Op.binOp Go.BinOp.eql 29 (Go.Operand.tmp 24) (Go.Operand.const (Go.Value.int Go.IntKind.i64 0)) 29,4,none⟩,
   ⟨some 26,Go.Op.build 45 #[(0,Go.Operand.tmp 22),(1,Go.Operand.tmp 23),(2,Go.Operand.tmp 25)],45,none⟩,
   ⟨none,Go.Op.store 45 (Go.Operand.tmp 2) (Go.Operand.tmp 26),0,none⟩,
   ⟨some 3,Go.Op.assign (Go.Operand.const (Go.Value.int Go.IntKind.i64 0)),29,none⟩])
  .ret))))) :=
 ⟨foll,Tryz.f11,Tryz.func11,by kernel_rfl,by kernel_rfl,by kernel_rfl,by rw [Tryz.ntmps11];decide⟩
theorem fn13:FnIs Tryz.prog 13 2 [Go.ResultVar.tmp 4] (.seq (.region [⟨some 2,Go.Op.box 45 (Go.Operand.tmp 0),0,none⟩,
   ⟨some 3,Go.Op.box 32 (Go.Operand.tmp 1),0,none⟩,
   ⟨some 4,Go.Op.assign (Go.Operand.const Go.Value.nilFunc),50,none⟩])
  (.seq (.region [⟨some 5,Go.Op.makeFunc (Go.Fn.func 21) #[] #[Go.Operand.tmp 3,Go.Operand.tmp 2],49,none⟩,
   ⟨some 4,Go.Op.assign (Go.Operand.tmp 5),50,none⟩])
  .ret)) :=
 ⟨foll,Tryz.f13,Tryz.func13,by kernel_rfl,by kernel_rfl,by kernel_rfl,by rw [Tryz.ntmps13];decide⟩
theorem fn22:FnIs Tryz.prog 22 2 [Go.ResultVar.tmp 4] (.seq (.region [⟨some 2,Go.Op.box 45 (Go.Operand.tmp 0),0,none⟩,
   ⟨some 4,Go.Op.assign (Go.Operand.const (Go.Value.int Go.IntKind.i64 0)),3,none⟩])
  (.seq (.seq (.region [⟨some 14,Go.Op.fieldAddr 45 (Go.Operand.tmp 2) 2,0,none⟩,
   ⟨some 15,Go.Op.load 4 (Go.Operand.tmp 14),4,none⟩,
   ⟨some 16,Go.Op.unOp Go.UnOp.not 4 (Go.Operand.tmp 15),4,none⟩,
   ⟨some 17,Go.Op.move (Go.Operand.tmp 16),4,none⟩,
   ⟨some 18,Go.Op.move (Go.Operand.tmp 1),32,(some (17,false))⟩,
   ⟨some 19,Go.Op.call { callee:=Go.Callee.value (Go.Operand.func 33),args:=#[Go.Operand.tmp 18],argTypes:=#[32] },4,(some (17,false))⟩,
   ⟨some 20,Go.Op.unOp Go.UnOp.not 4 (Go.Operand.tmp 19),4,(some (17,false))⟩,
   ⟨some 21,Go.Op.pick (Go.Operand.tmp 17) (Go.Operand.const (Go.Value.bool true)) (Go.Operand.tmp 20),4,none⟩])
  (.cond (Go.Operand.tmp 21)
   (.seq (.seq (.region [⟨some 22,Go.Op.move (Go.Operand.tmp 1),32,none⟩,
    ⟨some 23,Go.Op.call { callee:=Go.Callee.builtin Go.Builtin.len,args:=#[Go.Operand.tmp 22],argTypes:=#[32] },3,none⟩,
    ⟨some 5,Go.Op.assign (Go.Operand.tmp 23),3,none⟩])
   (.block 0
    (.loop
     (.seq (.seq (.region [⟨some 24,Go.Op.move (Go.Operand.tmp 5),3,none⟩,
      ⟨some 25,Go.Op.binOp Go.BinOp.gtr 3 (Go.Operand.tmp 24) (Go.Operand.const (Go.Value.int Go.IntKind.i64 0)) 3,4,none⟩])
     (.cond (Go.Operand.tmp 25)
      .skip
      (.exit 0)))
     (.seq (.block 1
      (.seq (.draw true [⟨⟨some 28,Go.Op.fieldAddr 45 (Go.Operand.tmp 2) 0,0,none⟩,false,false,false⟩,
       ⟨⟨some 29,Go.Op.load 39 (Go.Operand.tmp 28),39,none⟩,false,false,false⟩,
       ⟨⟨some 30,Go.Op.move (Go.Operand.tmp 1),32,none⟩,false,false,false⟩,
       ⟨⟨some 31,Go.Op.move (Go.Operand.tmp 5),3,none⟩,false,false,false⟩,
       ⟨⟨some 32,Go.Op.slice 32 (Go.Operand.tmp 30) none (some (Go.Operand.tmp 31)) none,32,none⟩,false,false,false⟩,
       ⟨⟨some 33,Go.Op.call { callee:=Go.Callee.value (Go.Operand.func 35),args:=#[Go.Operand.tmp 32],argTypes:=#[32] },9,none⟩,false,false,false⟩,
       ⟨⟨some 34,Go.Op.call { callee:=Go.Callee.value (Go.Operand.func 34),args:=#[Go.Operand.tmp 29,Go.Operand.tmp 33],argTypes:=#[39,9] },4,none⟩,false,false,false⟩] [[],[0],[],[],[2,3],[2,3,4],[0,1,2,3,4,5]])
      (.cond (Go.Operand.tmp 34)
       (.seq (.region [⟨some 35,Go.Op.move (Go.Operand.tmp 5),3,none⟩,
        ⟨some 4,Go.Op.assign (Go.Operand.tmp 35),3,none⟩])
       .ret)
       .skip)))
     (.region [⟨some 26,Go.Op.move (Go.Operand.tmp 5),3,none⟩,
      ⟨some 27,Go.Op.binOp Go.BinOp.sub 3 (Go.Operand.tmp 26) (Go.Operand.const (Go.Value.int Go.IntKind.i64 1)) 3,3,none⟩,
      ⟨some 5,Go.Op.assign (Go.Operand.tmp 27),3,none⟩]))))))
   (.seq (.region [⟨some 4,Go.Op.assign (Go.Operand.const (Go.Value.int Go.IntKind.i64 0)),3,none⟩])
   .ret))
   .skip))
  (.seq (.region [⟨some 6,Go.Op.assign (Go.Operand.const (Go.Value.int Go.IntKind.i64 0)),3,none⟩])
  (.seq (.region [⟨some 36,Go.Op.fieldAddr 45 (Go.Operand.tmp 2) 1,0,none⟩,
   ⟨some 37,Go.Op.load 43 (Go.Operand.tmp 36),43,none⟩,
   ⟨some 38,Go.Op.fieldAddr 45 (Go.Operand.tmp 2) 1,0,none⟩,
   ⟨some 39,Go.Op.fieldAddr 43 (Go.Operand.tmp 38) 0,0,none⟩,
   ⟨some 40,Go.Op.load 3 (Go.Operand.tmp 39),3,none⟩,
   ⟨some 41,Go.Op.buildSlice 84 1 #[(0,Go.Operand.tmp 40)],84,none⟩,
   ⟨some 42,Go.Op.call { callee:=Go.Callee.value (Go.Operand.func 36),args:=#[Go.Operand.tmp 37,Go.Operand.tmp 41],argTypes:=#[43,84] },84,none⟩,
   ⟨some 7,Go.Op.assign (Go.Operand.tmp 42),84,none⟩])
  (.seq (.seq (.region [⟨some 43,Go.Op.move (Go.Operand.tmp 1),32,none⟩,
   ⟨some 44,Go.Op.call { callee:=Go.Callee.builtin Go.Builtin.len,args:=#[Go.Operand.tmp 43],argTypes:=#[32] },3,none⟩,
   ⟨some 45,Go.Op.move (Go.Operand.const (Go.Value.int Go.IntKind.i64 0)),3,none⟩])
  (.block 2
   (.loop
    (.seq (.region [⟨some 46,Go.Op.binOp Go.BinOp.lss 3 (Go.Operand.tmp 45) (Go.Operand.tmp 44) 3,0,none⟩])
    (.seq (.cond (Go.Operand.tmp 46)
     .skip
     (.exit 2))
    (.seq (.block 3
     (.seq (.region [⟨some 47,Go.Op.move (Go.Operand.tmp 45),3,none⟩,
      ⟨some 48,Go.Op.indexAddr 32 (Go.Operand.tmp 43) (Go.Operand.tmp 45),0,none⟩,
      ⟨some 49,Go.Op.load 53 (Go.Operand.tmp 48),53,none⟩,
      ⟨some 9,Go.Op.alloc 53,0,none⟩,
      ⟨some 8,Go.Op.assign (Go.Operand.tmp 47),3,none⟩,
      ⟨none,Go.Op.store 53 (Go.Operand.tmp 9) (Go.Operand.tmp 49),0,none⟩])
     (.seq (.region [⟨some 51,Go.Op.fieldAddr 53 (Go.Operand.tmp 9) 0,0,none⟩,
      ⟨some 52,Go.Op.load 9 (Go.Operand.tmp 51),9,none⟩,
      ⟨some 53,Go.Op.call { callee:=Go.Callee.value (Go.Operand.func 37),args:=#[Go.Operand.const (Go.Value.string { data:=#[] }),Go.Operand.tmp 52],argTypes:=#[9,9] },90,none⟩,
      ⟨some 50,Go.Op.move (Go.Operand.tmp 53),90,none⟩,
      ⟨some 54,Go.Op.extract (Go.Operand.tmp 50) 0,72,none⟩,
      ⟨some 55,Go.Op.extract (Go.Operand.tmp 50) 1,9,none⟩,
      ⟨some 10,Go.Op.assign (Go.Operand.tmp 54),72,none⟩,
      ⟨some 11,Go.Op.assign (Go.Operand.tmp 55),9,none⟩])
     (.seq (.seq (.region [⟨some 56,Go.Op.move (Go.Operand.tmp 10),72,none⟩,
      ⟨some 57,Go.Op.call { callee:=Go.Callee.builtin Go.Builtin.len,args:=#[Go.Operand.tmp 56],argTypes:=#[72] },3,none⟩,
      ⟨some 58,Go.Op.move (Go.Operand.const (Go.Value.int Go.IntKind.i64 0)),3,none⟩])
     (.block 4
      (.loop
       (.seq (.region [⟨some 59,Go.Op.binOp Go.BinOp.lss 3 (Go.Operand.tmp 58) (Go.Operand.tmp 57) 3,0,none⟩])
       (.seq (.cond (Go.Operand.tmp 59)
        .skip
        (.exit 4))
       (.seq (.block 5
        (.seq (.region [⟨some 60,Go.Op.indexAddr 72 (Go.Operand.tmp 56) (Go.Operand.tmp 58),0,none⟩,
         ⟨some 61,Go.Op.load 21 (Go.Operand.tmp 60),21,none⟩,
         ⟨some 13,Go.Op.assign (Go.Operand.tmp 61),21,none⟩])
        (.region [⟨some 62,Go.Op.fieldAddr 45 (Go.Operand.tmp 2) 1,0,none⟩,
         ⟨some 63,Go.Op.load 43 (Go.Operand.tmp 62),43,none⟩,
         ⟨some 64,Go.Op.move (Go.Operand.tmp 7),84,none⟩,
         ⟨some 65,Go.Op.move (Go.Operand.tmp 13),21,none⟩,
         ⟨some 66,Go.Op.call { callee:=Go.Callee.value (Go.Operand.func 38),args:=#[Go.Operand.tmp 63,Go.Operand.tmp 64,Go.Operand.tmp 65],argTypes:=#[43,84,21] },84,none⟩,
         ⟨some 7,Go.Op.assign (Go.Operand.tmp 66),84,none⟩])))
       (.region [⟨some 67,Go.Op.binOp Go.BinOp.add 3 (Go.Operand.tmp 58) (Go.Operand.const (Go.Value.int Go.IntKind.i64 1)) 3,3,none⟩,
        ⟨some 58,Go.Op.move (Go.Operand.tmp 67),3,none⟩])))))))
     (.seq (.seq (.region [⟨some 68,Go.Op.move (Go.Operand.tmp 7),84,none⟩,
      ⟨some 69,Go.Op.call { callee:=Go.Callee.builtin Go.Builtin.len,args:=#[Go.Operand.tmp 68],argTypes:=#[84] },3,none⟩,
      ⟨some 70,Go.Op.binOp Go.BinOp.eql 3 (Go.Operand.tmp 69) (Go.Operand.const (Go.Value.int Go.IntKind.i64 0)) 3,4,none⟩])
     (.cond (Go.Operand.tmp 70)
      (.exit 2)
      .skip))
     (.seq (.region [⟨some 71,Go.Op.move (Go.Operand.tmp 7),84,none⟩,
      ⟨some 72,Go.Op.fieldAddr 45 (Go.Operand.tmp 2) 1,0,none⟩,
      ⟨some 73,Go.Op.fieldAddr 43 (Go.Operand.tmp 72) 1,0,none⟩,
      ⟨some 74,Go.Op.load 3 (Go.Operand.tmp 73),3,none⟩,
      ⟨some 75,Go.Op.call { callee:=Go.Callee.value (Go.Operand.func 39),args:=#[Go.Operand.tmp 71,Go.Operand.tmp 74],argTypes:=#[84,3] },4,none⟩])
     (.cond (Go.Operand.tmp 75)
      (.region [⟨some 76,Go.Op.move (Go.Operand.tmp 8),3,none⟩,
       ⟨some 77,Go.Op.binOp Go.BinOp.add 3 (Go.Operand.tmp 76) (Go.Operand.const (Go.Value.int Go.IntKind.i64 1)) 3,3,none⟩,
       ⟨some 6,Go.Op.assign (Go.Operand.tmp 77),3,none⟩])
      .skip)))))))
    (.region [⟨some 78,Go.Op.binOp Go.BinOp.add 3 (Go.Operand.tmp 45) (Go.Operand.const (Go.Value.int Go.IntKind.i64 1)) 3,3,none⟩,
     ⟨some 45,Go.Op.move (Go.Operand.tmp 78),3,none⟩])))))))
  (.seq (.region [⟨some 79,Go.Op.move (Go.Operand.tmp 6),3,none⟩,
   ⟨some 4,Go.Op.assign (Go.Operand.tmp 79),3,none⟩])
  .ret)))))) :=
 ⟨foll,Tryz.f22,Tryz.func22,by kernel_rfl,by kernel_rfl,by kernel_rfl,by rw [Tryz.ntmps22];decide⟩
theorem fn33:FnIs Tryz.prog 33 1 [Go.ResultVar.tmp 2] (.seq (.region [⟨some 2,Go.Op.assign (Go.Operand.const (Go.Value.bool false)),4,none⟩])
  (.seq (.seq (.region [⟨some 5,Go.Op.move (Go.Operand.tmp 0),32,none⟩,
   ⟨some 6,Go.Op.call { callee:=Go.Callee.builtin Go.Builtin.len,args:=#[Go.Operand.tmp 5],argTypes:=#[32] },3,none⟩,
   ⟨some 7,Go.Op.move (Go.Operand.const (Go.Value.int Go.IntKind.i64 0)),3,none⟩])
  (.block 0
   (.loop
    (.seq (.region [⟨some 8,Go.Op.binOp Go.BinOp.lss 3 (Go.Operand.tmp 7) (Go.Operand.tmp 6) 3,0,none⟩])
    (.seq (.cond (Go.Operand.tmp 8)
     .skip
     (.exit 0))
    (.seq (.block 1
     (.seq (.region [⟨some 9,Go.Op.indexAddr 32 (Go.Operand.tmp 5) (Go.Operand.tmp 7),0,none⟩,
      ⟨some 10,Go.Op.load 53 (Go.Operand.tmp 9),53,none⟩,
      ⟨some 4,Go.Op.alloc 53,0,none⟩,
      ⟨none,Go.Op.store 53 (Go.Operand.tmp 4) (Go.Operand.tmp 10),0,none⟩])
     (.seq (.region [⟨some 11,Go.Op.fieldAddr 53 (Go.Operand.tmp 4) 0,0,none⟩,
      ⟨some 12,Go.Op.load 9 (Go.Operand.tmp 11),9,none⟩,
      ⟨some 13,Go.Op.call { callee:=Go.Callee.value (Go.Operand.func 25),args:=#[Go.Operand.tmp 12],argTypes:=#[9] },4,none⟩,
      ⟨some 14,Go.Op.unOp Go.UnOp.not 4 (Go.Operand.tmp 13),4,none⟩])
     (.cond (Go.Operand.tmp 14)
      (.seq (.region [⟨some 2,Go.Op.assign (Go.Operand.const (Go.Value.bool false)),4,none⟩])
      .ret)
      .skip))))
    (.region [⟨some 15,Go.Op.binOp Go.BinOp.add 3 (Go.Operand.tmp 7) (Go.Operand.const (Go.Value.int Go.IntKind.i64 1)) 3,3,none⟩,
     ⟨some 7,Go.Op.move (Go.Operand.tmp 15),3,none⟩])))))))
  (.seq (.region [⟨some 2,Go.Op.assign (Go.Operand.const (Go.Value.bool true)),4,none⟩])
  .ret))) :=
 ⟨foll,Tryz.f33,Tryz.func33,by kernel_rfl,by kernel_rfl,by kernel_rfl,by rw [Tryz.ntmps33];decide⟩
theorem fn36:FnIs Tryz.prog 36 2 [Go.ResultVar.tmp 4] (.seq (.region [⟨some 2,Go.Op.box 43 (Go.Operand.tmp 0),0,none⟩,
   ⟨some 4,Go.Op.assign (Go.Operand.const (Go.Value.slice none 0 0)),84,none⟩])
  (.seq (.seq (.region [⟨some 5,Go.Op.load 43 (Go.Operand.tmp 2),43,none⟩,
   ⟨some 6,Go.Op.call { callee:=Go.Callee.value (Go.Operand.func 55),args:=#[Go.Operand.tmp 5],argTypes:=#[43] },29,none⟩,
   ⟨some 7,Go.Op.binOp Go.BinOp.neq 29 (Go.Operand.tmp 6) (Go.Operand.const (Go.Value.int Go.IntKind.i64 0)) 29,4,none⟩])
  (.cond (Go.Operand.tmp 7)
   (.seq (.region [⟨some 4,Go.Op.assign (Go.Operand.const (Go.Value.slice none 0 0)),84,none⟩])
   .ret)
   .skip))
  (.seq (.region [⟨some 8,Go.Op.load 43 (Go.Operand.tmp 2),43,none⟩,
   ⟨some 9,Go.Op.move (Go.Operand.tmp 1),84,none⟩,
   ⟨some 10,Go.Op.call { callee:=Go.Callee.value (Go.Operand.func 56),args:=#[Go.Operand.tmp 8,Go.Operand.tmp 9],argTypes:=#[43,84] },84,none⟩,
   ⟨some 4,Go.Op.assign (Go.Operand.tmp 10),84,none⟩])
  .ret))) :=
 ⟨foll,Tryz.f36,Tryz.func36,by kernel_rfl,by kernel_rfl,by kernel_rfl,by rw [Tryz.ntmps36];decide⟩
theorem fn38:FnIs Tryz.prog 38 3 [Go.ResultVar.tmp 6] (.seq (.region [⟨some 3,Go.Op.box 43 (Go.Operand.tmp 0),0,none⟩,
   ⟨some 6,Go.Op.assign (Go.Operand.const (Go.Value.slice none 0 0)),84,none⟩])
  (.seq (.seq (.region [⟨some 7,Go.Op.load 43 (Go.Operand.tmp 3),43,none⟩,
   ⟨some 8,Go.Op.call { callee:=Go.Callee.value (Go.Operand.func 55),args:=#[Go.Operand.tmp 7],argTypes:=#[43] },29,none⟩,
   ⟨some 9,Go.Op.binOp Go.BinOp.neq 29 (Go.Operand.tmp 8) (Go.Operand.const (Go.Value.int Go.IntKind.i64 0)) 29,4,none⟩])
  (.cond (Go.Operand.tmp 9)
   (.seq (.region [⟨some 6,Go.Op.assign (Go.Operand.const (Go.Value.slice none 0 0)),84,none⟩])
   .ret)
   .skip))
  (.seq (.draw true [⟨⟨some 10,Go.Op.load 43 (Go.Operand.tmp 3),43,none⟩,false,false,false⟩,
   ⟨⟨some 11,Go.Op.load 43 (Go.Operand.tmp 3),43,none⟩,false,false,false⟩,
   ⟨⟨some 12,Go.Op.move (Go.Operand.tmp 1),84,none⟩,false,false,false⟩,
   ⟨⟨some 13,Go.Op.call { callee:=Go.Callee.value (Go.Operand.func 56),args:=#[Go.Operand.tmp 11,Go.Operand.tmp 12],argTypes:=#[43,84] },84,none⟩,false,false,false⟩,
   ⟨⟨some 14,Go.Op.move (Go.Operand.tmp 2),21,none⟩,false,false,false⟩,
   ⟨⟨some 15,Go.Op.call { callee:=Go.Callee.value (Go.Operand.func 58),args:=#[Go.Operand.tmp 10,Go.Operand.tmp 13,Go.Operand.tmp 14],argTypes:=#[43,84,21] },84,none⟩,false,false,false⟩,
   ⟨⟨some 6,Go.Op.assign (Go.Operand.tmp 15),84,none⟩,false,false,false⟩] [[],[],[],[1,2],[],[0,1,2,3,4],[0,1,2,3,4,5]])
  .ret))) :=
 ⟨foll,Tryz.f38,Tryz.func38,by kernel_rfl,by kernel_rfl,by kernel_rfl,by rw [Tryz.ntmps38];decide⟩
end Go.Proofs.YtfnddhbiolpmgaaGreatDoor
set_option linter.unusedVariables false
set_option maxRecDepth 100000
namespace Go.Proofs.YtfnddhbiolpmgaaGreatDoor
open Go.Shelf
def Tryz.laysm144_ren:Go.Shelf.Ren:=⟨fun | 144=>97 | 143=>6 | 219=>10 | 217=>14 | 225=>15 | 224=>16 | 267=>17 | 266=>23 | 314=>24 | n=>n,fun | 9=>9 | 4=>4 | 3=>3 | 5=>5 | 46=>56 | 146=>65 | 51=>64 | n=>n,fun | 1=>0 | n=>n⟩
theorem Tryz.laysm144:Go.Proofs.LaysM.n144 Tryz.prog Tryz.laysm144_ren where
 mixed:=by kernel_rfl
 f143:=Tryz.func6.trans (congrArg some (by kernel_rfl))
 f144:=Tryz.func97.trans (congrArg some (by kernel_rfl))
 f217:=Tryz.func14.trans (congrArg some (by kernel_rfl))
 f219:=Tryz.func10.trans (congrArg some (by kernel_rfl))
 f224:=Tryz.func16.trans (congrArg some (by kernel_rfl))
 f225:=Tryz.func15.trans (congrArg some (by kernel_rfl))
 f266:=Tryz.func23.trans (congrArg some (by kernel_rfl))
 f267:=Tryz.func17.trans (congrArg some (by kernel_rfl))
 f314:=Tryz.func24.trans (congrArg some (by kernel_rfl))
 t3:=Tryz.underlying3
 a3:=Tryz.isAgg3
 z3:=Tryz.sizeOf3
 v3:=Tryz.zeroValue3
 t4:=Tryz.underlying4
 a4:=Tryz.isAgg4
 z4:=Tryz.sizeOf4
 v4:=Tryz.zeroValue4
 t5:=Tryz.underlying5
 a5:=Tryz.isAgg5
 z5:=Tryz.sizeOf5
 v5:=Tryz.zeroValue5
 t9:=Tryz.underlying9
 a9:=Tryz.isAgg9
 z9:=Tryz.sizeOf9
 v9:=Tryz.zeroValue9
 t46:=Tryz.underlying56
 a46:=Tryz.isAgg56
 z46:=Tryz.sizeOf56
 v46:=Tryz.zeroValue56
 t51:=Tryz.underlying64
 a51:=Tryz.isAgg64
 z51:=Tryz.sizeOf64
 v51:=Tryz.zeroValue64
 t146:=Tryz.underlying65
 a146:=Tryz.isAgg65
 z146:=Tryz.sizeOf65
 v146:=Tryz.zeroValue65
 g1:=by kernel_rfl
 i3:=by kernel_rfl
 i4:=by kernel_rfl
 i5:=by kernel_rfl
 i9:=by kernel_rfl
 i46:=by kernel_rfl
 i51:=by kernel_rfl
 i146:=by kernel_rfl
 m1:=by kernel_rfl
 s1_3:=fun w h=>Go.Proofs.cell_of_shapedOpen_int (zero:=#[.int .i64 0]) (t:=3) h (of_decide_eq_true (by kernel_rfl)) (by kernel_rfl) rfl (by kernel_rfl) (by kernel_rfl) Tryz.underlying3
open Go.RowKit Go.Lib Nv
theorem contains_all (s t:List UInt8) (hs:s.length<4294967281):PCall Tryz.prog 97 [.d (.str s),.d (.str t)] (.d (.bool (Lib.contains s t))) :=
 .of_callsT rfl rfl fun w I hT=>by
  have hm:∃ m,w.cell? ⟨Tryz.laysm144_ren.g 1,0,none⟩=some (.int .i64 m) :=
   hT.cell (g:=Tryz.laysm144_ren.g 1) (of_decide_eq_true (by kernel_rfl)) (Q:=fun v=>∃ m,v=some (.int .i64 m)) fun w0 h=>Tryz.laysm144.s1_3 w0 h
  obtain ⟨m,hm⟩:=hm
  exact (Any.strings_Contains { Tryz.laysm144 with } ⟨s.toArray⟩ ⟨t.toArray⟩ m w (by simpa [ByteArray.size] using hs) hm).mono fun e w' ⟨h1,h2⟩=>⟨h1,h2 ▸ Below.refl _ _⟩
end Go.Proofs.YtfnddhbiolpmgaaGreatDoor
/- What comes in: an argument that reads avl data is data of its type;what a law's call leaves is what the form asks. -/








set_option linter.unusedVariables false
set_option linter.unusedSimpArgs false
namespace Nv
open Go Go.RowKit Go.ChangeShapes Go.WideShapes Go.ChangeAt
def tiled (P:Program):Nat→List Field→Nat→Bool
 | o,[],e=>Nat.beq o e
 | o,f::fs,e=>Nat.beq f.offset o && tiled P (o+P.cellsOf f.type) fs e
def isDataIn (P:Program) (S:List TypeId) (t:TypeId):Bool :=
 match P.underlying t with
 | some .bool=>true
 | some (.int _)=>true
 | some .string=>true
 | some (.slice e)=>Nat.blt 0 (P.cellsOf e) && S.any (Nat.beq e)
 | some (.struct fs)=>tiled P 0 fs.toList (P.cellsOf t) && fs.toList.all fun f=>S.any (Nat.beq f.type)
 | _=>false
def closedData (P:Program) (S:List TypeId):Bool:=S.all (isDataIn P S)
theorem closedData.at {P:Program} {S:List TypeId} (h:closedData P S=true) {t:TypeId} (ht:S.any (Nat.beq t)=true):isDataIn P S t=true:=by
 obtain ⟨u,hu,he⟩:=List.any_eq_true.1 ht
 rw [Nat.eq_of_beq_eq_true he]
 exact List.all_eq_true.1 h u hu
def ofCells (P:Program) (t:TypeId) (ds:List DV):DV :=
 match P.underlying t with
 | some (.struct _)=>.agg ds
 | _=>ds.headD default
def TD (P:Program):Nat→TypeId→List DV→Prop
 | 0,_,_=>False
 | n+1,t,ds=>match P.underlying t with
  | some .bool=>∃ b,ds=[.bool b]
  | some (.int k)=>∃ z,ds=[.int k z]∧(Lit.int k z).wf=true
  | some .string=>∃ s:List UInt8,ds=[.str s]∧s.length≤maxLen
  | some (.slice e)=>∃ xs,ds=[.list (P.cellsOf e) xs]∧xs.length≤maxLen∧∀ x,x∈xs→∃ cs,x=ofCells P e cs∧TD P n e cs
  | some (.struct fs)=>ds.length=P.cellsOf t∧∀ f,f∈fs.toList→TD P n f.type ((ds.drop f.offset).take (P.cellsOf f.type))
  | _=>False
def VDs (I:Nat→Prop) (w:World) (ds:List DV) (cs:List Value):Prop:=ds.length=cs.length∧∀ j d,ds[j]? = some d→VD I w d (cs.getD j undef)
theorem VDs.append {I:Nat→Prop} {w:World} {ds ds':List DV} {cs cs':List Value} (h:VDs I w ds cs) (h':VDs I w ds' cs'):VDs I w (ds++ds') (cs++cs'):=by
 refine ⟨by simp [h.1,h'.1],fun j d hj=>?_⟩
 rcases Nat.lt_or_ge j ds.length with hl | hl
 ·rw [List.getElem?_append_left hl] at hj
  have:=h.2 j d hj
  rw [List.getD_eq_getElem?_getD,List.getElem?_append_left (by rw [← h.1];exact hl),← List.getD_eq_getElem?_getD]
  exact this
 ·rw [List.getElem?_append_right hl] at hj
  have:=h'.2 _ d hj
  rw [List.getD_eq_getElem?_getD,List.getElem?_append_right (by rw [← h.1];exact hl),← List.getD_eq_getElem?_getD,← h.1]
  exact this
theorem VDs.one {I:Nat→Prop} {w:World} {d:DV} {v:Value} (h:VD I w d v):VDs I w [d] [v] :=
 ⟨rfl,fun j x hj=>by
  cases j with
  | zero=>simp at hj;subst hj;simpa using h
  | succ j=>simp at hj⟩
section
variable {H:Type} {enc:TypeId × Value→H} {P:Program} {w:World} {sp:Nat→Bool} {held:Bool} {I:Nat→Prop}
theorem ofCells_cells {n:Nat} {t:TypeId} {ds:List DV} (h:TD P n t ds) (hn:∀ d,d∈ds→d.isAgg=false):(ofCells P t ds).cells=ds:=by
 have one:∀ d:DV,d.isAgg=false→d.cells=[d]:=fun d hd=>by cases d <;> first | rfl | simp [DV.isAgg] at hd
 cases n with
 | zero=>exact h.elim
 | succ n =>
  unfold TD at h
  unfold ofCells
  split at h
  ·rename_i ht;obtain ⟨b,rfl⟩:=h;simp only [ht];rfl
  ·rename_i k ht;obtain ⟨z,rfl,_⟩:=h;simp only [ht];rfl
  ·rename_i ht;obtain ⟨z,rfl,_⟩:=h;simp only [ht];rfl
  ·rename_i e ht;obtain ⟨z,rfl,_⟩:=h;simp only [ht];rfl
  ·rename_i fs ht;simp only [ht];rfl
  ·exact h.elim
theorem fields_td {n:Nat} {cs:List Value}:∀ (fs:List Field) (o e:Nat),tiled P o fs e=true→cs.length=e →
  (∀ f,f∈fs→∃ ds,TD P n f.type ds∧VDs I w ds ((cs.drop f.offset).take (P.cellsOf f.type))∧∀ d,d∈ds→d.isAgg=false)→o≤e →
  ∃ ds,VDs I w ds (cs.drop o)∧(∀ f,f∈fs→o≤f.offset∧TD P n f.type ((ds.drop (f.offset - o)).take (P.cellsOf f.type)))∧∀ d,d∈ds→d.isAgg=false
 | [],o,e,ht,hl,_,_=>by
  have:o=e:=Nat.eq_of_beq_eq_true ht
  subst this
  refine ⟨[],⟨by simp;omega,by simp⟩,by simp,by simp⟩
 | f::fs,o,e,ht,hl,hf,hoe=>by
  simp only [tiled,Bool.and_eq_true] at ht
  have hfo:f.offset=o:=Nat.eq_of_beq_eq_true ht.1
  have hle:∀ (fs:List Field) (o e:Nat),tiled P o fs e=true→o≤e:=by
   intro fs
   induction fs with
   | nil=>intro o e h;exact Nat.le_of_eq (Nat.eq_of_beq_eq_true h)
   | cons g gs ih=>intro o e h;simp only [tiled,Bool.and_eq_true] at h;have:=ih _ _ h.2;omega
  have hle':=hle _ _ _ ht.2
  obtain ⟨ds,h1,h2,h3⟩:=fields_td fs _ e ht.2 hl (fun g hg=>hf g (List.mem_cons_of_mem _ hg)) hle'
  obtain ⟨d0,g1,g2,g3⟩:=hf f (by simp)
  rw [hfo] at g2
  have hl0:d0.length=P.cellsOf f.type:=by rw [g2.1];simp;omega
  refine ⟨d0++ds,?_,fun g hg=>?_,fun d hd=>?_⟩
  ·have:=g2.append h1
   rwa [show (cs.drop o).take (P.cellsOf f.type)++cs.drop (o+P.cellsOf f.type)=cs.drop o by rw [← List.drop_drop];exact List.take_append_drop _ _] at this
  ·rcases List.mem_cons.1 hg with rfl | hg
   ·refine ⟨by omega,?_⟩
    rw [hfo,Nat.sub_self,List.drop_zero,← hl0,List.take_left]
    exact g1
   ·obtain ⟨k1,k2⟩:=h2 g hg
    refine ⟨by omega,?_⟩
    rw [List.drop_append,List.drop_of_length_le (by omega),List.nil_append,hl0,show g.offset - o - P.cellsOf f.type=g.offset - (o+P.cellsOf f.type) by omega]
    exact k2
  ·rcases List.mem_append.1 hd with hd | hd
   ·exact g3 d hd
   ·exact h3 d hd
theorem read_td (hsp:∀ b,sp b=true) (hI:∀ b,b<w.heap.size→I b) {S:List TypeId} (hS:closedData P S=true):∀ (n:Nat) (t:TypeId) (cs:List Value) (x:DataW H × List MemPlace),S.any (Nat.beq t)=true →
  DataW.trod enc P w 0 sp held n t cs=some x→∃ ds,TD P n t ds∧VDs I w ds cs∧∀ d,d∈ds→d.isAgg=false:=by
 intro n
 induction n with
 | zero=>intro t cs x _ h;simp [DataW.trod] at h
 | succ n ih =>
  intro t cs x hmem h
  have hd:=closedData.at hS hmem
  unfold isDataIn at hd
  split at hd
  ·rename_i ht
   obtain ⟨b,rfl,_⟩:=DataW.trod_bool ht h
   exact ⟨[.bool b],by simp only [TD,ht];exact ⟨b,rfl⟩,.one (.bool b),by simp [DV.isAgg]⟩
  ·rename_i k ht
   obtain ⟨z,rfl,_,hw⟩:=DataW.trod_int ht h
   exact ⟨[.int k z],by simp only [TD,ht];exact ⟨z,rfl,hw⟩,.one (.int k z),by simp [DV.isAgg]⟩
  ·rename_i ht
   obtain ⟨s,rfl,_,hw⟩:=DataW.trod_string ht h
   exact ⟨[.str s.data.toList],by simp only [TD,ht];exact ⟨_,rfl,by simpa using hw⟩,.one (.str s.data.toList),by simp [DV.isAgg]⟩
  ·rename_i e ht
   simp only [Bool.and_eq_true,Nat.blt_eq] at hd
   obtain ⟨hc,hde⟩:=hd
   rcases DataW.trod_slice ht h with ⟨rfl,_⟩ | ⟨a,len,cap,elems,rest,m,hnm,rfl,_,hb,hlc,hm,hlen,hel,hrest,_⟩
   ·exact ⟨[.list (P.cellsOf e) []],by simp only [TD,ht];exact ⟨[],rfl,by simp,by simp⟩,.one (.listNil _ none),by simp [DV.isAgg]⟩
   ·obtain rfl:n=m:=by omega
    have getC:∀ i y,(w.cells? 0 (a.add (i * P.cellsOf e)) (P.cellsOf e)).bind (DataW.trod enc P w 0 sp held n e)=some y →
      ∃ (cs:List Value) (ds:List DV),w.cells? 0 (a.add (i * P.cellsOf e)) (P.cellsOf e)=some cs∧TD P n e ds∧VDs I w ds cs∧∀ d,d∈ds→d.isAgg=false:=by
     intro i y hy
     obtain ⟨cs,h1,h2⟩:=Option.bind_eq_some_iff.1 hy
     obtain ⟨ds,h3,h4,h5⟩:=ih _ _ _ hde h2
     exact ⟨cs,ds,h1,h3,h4,h5⟩
    have spot:∀ cs,w.cells? 0 (a.add (0 * P.cellsOf e)) (P.cellsOf e)=some cs→a.spot=none∧a.block<w.heap.size:=by
     intro cs hcs
     obtain ⟨_,hl,hg⟩:=World.cells?_some hcs
     have h0:=hg 0 hc
     rw [List.getElem?_eq_getElem (by omega)] at h0
     have ha:((a.add (0 * P.cellsOf e)).add 0)=a:=by simp [Addr.add]
     rw [ha] at h0
     unfold World.cell? at h0
     split at h0
     ·rename_i hh
      split at h0
      ·cases h0
      ·rename_i hsp;exact ⟨by simpa using hsp,(Array.getElem?_eq_some_iff.1 hh).1⟩
     ·cases h0
    by_cases hcap:cap=0
    ·subst hcap
     obtain rfl:len=0:=by omega
     exact ⟨[.list (P.cellsOf e) []],by simp only [TD,ht];exact ⟨[],rfl,by simp,by simp⟩,.one (.listNil _ (some a)),by simp [DV.isAgg]⟩
    ·have elem:∀ i,i<len→∃ (c:List Value × List DV),w.cells? 0 (a.add (i * P.cellsOf e)) (P.cellsOf e)=some c.1∧TD P n e c.2∧VDs I w c.2 c.1∧∀ d,d∈c.2→d.isAgg=false:=by
      intro i hi
      have h1:=hel i hi
      rw [List.getElem?_eq_getElem (by omega)] at h1
      obtain ⟨cs,ds,q⟩:=getC i _ h1
      exact ⟨(cs,ds),q⟩
     have hs:a.spot=none∧a.block<w.heap.size:=by
      rcases Nat.eq_zero_or_pos len with h0 | h0
      ·obtain ⟨r1,r2⟩:=hrest (hsp _)
       have h1:=r2 0 (by omega)
       have e0:len+0=0:=by omega
       simp only [e0] at h1
       rw [List.getElem?_eq_getElem (by omega)] at h1
       obtain ⟨cs,ds,q,_⟩:=getC 0 _ h1
       exact spot _ q
      ·obtain ⟨c,q,_⟩:=elem 0 h0
       exact spot _ q
     obtain ⟨b,off,sp'⟩:=a
     obtain ⟨h1,hbl⟩:=hs
     simp only at h1 hbl
     subst h1
     obtain ⟨C,hC⟩:=Go.Deep.choose_lt elem
     let xs:List DV:=(List.range len).map fun i=>ofCells P e (C i).2
     have hxl:xs.length=len:=by simp [xs]
     have hxi:∀ i,i<len→xs.getD i default=ofCells P e (C i).2:=fun i hi=>by simp [xs,List.getD_eq_getElem?_getD,hi]
     have hcl:∀ i,i<len→(C i).1.length=P.cellsOf e:=fun i hi=>(World.cells?_some (hC i hi).1).2.1
     have hdl:∀ i,i<len→(C i).2.length=P.cellsOf e:=fun i hi=>by rw [(hC i hi).2.2.1.1];exact hcl i hi
     have hoc:∀ i,i<len→(ofCells P e (C i).2).cells=(C i).2:=fun i hi=>ofCells_cells (hC i hi).2.1 (hC i hi).2.2.2
     have hmem:∀ x,x∈xs→∃ i,i<len∧x=ofCells P e (C i).2:=fun x hx=>by
      obtain ⟨i,hi,rfl⟩:=List.mem_map.1 hx
      exact ⟨i,List.mem_range.1 hi,rfl⟩
     have huni:∀ x,x∈xs→Uni (P.cellsOf e) x:=fun x hx=>by
      obtain ⟨i,hi,rfl⟩:=hmem x hx
      exact ⟨by rw [hoc i hi];exact hdl i hi,by rw [hoc i hi];exact (hC i hi).2.2.2⟩
     have hfl:∀ j c,(flat xs)[j]? = some c→j / P.cellsOf e<len∧(C (j / P.cellsOf e)).2[j % P.cellsOf e]? = some c:=by
      intro j c hj
      have hjl:j<(flat xs).length:=by
       rcases Nat.lt_or_ge j (flat xs).length with h | h
       ·exact h
       ·rw [List.getElem?_eq_none h] at hj;cases hj
      rw [flat_len huni,hxl] at hjl
      have hd:=Nat.div_lt_of_lt_mul (by rwa [Nat.mul_comm] at hjl:j<P.cellsOf e * len)
      refine ⟨hd,?_⟩
      have:=flat_get huni (i:=j / P.cellsOf e) (o:=j % P.cellsOf e) (by omega) (Nat.mod_lt _ hc)
      rw [show j / P.cellsOf e * P.cellsOf e+j % P.cellsOf e=j by rw [Nat.mul_comm];exact Nat.div_add_mod _ _,hj,hxi _ hd,hoc _ hd] at this
      exact this.symm
     refine ⟨[.list (P.cellsOf e) xs],?_,.one (.list (fun j=>(C (j / P.cellsOf e)).1.getD (j % P.cellsOf e) undef) hxl.symm hlc huni (fun j c hj=>?_) (fun j c hj=>?_)),by simp [DV.isAgg]⟩
     ·simp only [TD,ht]
      refine ⟨xs,rfl,by omega,fun x hx=>?_⟩
      obtain ⟨i,hi,rfl⟩:=hmem x hx
      exact ⟨_,rfl,(hC i hi).2.1⟩
     ·obtain ⟨h1,h2⟩:=hfl j c hj
      refine ⟨hI _ hbl,?_⟩
      obtain ⟨_,_,hg⟩:=World.cells?_some (hC _ h1).1
      have:=hg (j % P.cellsOf e) (Nat.mod_lt _ hc)
      rw [Addr.add_lit,Addr.add_lit,Nat.add_assoc,show j / P.cellsOf e * P.cellsOf e+j % P.cellsOf e=j by rw [Nat.mul_comm];exact Nat.div_add_mod _ _] at this
      rw [this,List.getD_eq_getElem?_getD,List.getElem?_eq_getElem (by rw [hcl _ h1];exact Nat.mod_lt _ hc)]
      rfl
     ·obtain ⟨h1,h2⟩:=hfl j c hj
      exact (hC _ h1).2.2.1.2 _ _ h2
  ·rename_i fs ht
   simp only [Bool.and_eq_true] at hd
   obtain ⟨htl,hfs⟩:=hd
   obtain ⟨xs,m,hnm,_,hlen,hxs,hf⟩:=DataW.trod_struct ht h
   obtain rfl:n=m:=by omega
   obtain ⟨ds,h1,h2,h3⟩:=fields_td (n:=n) (w:=w) (I:=I) (cs:=cs) fs.toList 0 (P.cellsOf t) htl hlen (fun f hfm=>by
    obtain ⟨i,hi,he⟩:=List.getElem_of_mem hfm
    have h4:fs[i]? = some f:=by
     rw [Array.length_toList] at hi
     rw [Array.getElem?_eq_getElem hi]
     simpa using he
    have h5:=hf i f h4
    rw [List.getElem?_eq_getElem (by rw [hxs];simpa using hi)] at h5
    exact ih _ _ _ (List.all_eq_true.1 hfs f hfm) h5) (Nat.zero_le _)
   rw [List.drop_zero] at h1
   refine ⟨ds,?_,h1,h3⟩
   simp only [TD,ht]
   exact ⟨by rw [h1.1,hlen],fun f hfm=>by simpa using (h2 f hfm).2⟩
  ·cases hd
def avOf (P:Program) (t:TypeId) (ds:List DV):AV :=
 match P.underlying t with
 | some (.struct _)=>.agg (ds.map .d)
 | _=>.d (ds.headD default)
theorem read_arg {W:World} {ρ:RHO} {S:List TypeId} {t:TypeId} {v:Value} {d:DataW H} {p:List MemPlace} {base:Nat} (hS:closedData P S=true) (ht:S.any (Nat.beq t)=true)
  (h:DataW.Trod enc P W 0 (fun _=>true) held t v d p) (hok:Value.okWide P W .any base t v) :
  ∃ n ds,TD P n t ds∧V ρ [] (fun b=>b<W.heap.size) W (avOf P t ds) v:=by
 obtain ⟨n,hf⟩:=h
 obtain ⟨ds,h1,h2,h3⟩:=read_td (I:=fun b=>b<W.heap.size) (fun _=>rfl) (fun b hb=>hb) hS n t _ _ ht hf
 refine ⟨n,ds,h1,?_⟩
 have one:∀ d,ds=[d]→v.cells=#[v]→VD (fun b=>b<W.heap.size) W d v:=fun d hds hv=>by
  subst hds
  have:=h2.2 0 d rfl
  rw [hv] at this
  simpa using this
 unfold avOf
 unfold Value.okWide at hok
 cases n with
 | zero=>exact h1.elim
 | succ n =>
  unfold TD at h1
  split at h1
  ·rename_i ht
   obtain ⟨b,rfl⟩:=h1
   rw [ht] at hok ⊢
   simp only [Cell.okWide,ht] at hok
   exact .d (one _ rfl (by cases v <;> first | rfl | (exfalso;simp [Cell.ok,ht] at hok)))
  ·rename_i k ht
   obtain ⟨b,rfl,_⟩:=h1
   rw [ht] at hok ⊢
   simp only [Cell.okWide,ht] at hok
   exact .d (one _ rfl (by cases v <;> first | rfl | (exfalso;simp [Cell.ok,ht] at hok)))
  ·rename_i ht
   obtain ⟨b,rfl,_⟩:=h1
   rw [ht] at hok ⊢
   simp only [Cell.okWide,ht] at hok
   exact .d (one _ rfl (by cases v <;> first | rfl | (exfalso;simp [Cell.ok,ht] at hok)))
  ·rename_i e ht
   obtain ⟨b,rfl,_⟩:=h1
   rw [ht] at hok ⊢
   simp only [Cell.okWide,ht] at hok
   exact .d (one _ rfl (by cases v <;> first | rfl | (exfalso;simp [Cell.ok,ht] at hok)))
  ·rename_i fs ht
   rw [ht] at hok ⊢
   obtain ⟨cs,rfl,hsz,_⟩:=hok
   have hl:=h2.1
   simp only [Value.cells,Array.length_toList] at hl
   refine .agg (by simpa using hl) (fun j c hj=>?_)
   simp only [List.getElem?_map,Option.map_eq_some_iff] at hj
   obtain ⟨d,hd,rfl⟩:=hj
   have:=h2.2 j d hd
   simp only [Value.cells] at this
   have hjl:j<cs.size:=by
    rw [← hl]
    rcases Nat.lt_or_ge j ds.length with h | h
    ·exact h
    ·rw [List.getElem?_eq_none h] at hd;cases hd
   rw [Array.getD_eq_getD_getElem?]
   rw [List.getD_eq_getElem?_getD,Array.getElem?_toList] at this
   exact .d this
  ·exact h1.elim
theorem PCall.calls {f:FuncId} {args:List AV} {b:Bool} {W:World} {vs:Array Value} (h:PCall P f args (.d (.bool b)))
  (hv:VL (fun _=>⟨none,0,0⟩) [] (fun b=>b<W.heap.size) W args vs) (hT:Tabs P (fun b=>b<W.heap.size) W):Calls P f vs W fun e w'=>e=.returned (.bool b)∧Below W.heap.size W w':=by
 have hr:RS P (fun _=>⟨none,0,0⟩) (fun b=>b<W.heap.size) W []:=⟨fun i blk hi=>by simp at hi,fun i j bi bj B hi=>by simp at hi,fun B hl=>absurd hl (no_lives B),fun B hB=>hB,hT⟩
 refine (h [] _ _ W vs hr hv).mono ?_
 rintro e w' ⟨ρ',I',σ',oc,h1,h2,h3,rfl,rfl⟩
 cases e <;> simp only at h3
 rename_i v
 rw [h3.d_inv.bool_inv]
 exact ⟨rfl,h1.env.os,h1.env.tape,h1.env.output,h1.hsz,fun k hk=>h1.keep k hk (no_lives k)⟩
theorem trodAll_stays {ts:List TypeId} (hl:laidOutB P=true) (hr:∀ t,t∈ts→P.readableRec t=true∧t<P.types.size) {W W':World}:∀ {vs:List Value} {ds:List (DataW H)} {ps:List MemPlace},
  DataW.TrodAll enc P W 0 (fun _=>true) true ts vs ds ps→Below W.heap.size W W'→(∀ x,x∈ps→x.block<W.heap.size)→DataW.TrodAll enc P W' 0 (fun b=>decide (b<W.heap.size)) true ts vs ds ps:=by
 induction ts with
 | nil =>
  intro vs ds ps h hb hlt
  cases vs <;> cases ds <;> first | exact h | exact h.elim
 | cons t ts ih =>
  intro vs ds ps h hb hlt
  cases vs <;> cases ds <;> first | exact h.elim | skip
  obtain ⟨p,q,h1,h2,rfl⟩:=h
  exact ⟨p,q,Below.trod hl (hr t (by simp)).1 (hr t (by simp)).2 h1 hb (fun x hx=>hlt x (List.mem_append_left _ hx)),
   ih (fun t ht=>hr t (List.mem_cons_of_mem _ ht)) h2 hb (fun x hx=>hlt x (List.mem_append_right _ hx)),rfl⟩
theorem law_post {fn:Func} {s:ChangeSpec} {apart:Bool} {W W':World} {args:Array Value} {ds:List (DataW H)} {before:List MemPlace} {tb:TypeId}
  (hl:laidOutB P=true) (hr:∀ t,t∈fn.params.toList→P.readableRec t=true∧t<P.types.size) (hvars:s.vars=[])
  (hW:DataW.Whole enc P fn.params.toList s.vars apart W args.toList ds [] before)
  (h1:(s.fn H (ds++[])).results=[.lit (.bool true)]) (h2:(s.fn H (ds++[])).args=ds) (h3:(s.fn H (ds++[])).vars=[])
  (ht:fn.resultTypes=#[tb]) (hb:P.underlying tb=some .bool) (hB:Below W.heap.size W W'):s.post enc P fn apart true false false W args (.bool true) W':=by
 have hlt:=hW.lt
 obtain ⟨p,q,hA,hV,rfl,hfz,hnd⟩:=id hW
 rw [hvars] at hV
 obtain ⟨_,rfl⟩:=trodVars_none hV
 refine ⟨ds,[],p++[],[],p,[],hW,?_,?_,?_,hB.frame _,fun h=>by cases h⟩
 ·rw [h1,ht]
  exact trodAll_mk1 (shut_bool hb _)
 ·rw [h2]
  exact trodAll_stays hl hr hA hB (fun x hx=>by simpa using hlt x (by simpa using hx))
 ·rw [h3,hvars];rfl
end
theorem handed_laid {H:Type} {enc:TypeId × Value→H} {C:Checked} {os:Os} {f:FuncId} {fn:Func} {s:ChangeSpec} {apart fresh handsOn again:Bool} {X:World→Prop}
  (hX:∀ w w':World,w.heap=w'.heap→X w→X w') (own:ownKnob C.prog.godebug=none) (started:os.Started) (noInit:C.prog.inits.idxOf? f=none) (hfn:C.prog.funcs[f]? = some fn)
  (witness:∃ (w:World) (tape:Tape) (i:Input),w.os=os∧(w.forCall tape i).Shaped C.prog∧i.vars=[]∧Input.okWide C.prog (w.forCall tape i) .any w.heap.size f i ∧
   ((s.pre enc C.prog fn [] apart (w.forCall tape i).memory i.args∧X (w.forCall tape i).memory)∧sizedMet enc C.prog fn (OpenSpec.ofChange s) apart (w.forCall tape i).memory i.args)∧({}:Assume).holds C.prog (lone (Frame.enter C.prog f i.args .normal) [] (w.forCall tape i)))
  (law:∀ (W:World) (base:Nat) (args:Array Value) (ds gs:List (DataW H)) (before:List MemPlace),(∀ (j:Nat) t v,fn.params[j]? = some t→args[j]? = some v→Value.okWide C.prog W .any base t v) →
   DataW.Whole enc C.prog fn.params.toList s.vars apart W args.toList ds gs before→(DataW.weightsEach C.prog (fn.params.toList++s.plain.varTypes C.prog) (ds++gs)).all (·≤reachBytes)=true→W.ShapedOpen C.prog→X W→Calls C.prog f args W fun e W'=>∃ v,e=.returned v∧s.post enc C.prog fn apart fresh handsOn again W args v W') :
  ReturnsInHanded {} C os f .any (fun w args=>(s.pre enc C.prog fn [] apart w args∧X w)∧sizedMet enc C.prog fn (OpenSpec.ofChange s) apart w args) (s.post enc C.prog fn apart fresh handsOn again):=by
 refine returnsInHanded_of_calls own started noInit witness ?_
 intro w tape i _ hshape _ hin hpre _
 have hval:=hin.2.2.2
 obtain ⟨fn1,hf1,_,_,_,_,hval⟩:=hval
 cases Option.some.inj (hf1.symm.trans hfn)
 have hh:(w.forCall tape i).memory.heap=(w.forCall tape i).heap:=by rfl
 obtain ⟨⟨⟨ds,gs,before,hread,_⟩,hx⟩,hz⟩:=hpre
 refine (law _ _ _ ds gs before hval (DataW.Whole.of_heap hh hread) (hz.weights hread) hshape (hX _ _ hh hx)).mono ?_
 rintro e W' ⟨v,rfl,hpost⟩
 exact ChangeSpec.post_blind hpost
end Nv
