/- Part of a proof about the functions of this seat. -/
import Derived.Test.YtfnddhbiolpmgaaGreatDoorG10Base56
import Derived.Test.YtfnddhbiolpmgaaGreatDoorG13Nfs
import Derived.Test.YtfnddhbiolpmgaaGreatDoorG20Pars
/- The prepared code of further functions. Written by a program of mine (gen.py) out of what the loaded dump prints. -/

set_option linter.unusedVariables false
set_option maxRecDepth 100000
namespace Go.Proofs.YtfnddhbiolpmgaaGreatDoor
open Go Nv
theorem fn18:FnIs Tryz.prog 18 1 [Go.ResultVar.cell 2 39,Go.ResultVar.cell 3 29] (.seq (.region [⟨some 2,Go.Op.alloc 39,0,none⟩,
   ⟨some 3,Go.Op.alloc 29,0,none⟩])
  (.seq (.seq (.region [⟨some 5,Go.Op.move (Go.Operand.tmp 0),9,none⟩,
   ⟨some 6,Go.Op.call { callee:=Go.Callee.builtin Go.Builtin.len,args:=#[Go.Operand.tmp 5],argTypes:=#[9] },3,none⟩,
   ⟨some 7,Go.Op.binOp Go.BinOp.gtr 3 (Go.Operand.tmp 6) (Go.Operand.const (Go.Value.int Go.IntKind.i64 60)) 3,4,none⟩])
  (.cond (Go.Operand.tmp 7)
   (.seq (.region [⟨some 8,Go.Op.build 39 #[],39,none⟩,
    ⟨none,Go.Op.store 39 (Go.Operand.tmp 2) (Go.Operand.tmp 8),0,none⟩,
    ⟨none,Go.Op.store 29 (Go.Operand.tmp 3) (Go.Operand.const (Go.Value.int Go.IntKind.i64 5)),0,none⟩])
   .ret)
   .skip))
  (.seq (.seq (.region [⟨some 9,Go.Op.move (Go.Operand.tmp 0),9,none⟩,
   ⟨some 10,Go.Op.call { callee:=Go.Callee.value (Go.Operand.func 25),args:=#[Go.Operand.tmp 9],argTypes:=#[9] },4,none⟩,
   ⟨some 11,Go.Op.unOp Go.UnOp.not 4 (Go.Operand.tmp 10),4,none⟩])
  (.cond (Go.Operand.tmp 11)
   (.seq (.region [⟨some 12,Go.Op.build 39 #[],39,none⟩,
    ⟨none,Go.Op.store 39 (Go.Operand.tmp 2) (Go.Operand.tmp 12),0,none⟩,
    ⟨none,Go.Op.store 29 (Go.Operand.tmp 3) (Go.Operand.const (Go.Value.int Go.IntKind.i64 3)),0,none⟩])
   .ret)
   .skip))
  (.seq (.region [⟨some 13,Go.Op.makeFunc (Go.Fn.func 26) #[] #[Go.Operand.tmp 2,Go.Operand.tmp 3],1,none⟩,
   ⟨none,Go.Op.defer { callee:=Go.Callee.value (Go.Operand.tmp 13),args:=#[],argTypes:=#[] },0,none⟩])
  (.seq (.region [⟨some 14,Go.Op.move (Go.Operand.tmp 0),9,none⟩,
   ⟨some 15,Go.Op.convert 9 72 (Go.Operand.tmp 14),72,none⟩,
   ⟨some 16,Go.Op.build 74 #[(0,Go.Operand.tmp 15)],74,none⟩,
   ⟨some 17,Go.Op.box 74 (Go.Operand.tmp 16),71,none⟩,
   ⟨some 4,Go.Op.assign (Go.Operand.tmp 17),71,none⟩])
  (.seq (.region [⟨some 18,Go.Op.move (Go.Operand.tmp 4),71,none⟩,
   ⟨some 19,Go.Op.call { callee:=Go.Callee.value (Go.Operand.func 27),args:=#[Go.Operand.tmp 18],argTypes:=#[71] },39,none⟩,
   ⟨none,Go.Op.store 39 (Go.Operand.tmp 2) (Go.Operand.tmp 19),0,none⟩])
  (.seq (.seq (.region [⟨some 20,Go.Op.move (Go.Operand.tmp 4),71,none⟩,
   ⟨some 21,Go.Op.call { callee:=Go.Callee.value (Go.Operand.func 28),args:=#[Go.Operand.tmp 20],argTypes:=#[71] },21,none⟩,
   ⟨some 22,Go.Op.binOp Go.BinOp.geq 21 (Go.Operand.tmp 21) (Go.Operand.const (Go.Value.int Go.IntKind.i32 0)) 21,4,none⟩])
  (.cond (Go.Operand.tmp 22)
   (.region [⟨some 23,Go.Op.build 69 #[],69,none⟩,
    ⟨some 24,Go.Op.makeInterface 69 (Go.Operand.tmp 23),20,none⟩,
    ⟨none,Go.Op.panic (Go.Operand.tmp 24),0,none⟩])
   .skip))
  (.seq (.region [⟨some 25,Go.Op.load 39 (Go.Operand.tmp 2),39,none⟩,
   ⟨none,Go.Op.store 39 (Go.Operand.tmp 2) (Go.Operand.tmp 25),0,none⟩,
   ⟨none,Go.Op.store 29 (Go.Operand.tmp 3) (Go.Operand.const (Go.Value.int Go.IntKind.i64 0)),0,none⟩])
  .ret)))))))) :=
 ⟨foll,Tryz.f18,Tryz.func18,by kernel_rfl,by kernel_rfl,by kernel_rfl,by rw [Tryz.ntmps18];decide⟩
theorem fn26:FnIs Tryz.prog 26 2 [] (.seq (.region [⟨some 5,Go.Op.call { callee:=Go.Callee.builtin Go.Builtin.recover,args:=#[],argTypes:=#[] },20,none⟩,
   ⟨some 2,Go.Op.assign (Go.Operand.tmp 5),20,none⟩])
  (.seq (.region [⟨some 6,Go.Op.move (Go.Operand.tmp 2),20,none⟩,
   ⟨some 7,Go.Op.binOp Go.BinOp.neq 20 (Go.Operand.tmp 6) (Go.Operand.const Go.Value.nilIface) 20,4,none⟩])
  (.cond (Go.Operand.tmp 7)
   (.seq (.seq (.region [⟨some 9,Go.Op.move (Go.Operand.tmp 2),20,none⟩,
    ⟨some 10,Go.Op.typeAssert (Go.Operand.tmp 9) 20 69 true,70,none⟩,
    ⟨some 8,Go.Op.move (Go.Operand.tmp 10),70,none⟩,
    ⟨some 11,Go.Op.extract (Go.Operand.tmp 8) 0,69,none⟩,
    ⟨some 12,Go.Op.extract (Go.Operand.tmp 8) 1,4,none⟩,
    ⟨some 3,Go.Op.alloc 69,0,none⟩,
    ⟨none,Go.Op.store 69 (Go.Operand.tmp 3) (Go.Operand.tmp 11),0,none⟩,
    ⟨some 4,Go.Op.assign (Go.Operand.tmp 12),4,none⟩])
   (.seq (.region [⟨some 13,Go.Op.move (Go.Operand.tmp 4),4,none⟩,
    ⟨some 14,Go.Op.unOp Go.UnOp.not 4 (Go.Operand.tmp 13),4,none⟩])
   (.cond (Go.Operand.tmp 14)
    (.region [⟨some 15,Go.Op.move (Go.Operand.tmp 2),20,none⟩,
     ⟨none,Go.Op.panic (Go.Operand.tmp 15),0,none⟩])
    .skip)))
   (.region [⟨some 16,Go.Op.build 39 #[],39,none⟩,
    ⟨none,Go.Op.store 39 (Go.Operand.tmp 0) (Go.Operand.tmp 16),0,none⟩,
    ⟨none,Go.Op.store 29 (Go.Operand.tmp 1) (Go.Operand.const (Go.Value.int Go.IntKind.i64 3)),0,none⟩]))
   .skip))) :=
 ⟨foll,Tryz.f26,Tryz.func26,by kernel_rfl,by kernel_rfl,by kernel_rfl,by rw [Tryz.ntmps26];decide⟩
theorem fn27:FnIs Tryz.prog 27 1 [Go.ResultVar.cell 2 39] (.seq (.region [⟨some 2,Go.Op.alloc 39,0,none⟩])
  (.seq (.region [⟨some 4,Go.Op.move (Go.Operand.tmp 0),71,none⟩,
   ⟨some 5,Go.Op.call { callee:=Go.Callee.value (Go.Operand.func 41),args:=#[Go.Operand.tmp 4],argTypes:=#[71] },39,none⟩,
   ⟨some 6,Go.Op.buildSlice 37 1 #[(0,Go.Operand.tmp 5)],37,none⟩,
   ⟨some 3,Go.Op.assign (Go.Operand.tmp 6),37,none⟩])
  (.seq (.block 0
   (.loop
    (.seq (.seq (.region [⟨some 7,Go.Op.move (Go.Operand.tmp 0),71,none⟩,
     ⟨some 8,Go.Op.call { callee:=Go.Callee.value (Go.Operand.func 42),args:=#[Go.Operand.tmp 7,Go.Operand.const (Go.Value.int Go.IntKind.i32 124)],argTypes:=#[71,21] },4,none⟩])
    (.cond (Go.Operand.tmp 8)
     .skip
     (.exit 0)))
    (.block 1
     (.region [⟨some 9,Go.Op.move (Go.Operand.tmp 3),37,none⟩,
      ⟨some 10,Go.Op.move (Go.Operand.tmp 0),71,none⟩,
      ⟨some 11,Go.Op.call { callee:=Go.Callee.value (Go.Operand.func 41),args:=#[Go.Operand.tmp 10],argTypes:=#[71] },39,none⟩,
      ⟨some 12,Go.Op.buildSlice 37 1 #[(0,Go.Operand.tmp 11)],37,none⟩,
      ⟨some 13,Go.Op.call { callee:=Go.Callee.builtin Go.Builtin.append,args:=#[Go.Operand.tmp 9,Go.Operand.tmp 12],argTypes:=#[37,37] },37,none⟩,
      ⟨some 3,Go.Op.assign (Go.Operand.tmp 13),37,none⟩])))))
  (.seq (.seq (.region [⟨some 14,Go.Op.move (Go.Operand.tmp 3),37,none⟩,
   ⟨some 15,Go.Op.call { callee:=Go.Callee.builtin Go.Builtin.len,args:=#[Go.Operand.tmp 14],argTypes:=#[37] },3,none⟩,
   ⟨some 16,Go.Op.binOp Go.BinOp.eql 3 (Go.Operand.tmp 15) (Go.Operand.const (Go.Value.int Go.IntKind.i64 1)) 3,4,none⟩])
  (.cond (Go.Operand.tmp 16)
   (.seq (.region [⟨some 17,Go.Op.move (Go.Operand.tmp 3),37,none⟩,
    ⟨some 18,Go.Op.indexAddr 37 (Go.Operand.tmp 17) (Go.Operand.const (Go.Value.int Go.IntKind.i64 0)),0,none⟩,
    ⟨some 19,Go.Op.load 39 (Go.Operand.tmp 18),39,none⟩,
    ⟨none,Go.Op.store 39 (Go.Operand.tmp 2) (Go.Operand.tmp 19),0,none⟩])
   .ret)
   .skip))
  (.seq (.region [⟨some 20,Go.Op.move (Go.Operand.tmp 3),37,none⟩,
   ⟨some 21,Go.Op.build 39 #[(0,Go.Operand.const (Go.Value.int Go.IntKind.i64 4)),(2,Go.Operand.tmp 20)],39,none⟩,
   ⟨none,Go.Op.store 39 (Go.Operand.tmp 2) (Go.Operand.tmp 21),0,none⟩])
  .ret))))) :=
 ⟨foll,Tryz.f27,Tryz.func27,by kernel_rfl,by kernel_rfl,by kernel_rfl,by rw [Tryz.ntmps27];decide⟩
theorem fn28:FnIs Tryz.prog 28 1 [Go.ResultVar.tmp 2] (.seq (.region [⟨some 2,Go.Op.assign (Go.Operand.const (Go.Value.int Go.IntKind.i32 0)),21,none⟩])
  (.seq (.seq (.draw true [⟨⟨some 3,Go.Op.move (Go.Operand.tmp 0),71,none⟩,false,false,false⟩,
   ⟨⟨some 4,Go.Op.nilCheck (Go.Operand.tmp 3),0,none⟩,false,false,false⟩,
   ⟨⟨some 5,Go.Op.fieldAddr 74 (Go.Operand.tmp 4) 1,0,none⟩,false,false,false⟩,
   ⟨⟨some 6,Go.Op.load 3 (Go.Operand.tmp 5),3,none⟩,false,false,false⟩,
   ⟨⟨some 7,Go.Op.move (Go.Operand.tmp 0),71,none⟩,false,false,false⟩,
   ⟨⟨some 8,Go.Op.nilCheck (Go.Operand.tmp 7),0,none⟩,false,false,false⟩,
   ⟨⟨some 9,Go.Op.fieldAddr 74 (Go.Operand.tmp 8) 0,0,none⟩,false,false,false⟩,
   ⟨⟨some 10,Go.Op.load 72 (Go.Operand.tmp 9),72,none⟩,false,false,false⟩,
   ⟨⟨some 11,Go.Op.call { callee:=Go.Callee.builtin Go.Builtin.len,args:=#[Go.Operand.tmp 10],argTypes:=#[72] },3,none⟩,false,false,false⟩,
   ⟨⟨some 12,Go.Op.binOp Go.BinOp.lss 3 (Go.Operand.tmp 6) (Go.Operand.tmp 11) 3,4,none⟩,false,false,false⟩] [[],[0],[0,1],[0,1,2],[],[4],[4,5],[4,5,6],[4,5,6,7],[0,1,2,3,4,5,6,7,8]])
  (.cond (Go.Operand.tmp 12)
   (.seq (.draw true [⟨⟨some 13,Go.Op.move (Go.Operand.tmp 0),71,none⟩,false,false,false⟩,
    ⟨⟨some 14,Go.Op.nilCheck (Go.Operand.tmp 13),0,none⟩,false,false,false⟩,
    ⟨⟨some 15,Go.Op.fieldAddr 74 (Go.Operand.tmp 14) 0,0,none⟩,false,false,false⟩,
    ⟨⟨some 16,Go.Op.load 72 (Go.Operand.tmp 15),72,none⟩,false,false,false⟩,
    ⟨⟨some 17,Go.Op.move (Go.Operand.tmp 0),71,none⟩,false,false,false⟩,
    ⟨⟨some 18,Go.Op.nilCheck (Go.Operand.tmp 17),0,none⟩,false,false,false⟩,
    ⟨⟨some 19,Go.Op.fieldAddr 74 (Go.Operand.tmp 18) 1,0,none⟩,false,false,false⟩,
    ⟨⟨some 20,Go.Op.load 3 (Go.Operand.tmp 19),3,none⟩,false,false,false⟩,
    ⟨⟨some 21,Go.Op.indexAddr 72 (Go.Operand.tmp 16) (Go.Operand.tmp 20),0,none⟩,false,false,false⟩,
    ⟨⟨some 22,Go.Op.load 21 (Go.Operand.tmp 21),21,none⟩,false,false,false⟩,
    ⟨⟨some 2,Go.Op.assign (Go.Operand.tmp 22),21,none⟩,false,false,false⟩] [[],[0],[0,1],[0,1,2],[],[4],[4,5],[4,5,6],[0,1,2,3,4,5,6,7],[0,1,2,3,4,5,6,7,8],[0,1,2,3,4,5,6,7,8,9]])
   .ret)
   .skip))
  (.seq (.region [⟨some 2,Go.Op.assign (Go.Operand.const (Go.Value.int Go.IntKind.i32 (-1))),21,none⟩])
  .ret))) :=
 ⟨foll,Tryz.f28,Tryz.func28,by kernel_rfl,by kernel_rfl,by kernel_rfl,by rw [Tryz.ntmps28];decide⟩
theorem fn41:FnIs Tryz.prog 41 1 [Go.ResultVar.cell 2 39] (.seq (.region [⟨some 2,Go.Op.alloc 39,0,none⟩])
  (.seq (.region [⟨some 3,Go.Op.assign (Go.Operand.const (Go.Value.slice none 0 0)),37,none⟩])
  (.seq (.block 0
   (.loop
    (.seq (.seq (.region [⟨some 4,Go.Op.move (Go.Operand.tmp 0),71,none⟩,
     ⟨some 5,Go.Op.call { callee:=Go.Callee.value (Go.Operand.func 28),args:=#[Go.Operand.tmp 4],argTypes:=#[71] },21,none⟩,
     ⟨some 6,Go.Op.binOp Go.BinOp.geq 21 (Go.Operand.tmp 5) (Go.Operand.const (Go.Value.int Go.IntKind.i32 0)) 21,4,none⟩,
     ⟨some 7,Go.Op.move (Go.Operand.tmp 6),4,none⟩,
     ⟨some 8,Go.Op.move (Go.Operand.tmp 0),71,(some (7,true))⟩,
     ⟨some 9,Go.Op.call { callee:=Go.Callee.value (Go.Operand.func 28),args:=#[Go.Operand.tmp 8],argTypes:=#[71] },21,(some (7,true))⟩,
     ⟨some 10,Go.Op.binOp Go.BinOp.neq 21 (Go.Operand.tmp 9) (Go.Operand.const (Go.Value.int Go.IntKind.i32 124)) 21,4,(some (7,true))⟩,
     ⟨some 11,Go.Op.pick (Go.Operand.tmp 7) (Go.Operand.tmp 10) (Go.Operand.const (Go.Value.bool false)),4,none⟩,
     ⟨some 12,Go.Op.move (Go.Operand.tmp 11),4,none⟩,
     ⟨some 13,Go.Op.move (Go.Operand.tmp 0),71,(some (12,true))⟩,
     ⟨some 14,Go.Op.call { callee:=Go.Callee.value (Go.Operand.func 28),args:=#[Go.Operand.tmp 13],argTypes:=#[71] },21,(some (12,true))⟩,
     ⟨some 15,Go.Op.binOp Go.BinOp.neq 21 (Go.Operand.tmp 14) (Go.Operand.const (Go.Value.int Go.IntKind.i32 41)) 21,4,(some (12,true))⟩,
     ⟨some 16,Go.Op.pick (Go.Operand.tmp 12) (Go.Operand.tmp 15) (Go.Operand.const (Go.Value.bool false)),4,none⟩])
    (.cond (Go.Operand.tmp 16)
     .skip
     (.exit 0)))
    (.block 1
     (.region [⟨some 17,Go.Op.move (Go.Operand.tmp 3),37,none⟩,
      ⟨some 18,Go.Op.move (Go.Operand.tmp 0),71,none⟩,
      ⟨some 19,Go.Op.call { callee:=Go.Callee.value (Go.Operand.func 61),args:=#[Go.Operand.tmp 18],argTypes:=#[71] },39,none⟩,
      ⟨some 20,Go.Op.buildSlice 37 1 #[(0,Go.Operand.tmp 19)],37,none⟩,
      ⟨some 21,Go.Op.call { callee:=Go.Callee.builtin Go.Builtin.append,args:=#[Go.Operand.tmp 17,Go.Operand.tmp 20],argTypes:=#[37,37] },37,none⟩,
      ⟨some 3,Go.Op.assign (Go.Operand.tmp 21),37,none⟩])))))
  (.seq (.seq (.region [⟨some 22,Go.Op.move (Go.Operand.tmp 3),37,none⟩,
   ⟨some 23,Go.Op.call { callee:=Go.Callee.builtin Go.Builtin.len,args:=#[Go.Operand.tmp 22],argTypes:=#[37] },3,none⟩])
  (.block 2
   (.seq (.region [⟨some 25,Go.Op.binOp Go.BinOp.eql 3 (Go.Operand.tmp 23) (Go.Operand.const (Go.Value.int Go.IntKind.i64 0)) 3,4,none⟩,
    ⟨some 24,Go.Op.assign (Go.Operand.tmp 25),4,none⟩])
   (.cond (Go.Operand.tmp 24)
    (.seq (.region [⟨some 26,Go.Op.build 39 #[(0,Go.Operand.const (Go.Value.int Go.IntKind.i64 1))],39,none⟩,
     ⟨none,Go.Op.store 39 (Go.Operand.tmp 2) (Go.Operand.tmp 26),0,none⟩])
    .ret)
    (.seq (.region [⟨some 28,Go.Op.binOp Go.BinOp.eql 3 (Go.Operand.tmp 23) (Go.Operand.const (Go.Value.int Go.IntKind.i64 1)) 3,4,none⟩,
     ⟨some 27,Go.Op.assign (Go.Operand.tmp 28),4,none⟩])
    (.cond (Go.Operand.tmp 27)
     (.seq (.region [⟨some 29,Go.Op.move (Go.Operand.tmp 3),37,none⟩,
      ⟨some 30,Go.Op.indexAddr 37 (Go.Operand.tmp 29) (Go.Operand.const (Go.Value.int Go.IntKind.i64 0)),0,none⟩,
      ⟨some 31,Go.Op.load 39 (Go.Operand.tmp 30),39,none⟩,
      ⟨none,Go.Op.store 39 (Go.Operand.tmp 2) (Go.Operand.tmp 31),0,none⟩])
     .ret)
     .skip))))))
  (.seq (.region [⟨some 32,Go.Op.move (Go.Operand.tmp 3),37,none⟩,
   ⟨some 33,Go.Op.build 39 #[(0,Go.Operand.const (Go.Value.int Go.IntKind.i64 3)),(2,Go.Operand.tmp 32)],39,none⟩,
   ⟨none,Go.Op.store 39 (Go.Operand.tmp 2) (Go.Operand.tmp 33),0,none⟩])
  .ret))))) :=
 ⟨foll,Tryz.f41,Tryz.func41,by kernel_rfl,by kernel_rfl,by kernel_rfl,by rw [Tryz.ntmps41];decide⟩
theorem fn42:FnIs Tryz.prog 42 2 [Go.ResultVar.tmp 4] (.seq (.region [⟨some 4,Go.Op.assign (Go.Operand.const (Go.Value.bool false)),4,none⟩])
  (.seq (.seq (.region [⟨some 5,Go.Op.move (Go.Operand.tmp 0),71,none⟩,
   ⟨some 6,Go.Op.call { callee:=Go.Callee.value (Go.Operand.func 28),args:=#[Go.Operand.tmp 5],argTypes:=#[71] },21,none⟩,
   ⟨some 7,Go.Op.move (Go.Operand.tmp 1),21,none⟩,
   ⟨some 8,Go.Op.binOp Go.BinOp.neq 21 (Go.Operand.tmp 6) (Go.Operand.tmp 7) 21,4,none⟩])
  (.cond (Go.Operand.tmp 8)
   (.seq (.region [⟨some 4,Go.Op.assign (Go.Operand.const (Go.Value.bool false)),4,none⟩])
   .ret)
   .skip))
  (.seq (.region [⟨some 9,Go.Op.move (Go.Operand.tmp 0),71,none⟩,
   ⟨some 10,Go.Op.nilCheck (Go.Operand.tmp 9),0,none⟩,
   ⟨some 11,Go.Op.fieldAddr 74 (Go.Operand.tmp 10) 1,0,none⟩,
   ⟨some 12,Go.Op.load 3 (Go.Operand.tmp 11),3,none⟩,
   ⟨some 13,Go.Op.binOp Go.BinOp.add 3 (Go.Operand.tmp 12) (Go.Operand.const (Go.Value.int Go.IntKind.i64 1)) 3,3,none⟩,
   ⟨some 14,Go.Op.nilCheck (Go.Operand.tmp 9),0,none⟩,
   ⟨some 15,Go.Op.fieldAddr 74 (Go.Operand.tmp 14) 1,0,none⟩,
   ⟨none,Go.Op.store 3 (Go.Operand.tmp 15) (Go.Operand.tmp 13),0,none⟩])
  (.seq (.region [⟨some 4,Go.Op.assign (Go.Operand.const (Go.Value.bool true)),4,none⟩])
  .ret)))) :=
 ⟨foll,Tryz.f42,Tryz.func42,by kernel_rfl,by kernel_rfl,by kernel_rfl,by rw [Tryz.ntmps42];decide⟩
theorem fn61:FnIs Tryz.prog 61 1 [Go.ResultVar.cell 2 39] (.seq (.region [⟨some 2,Go.Op.alloc 39,0,none⟩])
  (.seq (.region [⟨some 4,Go.Op.move (Go.Operand.tmp 0),71,none⟩,
   ⟨some 5,Go.Op.call { callee:=Go.Callee.value (Go.Operand.func 82),args:=#[Go.Operand.tmp 4],argTypes:=#[71] },39,none⟩,
   ⟨some 6,Go.Op.buildSlice 37 1 #[(0,Go.Operand.tmp 5)],37,none⟩,
   ⟨some 7,Go.Op.build 39 #[(0,Go.Operand.const (Go.Value.int Go.IntKind.i64 5)),(2,Go.Operand.tmp 6),(4,Go.Operand.const (Go.Value.int Go.IntKind.i64 (-1)))],39,none⟩,
   ⟨some 3,Go.Op.alloc 39,0,none⟩,
   ⟨none,Go.Op.store 39 (Go.Operand.tmp 3) (Go.Operand.tmp 7),0,none⟩])
  (.seq (.block 0
   (.seq (.region [⟨some 13,Go.Op.move (Go.Operand.tmp 0),71,none⟩,
    ⟨some 14,Go.Op.call { callee:=Go.Callee.value (Go.Operand.func 42),args:=#[Go.Operand.tmp 13,Go.Operand.const (Go.Value.int Go.IntKind.i32 42)],argTypes:=#[71,21] },4,none⟩,
    ⟨some 12,Go.Op.assign (Go.Operand.tmp 14),4,none⟩])
   (.cond (Go.Operand.tmp 12)
    .skip
    (.seq (.region [⟨some 16,Go.Op.move (Go.Operand.tmp 0),71,none⟩,
     ⟨some 17,Go.Op.call { callee:=Go.Callee.value (Go.Operand.func 42),args:=#[Go.Operand.tmp 16,Go.Operand.const (Go.Value.int Go.IntKind.i32 43)],argTypes:=#[71,21] },4,none⟩,
     ⟨some 15,Go.Op.assign (Go.Operand.tmp 17),4,none⟩])
    (.cond (Go.Operand.tmp 15)
     (.region [⟨some 18,Go.Op.fieldAddr 39 (Go.Operand.tmp 3) 3,0,none⟩,
      ⟨none,Go.Op.store 3 (Go.Operand.tmp 18) (Go.Operand.const (Go.Value.int Go.IntKind.i64 1)),0,none⟩])
     (.seq (.region [⟨some 20,Go.Op.move (Go.Operand.tmp 0),71,none⟩,
      ⟨some 21,Go.Op.call { callee:=Go.Callee.value (Go.Operand.func 42),args:=#[Go.Operand.tmp 20,Go.Operand.const (Go.Value.int Go.IntKind.i32 63)],argTypes:=#[71,21] },4,none⟩,
      ⟨some 19,Go.Op.assign (Go.Operand.tmp 21),4,none⟩])
     (.cond (Go.Operand.tmp 19)
      (.region [⟨some 22,Go.Op.fieldAddr 39 (Go.Operand.tmp 3) 4,0,none⟩,
       ⟨none,Go.Op.store 3 (Go.Operand.tmp 22) (Go.Operand.const (Go.Value.int Go.IntKind.i64 1)),0,none⟩])
      (.seq (.region [⟨some 24,Go.Op.move (Go.Operand.tmp 0),71,none⟩,
       ⟨some 25,Go.Op.call { callee:=Go.Callee.value (Go.Operand.func 42),args:=#[Go.Operand.tmp 24,Go.Operand.const (Go.Value.int Go.IntKind.i32 123)],argTypes:=#[71,21] },4,none⟩,
       ⟨some 23,Go.Op.assign (Go.Operand.tmp 25),4,none⟩])
      (.cond (Go.Operand.tmp 23)
       (.seq (.region [⟨some 26,Go.Op.move (Go.Operand.tmp 0),71,none⟩,
        ⟨some 27,Go.Op.call { callee:=Go.Callee.value (Go.Operand.func 83),args:=#[Go.Operand.tmp 26],argTypes:=#[71] },3,none⟩,
        ⟨some 28,Go.Op.fieldAddr 39 (Go.Operand.tmp 3) 3,0,none⟩,
        ⟨none,Go.Op.store 3 (Go.Operand.tmp 28) (Go.Operand.tmp 27),0,none⟩])
       (.seq (.region [⟨some 29,Go.Op.fieldAddr 39 (Go.Operand.tmp 3) 3,0,none⟩,
        ⟨some 30,Go.Op.load 3 (Go.Operand.tmp 29),3,none⟩,
        ⟨some 31,Go.Op.fieldAddr 39 (Go.Operand.tmp 3) 4,0,none⟩,
        ⟨none,Go.Op.store 3 (Go.Operand.tmp 31) (Go.Operand.tmp 30),0,none⟩])
       (.seq (.seq (.region [⟨some 32,Go.Op.move (Go.Operand.tmp 0),71,none⟩,
        ⟨some 33,Go.Op.call { callee:=Go.Callee.value (Go.Operand.func 42),args:=#[Go.Operand.tmp 32,Go.Operand.const (Go.Value.int Go.IntKind.i32 44)],argTypes:=#[71,21] },4,none⟩])
       (.cond (Go.Operand.tmp 33)
        (.seq (.region [⟨some 34,Go.Op.fieldAddr 39 (Go.Operand.tmp 3) 4,0,none⟩,
         ⟨none,Go.Op.store 3 (Go.Operand.tmp 34) (Go.Operand.const (Go.Value.int Go.IntKind.i64 (-1))),0,none⟩])
        (.seq (.region [⟨some 35,Go.Op.move (Go.Operand.tmp 0),71,none⟩,
         ⟨some 36,Go.Op.call { callee:=Go.Callee.value (Go.Operand.func 28),args:=#[Go.Operand.tmp 35],argTypes:=#[71] },21,none⟩,
         ⟨some 37,Go.Op.binOp Go.BinOp.neq 21 (Go.Operand.tmp 36) (Go.Operand.const (Go.Value.int Go.IntKind.i32 125)) 21,4,none⟩])
        (.cond (Go.Operand.tmp 37)
         (.region [⟨some 38,Go.Op.move (Go.Operand.tmp 0),71,none⟩,
          ⟨some 39,Go.Op.call { callee:=Go.Callee.value (Go.Operand.func 83),args:=#[Go.Operand.tmp 38],argTypes:=#[71] },3,none⟩,
          ⟨some 40,Go.Op.fieldAddr 39 (Go.Operand.tmp 3) 4,0,none⟩,
          ⟨none,Go.Op.store 3 (Go.Operand.tmp 40) (Go.Operand.tmp 39),0,none⟩])
         .skip)))
        .skip))
       (.seq (.region [⟨some 41,Go.Op.move (Go.Operand.tmp 0),71,none⟩,
        ⟨some 42,Go.Op.call { callee:=Go.Callee.value (Go.Operand.func 84),args:=#[Go.Operand.tmp 41,Go.Operand.const (Go.Value.int Go.IntKind.i32 125)],argTypes:=#[71,21] },0,none⟩])
       (.seq (.region [⟨some 43,Go.Op.fieldAddr 39 (Go.Operand.tmp 3) 4,0,none⟩,
        ⟨some 44,Go.Op.load 3 (Go.Operand.tmp 43),3,none⟩,
        ⟨some 45,Go.Op.binOp Go.BinOp.geq 3 (Go.Operand.tmp 44) (Go.Operand.const (Go.Value.int Go.IntKind.i64 0)) 3,4,none⟩,
        ⟨some 46,Go.Op.move (Go.Operand.tmp 45),4,none⟩,
        ⟨some 47,Go.Op.fieldAddr 39 (Go.Operand.tmp 3) 4,0,(some (46,true))⟩,
        ⟨some 48,Go.Op.load 3 (Go.Operand.tmp 47),3,(some (46,true))⟩,
        ⟨some 49,Go.Op.fieldAddr 39 (Go.Operand.tmp 3) 3,0,(some (46,true))⟩,
        ⟨some 50,Go.Op.load 3 (Go.Operand.tmp 49),3,(some (46,true))⟩,
        ⟨some 51,Go.Op.binOp Go.BinOp.lss 3 (Go.Operand.tmp 48) (Go.Operand.tmp 50) 3,4,(some (46,true))⟩,
        ⟨some 52,Go.Op.pick (Go.Operand.tmp 46) (Go.Operand.tmp 51) (Go.Operand.const (Go.Value.bool false)),4,none⟩])
       (.cond (Go.Operand.tmp 52)
        (.region [⟨some 53,Go.Op.build 69 #[],69,none⟩,
         ⟨some 54,Go.Op.makeInterface 69 (Go.Operand.tmp 53),20,none⟩,
         ⟨none,Go.Op.panic (Go.Operand.tmp 54),0,none⟩])
        .skip))))))
       (.seq (.region [⟨some 8,Go.Op.fieldAddr 39 (Go.Operand.tmp 3) 2,0,none⟩,
        ⟨some 9,Go.Op.load 37 (Go.Operand.tmp 8),37,none⟩,
        ⟨some 10,Go.Op.indexAddr 37 (Go.Operand.tmp 9) (Go.Operand.const (Go.Value.int Go.IntKind.i64 0)),0,none⟩,
        ⟨some 11,Go.Op.load 39 (Go.Operand.tmp 10),39,none⟩,
        ⟨none,Go.Op.store 39 (Go.Operand.tmp 2) (Go.Operand.tmp 11),0,none⟩])
       .ret))))))))))
  (.seq (.region [⟨some 55,Go.Op.load 39 (Go.Operand.tmp 3),39,none⟩,
   ⟨none,Go.Op.store 39 (Go.Operand.tmp 2) (Go.Operand.tmp 55),0,none⟩])
  .ret)))) :=
 ⟨foll,Tryz.f61,Tryz.func61,by kernel_rfl,by kernel_rfl,by kernel_rfl,by rw [Tryz.ntmps61];decide⟩
theorem fn82:FnIs Tryz.prog 82 1 [Go.ResultVar.cell 2 39] (.seq (.region [⟨some 2,Go.Op.alloc 39,0,none⟩])
  (.seq (.region [⟨some 5,Go.Op.move (Go.Operand.tmp 0),71,none⟩,
   ⟨some 6,Go.Op.call { callee:=Go.Callee.value (Go.Operand.func 94),args:=#[Go.Operand.tmp 5],argTypes:=#[71] },21,none⟩,
   ⟨some 3,Go.Op.assign (Go.Operand.tmp 6),21,none⟩])
  (.seq (.block 0
   (.seq (.region [⟨some 8,Go.Op.move (Go.Operand.tmp 3),21,none⟩,
    ⟨some 9,Go.Op.binOp Go.BinOp.eql 21 (Go.Operand.tmp 8) (Go.Operand.const (Go.Value.int Go.IntKind.i32 40)) 21,4,none⟩,
    ⟨some 7,Go.Op.assign (Go.Operand.tmp 9),4,none⟩])
   (.cond (Go.Operand.tmp 7)
    (.seq (.region [⟨some 10,Go.Op.move (Go.Operand.tmp 0),71,none⟩,
     ⟨some 11,Go.Op.call { callee:=Go.Callee.value (Go.Operand.func 27),args:=#[Go.Operand.tmp 10],argTypes:=#[71] },39,none⟩,
     ⟨some 4,Go.Op.alloc 39,0,none⟩,
     ⟨none,Go.Op.store 39 (Go.Operand.tmp 4) (Go.Operand.tmp 11),0,none⟩])
    (.seq (.region [⟨some 12,Go.Op.move (Go.Operand.tmp 0),71,none⟩,
     ⟨some 13,Go.Op.call { callee:=Go.Callee.value (Go.Operand.func 84),args:=#[Go.Operand.tmp 12,Go.Operand.const (Go.Value.int Go.IntKind.i32 41)],argTypes:=#[71,21] },0,none⟩])
    (.seq (.region [⟨some 14,Go.Op.load 39 (Go.Operand.tmp 4),39,none⟩,
     ⟨none,Go.Op.store 39 (Go.Operand.tmp 2) (Go.Operand.tmp 14),0,none⟩])
    .ret)))
    (.seq (.region [⟨some 16,Go.Op.move (Go.Operand.tmp 3),21,none⟩,
     ⟨some 17,Go.Op.binOp Go.BinOp.eql 21 (Go.Operand.tmp 16) (Go.Operand.const (Go.Value.int Go.IntKind.i32 46)) 21,4,none⟩,
     ⟨some 15,Go.Op.assign (Go.Operand.tmp 17),4,none⟩])
    (.cond (Go.Operand.tmp 15)
     (.seq (.region [⟨some 18,Go.Op.call { callee:=Go.Callee.value (Go.Operand.func 95),args:=#[],argTypes:=#[] },36,none⟩,
      ⟨some 19,Go.Op.build 39 #[(0,Go.Operand.const (Go.Value.int Go.IntKind.i64 2)),(1,Go.Operand.tmp 18)],39,none⟩,
      ⟨none,Go.Op.store 39 (Go.Operand.tmp 2) (Go.Operand.tmp 19),0,none⟩])
     .ret)
     (.seq (.region [⟨some 21,Go.Op.move (Go.Operand.tmp 3),21,none⟩,
      ⟨some 22,Go.Op.binOp Go.BinOp.eql 21 (Go.Operand.tmp 21) (Go.Operand.const (Go.Value.int Go.IntKind.i32 91)) 21,4,none⟩,
      ⟨some 20,Go.Op.assign (Go.Operand.tmp 22),4,none⟩])
     (.cond (Go.Operand.tmp 20)
      (.seq (.region [⟨some 23,Go.Op.move (Go.Operand.tmp 0),71,none⟩,
       ⟨some 24,Go.Op.call { callee:=Go.Callee.value (Go.Operand.func 96),args:=#[Go.Operand.tmp 23],argTypes:=#[71] },36,none⟩,
       ⟨some 25,Go.Op.build 39 #[(0,Go.Operand.const (Go.Value.int Go.IntKind.i64 2)),(1,Go.Operand.tmp 24)],39,none⟩,
       ⟨none,Go.Op.store 39 (Go.Operand.tmp 2) (Go.Operand.tmp 25),0,none⟩])
      .ret)
      (.seq (.region [⟨some 27,Go.Op.move (Go.Operand.tmp 3),21,none⟩,
       ⟨some 28,Go.Op.binOp Go.BinOp.eql 21 (Go.Operand.tmp 27) (Go.Operand.const (Go.Value.int Go.IntKind.i32 92)) 21,4,none⟩,
       ⟨some 26,Go.Op.assign (Go.Operand.tmp 28),4,none⟩])
      (.cond (Go.Operand.tmp 26)
       (.region [⟨some 29,Go.Op.move (Go.Operand.tmp 0),71,none⟩,
        ⟨some 30,Go.Op.call { callee:=Go.Callee.value (Go.Operand.func 94),args:=#[Go.Operand.tmp 29],argTypes:=#[71] },21,none⟩,
        ⟨some 3,Go.Op.assign (Go.Operand.tmp 30),21,none⟩])
       (.seq (.region [⟨some 32,Go.Op.move (Go.Operand.tmp 3),21,none⟩,
        ⟨some 33,Go.Op.convert 21 9 (Go.Operand.tmp 32),9,none⟩,
        ⟨some 34,Go.Op.call { callee:=Go.Callee.value (Go.Operand.func 97),args:=#[Go.Operand.const (Go.Value.string { data:=#[92,40,41,91,93,123,125,124,42,43,63,46] }),Go.Operand.tmp 33],argTypes:=#[9,9] },4,none⟩,
        ⟨some 31,Go.Op.assign (Go.Operand.tmp 34),4,none⟩])
       (.cond (Go.Operand.tmp 31)
        (.region [⟨some 35,Go.Op.build 69 #[],69,none⟩,
         ⟨some 36,Go.Op.makeInterface 69 (Go.Operand.tmp 35),20,none⟩,
         ⟨none,Go.Op.panic (Go.Operand.tmp 36),0,none⟩])
        .skip)))))))))))
  (.seq (.region [⟨some 37,Go.Op.move (Go.Operand.tmp 3),21,none⟩,
   ⟨some 38,Go.Op.move (Go.Operand.tmp 3),21,none⟩,
   ⟨some 39,Go.Op.build 98 #[(0,Go.Operand.tmp 37),(1,Go.Operand.tmp 38)],98,none⟩,
   ⟨some 40,Go.Op.buildSlice 36 1 #[(0,Go.Operand.tmp 39)],36,none⟩,
   ⟨some 41,Go.Op.build 39 #[(0,Go.Operand.const (Go.Value.int Go.IntKind.i64 2)),(1,Go.Operand.tmp 40)],39,none⟩,
   ⟨none,Go.Op.store 39 (Go.Operand.tmp 2) (Go.Operand.tmp 41),0,none⟩])
  .ret)))) :=
 ⟨foll,Tryz.f82,Tryz.func82,by kernel_rfl,by kernel_rfl,by kernel_rfl,by rw [Tryz.ntmps82];decide⟩
theorem fn83:FnIs Tryz.prog 83 1 [Go.ResultVar.tmp 2] (.seq (.region [⟨some 2,Go.Op.assign (Go.Operand.const (Go.Value.int Go.IntKind.i64 0)),3,none⟩])
  (.seq (.region [⟨some 5,Go.Op.move (Go.Operand.tmp 0),71,none⟩,
   ⟨some 6,Go.Op.nilCheck (Go.Operand.tmp 5),0,none⟩,
   ⟨some 7,Go.Op.fieldAddr 74 (Go.Operand.tmp 6) 1,0,none⟩,
   ⟨some 8,Go.Op.load 3 (Go.Operand.tmp 7),3,none⟩,
   ⟨some 3,Go.Op.assign (Go.Operand.tmp 8),3,none⟩,
   ⟨some 4,Go.Op.assign (Go.Operand.const (Go.Value.int Go.IntKind.i64 0)),3,none⟩])
  (.seq (.block 0
   (.loop
    (.seq (.seq (.region [⟨some 9,Go.Op.move (Go.Operand.tmp 0),71,none⟩,
     ⟨some 10,Go.Op.call { callee:=Go.Callee.value (Go.Operand.func 28),args:=#[Go.Operand.tmp 9],argTypes:=#[71] },21,none⟩,
     ⟨some 11,Go.Op.binOp Go.BinOp.geq 21 (Go.Operand.tmp 10) (Go.Operand.const (Go.Value.int Go.IntKind.i32 48)) 21,4,none⟩,
     ⟨some 12,Go.Op.move (Go.Operand.tmp 11),4,none⟩,
     ⟨some 13,Go.Op.move (Go.Operand.tmp 0),71,(some (12,true))⟩,
     ⟨some 14,Go.Op.call { callee:=Go.Callee.value (Go.Operand.func 28),args:=#[Go.Operand.tmp 13],argTypes:=#[71] },21,(some (12,true))⟩,
     ⟨some 15,Go.Op.binOp Go.BinOp.leq 21 (Go.Operand.tmp 14) (Go.Operand.const (Go.Value.int Go.IntKind.i32 57)) 21,4,(some (12,true))⟩,
     ⟨some 16,Go.Op.pick (Go.Operand.tmp 12) (Go.Operand.tmp 15) (Go.Operand.const (Go.Value.bool false)),4,none⟩])
    (.cond (Go.Operand.tmp 16)
     .skip
     (.exit 0)))
    (.block 1
     (.region [⟨some 17,Go.Op.move (Go.Operand.tmp 4),3,none⟩,
      ⟨some 18,Go.Op.binOp Go.BinOp.mul 3 (Go.Operand.const (Go.Value.int Go.IntKind.i64 10)) (Go.Operand.tmp 17) 3,3,none⟩,
      ⟨some 19,Go.Op.move (Go.Operand.tmp 0),71,none⟩,
      ⟨some 20,Go.Op.call { callee:=Go.Callee.value (Go.Operand.func 94),args:=#[Go.Operand.tmp 19],argTypes:=#[71] },21,none⟩,
      ⟨some 21,Go.Op.binOp Go.BinOp.sub 21 (Go.Operand.tmp 20) (Go.Operand.const (Go.Value.int Go.IntKind.i32 48)) 21,21,none⟩,
      ⟨some 22,Go.Op.convert 21 3 (Go.Operand.tmp 21),3,none⟩,
      ⟨some 23,Go.Op.binOp Go.BinOp.add 3 (Go.Operand.tmp 18) (Go.Operand.tmp 22) 3,3,none⟩,
      ⟨some 24,Go.Op.call { callee:=Go.Callee.builtin Go.Builtin.min,args:=#[Go.Operand.tmp 23,Go.Operand.const (Go.Value.int Go.IntKind.i64 1000)],argTypes:=#[3,3] },3,none⟩,
      ⟨some 4,Go.Op.assign (Go.Operand.tmp 24),3,none⟩])))))
  (.seq (.seq (.region [⟨some 25,Go.Op.move (Go.Operand.tmp 0),71,none⟩,
   ⟨some 26,Go.Op.nilCheck (Go.Operand.tmp 25),0,none⟩,
   ⟨some 27,Go.Op.fieldAddr 74 (Go.Operand.tmp 26) 1,0,none⟩,
   ⟨some 28,Go.Op.load 3 (Go.Operand.tmp 27),3,none⟩,
   ⟨some 29,Go.Op.move (Go.Operand.tmp 3),3,none⟩,
   ⟨some 30,Go.Op.binOp Go.BinOp.eql 3 (Go.Operand.tmp 28) (Go.Operand.tmp 29) 3,4,none⟩,
   ⟨some 31,Go.Op.move (Go.Operand.tmp 30),4,none⟩,
   ⟨some 32,Go.Op.move (Go.Operand.tmp 0),71,(some (31,false))⟩,
   ⟨some 33,Go.Op.nilCheck (Go.Operand.tmp 32),0,(some (31,false))⟩,
   ⟨some 34,Go.Op.fieldAddr 74 (Go.Operand.tmp 33) 0,0,(some (31,false))⟩,
   ⟨some 35,Go.Op.load 72 (Go.Operand.tmp 34),72,(some (31,false))⟩,
   ⟨some 36,Go.Op.move (Go.Operand.tmp 3),3,(some (31,false))⟩,
   ⟨some 37,Go.Op.indexAddr 72 (Go.Operand.tmp 35) (Go.Operand.tmp 36),0,(some (31,false))⟩,
   ⟨some 38,Go.Op.load 21 (Go.Operand.tmp 37),21,(some (31,false))⟩,
   ⟨some 39,Go.Op.binOp Go.BinOp.eql 21 (Go.Operand.tmp 38) (Go.Operand.const (Go.Value.int Go.IntKind.i32 48)) 21,4,(some (31,false))⟩,
   ⟨some 40,Go.Op.move (Go.Operand.tmp 39),4,(some (31,false))⟩,
   ⟨some 41,Go.Op.move (Go.Operand.tmp 0),71,(some (40,true))⟩,
   ⟨some 42,Go.Op.nilCheck (Go.Operand.tmp 41),0,(some (40,true))⟩,
   ⟨some 43,Go.Op.fieldAddr 74 (Go.Operand.tmp 42) 1,0,(some (40,true))⟩,
   ⟨some 44,Go.Op.load 3 (Go.Operand.tmp 43),3,(some (40,true))⟩,
   ⟨some 45,Go.Op.move (Go.Operand.tmp 3),3,(some (40,true))⟩,
   ⟨some 46,Go.Op.binOp Go.BinOp.add 3 (Go.Operand.tmp 45) (Go.Operand.const (Go.Value.int Go.IntKind.i64 1)) 3,3,(some (40,true))⟩,
   ⟨some 47,Go.Op.binOp Go.BinOp.gtr 3 (Go.Operand.tmp 44) (Go.Operand.tmp 46) 3,4,(some (40,true))⟩,
   ⟨some 48,Go.Op.pick (Go.Operand.tmp 40) (Go.Operand.tmp 47) (Go.Operand.const (Go.Value.bool false)),4,(some (31,false))⟩,
   ⟨some 49,Go.Op.pick (Go.Operand.tmp 31) (Go.Operand.const (Go.Value.bool true)) (Go.Operand.tmp 48),4,none⟩,
   ⟨some 50,Go.Op.move (Go.Operand.tmp 49),4,none⟩,
   ⟨some 51,Go.Op.move (Go.Operand.tmp 4),3,(some (50,false))⟩,
   ⟨some 52,Go.Op.binOp Go.BinOp.gtr 3 (Go.Operand.tmp 51) (Go.Operand.const (Go.Value.int Go.IntKind.i64 20)) 3,4,(some (50,false))⟩,
   ⟨some 53,Go.Op.pick (Go.Operand.tmp 50) (Go.Operand.const (Go.Value.bool true)) (Go.Operand.tmp 52),4,none⟩])
  (.cond (Go.Operand.tmp 53)
   (.region [⟨some 54,Go.Op.build 69 #[],69,none⟩,
    ⟨some 55,Go.Op.makeInterface 69 (Go.Operand.tmp 54),20,none⟩,
    ⟨none,Go.Op.panic (Go.Operand.tmp 55),0,none⟩])
   .skip))
  (.seq (.region [⟨some 56,Go.Op.move (Go.Operand.tmp 4),3,none⟩,
   ⟨some 2,Go.Op.assign (Go.Operand.tmp 56),3,none⟩])
  .ret))))) :=
 ⟨foll,Tryz.f83,Tryz.func83,by kernel_rfl,by kernel_rfl,by kernel_rfl,by rw [Tryz.ntmps83];decide⟩
theorem fn84:FnIs Tryz.prog 84 2 [] (.seq (.region [⟨some 4,Go.Op.move (Go.Operand.tmp 0),71,none⟩,
   ⟨some 5,Go.Op.move (Go.Operand.tmp 1),21,none⟩,
   ⟨some 6,Go.Op.call { callee:=Go.Callee.value (Go.Operand.func 42),args:=#[Go.Operand.tmp 4,Go.Operand.tmp 5],argTypes:=#[71,21] },4,none⟩,
   ⟨some 7,Go.Op.unOp Go.UnOp.not 4 (Go.Operand.tmp 6),4,none⟩])
  (.cond (Go.Operand.tmp 7)
   (.region [⟨some 8,Go.Op.build 69 #[],69,none⟩,
    ⟨some 9,Go.Op.makeInterface 69 (Go.Operand.tmp 8),20,none⟩,
    ⟨none,Go.Op.panic (Go.Operand.tmp 9),0,none⟩])
   .skip)) :=
 ⟨foll,Tryz.f84,Tryz.func84,by kernel_rfl,by kernel_rfl,by kernel_rfl,by rw [Tryz.ntmps84];decide⟩
theorem fn94:FnIs Tryz.prog 94 1 [Go.ResultVar.tmp 2] (.seq (.region [⟨some 2,Go.Op.assign (Go.Operand.const (Go.Value.int Go.IntKind.i32 0)),21,none⟩])
  (.seq (.region [⟨some 4,Go.Op.move (Go.Operand.tmp 0),71,none⟩,
   ⟨some 5,Go.Op.call { callee:=Go.Callee.value (Go.Operand.func 28),args:=#[Go.Operand.tmp 4],argTypes:=#[71] },21,none⟩,
   ⟨some 3,Go.Op.assign (Go.Operand.tmp 5),21,none⟩])
  (.seq (.seq (.region [⟨some 6,Go.Op.move (Go.Operand.tmp 3),21,none⟩,
   ⟨some 7,Go.Op.binOp Go.BinOp.lss 21 (Go.Operand.tmp 6) (Go.Operand.const (Go.Value.int Go.IntKind.i32 0)) 21,4,none⟩])
  (.cond (Go.Operand.tmp 7)
   (.region [⟨some 8,Go.Op.build 69 #[],69,none⟩,
    ⟨some 9,Go.Op.makeInterface 69 (Go.Operand.tmp 8),20,none⟩,
    ⟨none,Go.Op.panic (Go.Operand.tmp 9),0,none⟩])
   .skip))
  (.seq (.region [⟨some 10,Go.Op.move (Go.Operand.tmp 0),71,none⟩,
   ⟨some 11,Go.Op.nilCheck (Go.Operand.tmp 10),0,none⟩,
   ⟨some 12,Go.Op.fieldAddr 74 (Go.Operand.tmp 11) 1,0,none⟩,
   ⟨some 13,Go.Op.load 3 (Go.Operand.tmp 12),3,none⟩,
   ⟨some 14,Go.Op.binOp Go.BinOp.add 3 (Go.Operand.tmp 13) (Go.Operand.const (Go.Value.int Go.IntKind.i64 1)) 3,3,none⟩,
   ⟨some 15,Go.Op.nilCheck (Go.Operand.tmp 10),0,none⟩,
   ⟨some 16,Go.Op.fieldAddr 74 (Go.Operand.tmp 15) 1,0,none⟩,
   ⟨none,Go.Op.store 3 (Go.Operand.tmp 16) (Go.Operand.tmp 14),0,none⟩])
  (.seq (.region [⟨some 17,Go.Op.move (Go.Operand.tmp 3),21,none⟩,
   ⟨some 2,Go.Op.assign (Go.Operand.tmp 17),21,none⟩])
  .ret))))) :=
 ⟨foll,Tryz.f94,Tryz.func94,by kernel_rfl,by kernel_rfl,by kernel_rfl,by rw [Tryz.ntmps94];decide⟩
theorem fn95:FnIs Tryz.prog 95 0 [Go.ResultVar.tmp 0] (.seq (.region [⟨some 0,Go.Op.assign (Go.Operand.const (Go.Value.slice none 0 0)),36,none⟩])
  (.seq (.region [⟨some 1,Go.Op.build 98 #[(0,Go.Operand.const (Go.Value.int Go.IntKind.i32 0)),(1,Go.Operand.const (Go.Value.int Go.IntKind.i32 55295))],98,none⟩,
   ⟨some 2,Go.Op.build 98 #[(0,Go.Operand.const (Go.Value.int Go.IntKind.i32 57344)),(1,Go.Operand.const (Go.Value.int Go.IntKind.i32 1114111))],98,none⟩,
   ⟨some 3,Go.Op.buildSlice 36 2 #[(0,Go.Operand.tmp 1),(1,Go.Operand.tmp 2)],36,none⟩,
   ⟨some 0,Go.Op.assign (Go.Operand.tmp 3),36,none⟩])
  .ret)) :=
 ⟨foll,Tryz.f95,Tryz.func95,by kernel_rfl,by kernel_rfl,by kernel_rfl,by rw [Tryz.ntmps95];decide⟩
theorem fn96:FnIs Tryz.prog 96 1 [Go.ResultVar.tmp 2] (.seq (.region [⟨some 2,Go.Op.assign (Go.Operand.const (Go.Value.slice none 0 0)),36,none⟩])
  (.seq (.region [⟨some 7,Go.Op.move (Go.Operand.tmp 0),71,none⟩,
   ⟨some 8,Go.Op.call { callee:=Go.Callee.value (Go.Operand.func 42),args:=#[Go.Operand.tmp 7,Go.Operand.const (Go.Value.int Go.IntKind.i32 94)],argTypes:=#[71,21] },4,none⟩,
   ⟨some 3,Go.Op.assign (Go.Operand.tmp 8),4,none⟩])
  (.seq (.region [⟨some 4,Go.Op.assign (Go.Operand.const (Go.Value.slice none 0 0)),36,none⟩])
  (.seq (.block 0
   (.loop
    (.seq (.seq (.region [⟨some 9,Go.Op.move (Go.Operand.tmp 4),36,none⟩,
     ⟨some 10,Go.Op.call { callee:=Go.Callee.builtin Go.Builtin.len,args:=#[Go.Operand.tmp 9],argTypes:=#[36] },3,none⟩,
     ⟨some 11,Go.Op.binOp Go.BinOp.eql 3 (Go.Operand.tmp 10) (Go.Operand.const (Go.Value.int Go.IntKind.i64 0)) 3,4,none⟩,
     ⟨some 12,Go.Op.move (Go.Operand.tmp 11),4,none⟩,
     ⟨some 13,Go.Op.move (Go.Operand.tmp 0),71,(some (12,false))⟩,
     ⟨some 14,Go.Op.call { callee:=Go.Callee.value (Go.Operand.func 42),args:=#[Go.Operand.tmp 13,Go.Operand.const (Go.Value.int Go.IntKind.i32 93)],argTypes:=#[71,21] },4,(some (12,false))⟩,
     ⟨some 15,Go.Op.unOp Go.UnOp.not 4 (Go.Operand.tmp 14),4,(some (12,false))⟩,
     ⟨some 16,Go.Op.pick (Go.Operand.tmp 12) (Go.Operand.const (Go.Value.bool true)) (Go.Operand.tmp 15),4,none⟩])
    (.cond (Go.Operand.tmp 16)
     .skip
     (.exit 0)))
    (.block 1
     (.seq (.region [⟨some 17,Go.Op.move (Go.Operand.tmp 0),71,none⟩,
      ⟨some 18,Go.Op.call { callee:=Go.Callee.value (Go.Operand.func 99),args:=#[Go.Operand.tmp 17],argTypes:=#[71] },21,none⟩,
      ⟨some 5,Go.Op.assign (Go.Operand.tmp 18),21,none⟩])
     (.seq (.region [⟨some 19,Go.Op.move (Go.Operand.tmp 5),21,none⟩,
      ⟨some 6,Go.Op.assign (Go.Operand.tmp 19),21,none⟩])
     (.seq (.seq (.region [⟨some 20,Go.Op.move (Go.Operand.tmp 0),71,none⟩,
      ⟨some 21,Go.Op.call { callee:=Go.Callee.value (Go.Operand.func 42),args:=#[Go.Operand.tmp 20,Go.Operand.const (Go.Value.int Go.IntKind.i32 45)],argTypes:=#[71,21] },4,none⟩])
     (.cond (Go.Operand.tmp 21)
      (.region [⟨some 22,Go.Op.move (Go.Operand.tmp 0),71,none⟩,
       ⟨some 23,Go.Op.call { callee:=Go.Callee.value (Go.Operand.func 99),args:=#[Go.Operand.tmp 22],argTypes:=#[71] },21,none⟩,
       ⟨some 6,Go.Op.assign (Go.Operand.tmp 23),21,none⟩])
      .skip))
     (.seq (.seq (.region [⟨some 24,Go.Op.move (Go.Operand.tmp 6),21,none⟩,
      ⟨some 25,Go.Op.move (Go.Operand.tmp 5),21,none⟩,
      ⟨some 26,Go.Op.binOp Go.BinOp.lss 21 (Go.Operand.tmp 24) (Go.Operand.tmp 25) 21,4,none⟩])
     (.cond (Go.Operand.tmp 26)
      (.region [⟨some 27,Go.Op.build 69 #[],69,none⟩,
       ⟨some 28,Go.Op.makeInterface 69 (Go.Operand.tmp 27),20,none⟩,
       ⟨none,Go.Op.panic (Go.Operand.tmp 28),0,none⟩])
      .skip))
     (.region [⟨some 29,Go.Op.move (Go.Operand.tmp 4),36,none⟩,
      ⟨some 30,Go.Op.move (Go.Operand.tmp 5),21,none⟩,
      ⟨some 31,Go.Op.move (Go.Operand.tmp 6),21,none⟩,
      ⟨some 32,Go.Op.call { callee:=Go.Callee.value (Go.Operand.func 100),args:=#[Go.Operand.tmp 30,Go.Operand.tmp 31],argTypes:=#[21,21] },36,none⟩,
      ⟨some 33,Go.Op.call { callee:=Go.Callee.builtin Go.Builtin.append,args:=#[Go.Operand.tmp 29,Go.Operand.tmp 32],argTypes:=#[36,36] },36,none⟩,
      ⟨some 4,Go.Op.assign (Go.Operand.tmp 33),36,none⟩])))))))))
  (.seq (.region [⟨some 34,Go.Op.move (Go.Operand.tmp 4),36,none⟩,
   ⟨some 35,Go.Op.call { callee:=Go.Callee.value (Go.Operand.func 101),args:=#[Go.Operand.tmp 34],argTypes:=#[36] },36,none⟩,
   ⟨some 4,Go.Op.assign (Go.Operand.tmp 35),36,none⟩])
  (.seq (.seq (.region [⟨some 36,Go.Op.move (Go.Operand.tmp 3),4,none⟩])
  (.cond (Go.Operand.tmp 36)
   (.region [⟨some 37,Go.Op.move (Go.Operand.tmp 4),36,none⟩,
    ⟨some 38,Go.Op.call { callee:=Go.Callee.value (Go.Operand.func 102),args:=#[Go.Operand.tmp 37],argTypes:=#[36] },36,none⟩,
    ⟨some 4,Go.Op.assign (Go.Operand.tmp 38),36,none⟩])
   .skip))
  (.seq (.region [⟨some 39,Go.Op.move (Go.Operand.tmp 4),36,none⟩,
   ⟨some 2,Go.Op.assign (Go.Operand.tmp 39),36,none⟩])
  .ret))))))) :=
 ⟨foll,Tryz.f96,Tryz.func96,by kernel_rfl,by kernel_rfl,by kernel_rfl,by rw [Tryz.ntmps96];decide⟩
theorem fn99:FnIs Tryz.prog 99 1 [Go.ResultVar.tmp 2] (.seq (.region [⟨some 2,Go.Op.assign (Go.Operand.const (Go.Value.int Go.IntKind.i32 0)),21,none⟩])
  (.seq (.region [⟨some 4,Go.Op.move (Go.Operand.tmp 0),71,none⟩,
   ⟨some 5,Go.Op.call { callee:=Go.Callee.value (Go.Operand.func 94),args:=#[Go.Operand.tmp 4],argTypes:=#[71] },21,none⟩,
   ⟨some 3,Go.Op.assign (Go.Operand.tmp 5),21,none⟩])
  (.seq (.seq (.region [⟨some 6,Go.Op.move (Go.Operand.tmp 3),21,none⟩])
  (.block 0
   (.seq (.region [⟨some 8,Go.Op.binOp Go.BinOp.eql 21 (Go.Operand.tmp 6) (Go.Operand.const (Go.Value.int Go.IntKind.i32 92)) 21,4,none⟩,
    ⟨some 7,Go.Op.assign (Go.Operand.tmp 8),4,none⟩])
   (.cond (Go.Operand.tmp 7)
    (.seq (.region [⟨some 9,Go.Op.move (Go.Operand.tmp 0),71,none⟩,
     ⟨some 10,Go.Op.call { callee:=Go.Callee.value (Go.Operand.func 94),args:=#[Go.Operand.tmp 9],argTypes:=#[71] },21,none⟩,
     ⟨some 2,Go.Op.assign (Go.Operand.tmp 10),21,none⟩])
    .ret)
    (.seq (.seq (.region [⟨some 12,Go.Op.binOp Go.BinOp.eql 21 (Go.Operand.tmp 6) (Go.Operand.const (Go.Value.int Go.IntKind.i32 93)) 21,4,none⟩,
     ⟨some 11,Go.Op.assign (Go.Operand.tmp 12),4,none⟩])
    (.cond (Go.Operand.tmp 11)
     .skip
     (.seq (.region [⟨some 13,Go.Op.binOp Go.BinOp.eql 21 (Go.Operand.tmp 6) (Go.Operand.const (Go.Value.int Go.IntKind.i32 94)) 21,4,none⟩,
      ⟨some 11,Go.Op.assign (Go.Operand.tmp 13),4,none⟩])
     (.cond (Go.Operand.tmp 11)
      .skip
      (.region [⟨some 14,Go.Op.binOp Go.BinOp.eql 21 (Go.Operand.tmp 6) (Go.Operand.const (Go.Value.int Go.IntKind.i32 45)) 21,4,none⟩,
       ⟨some 11,Go.Op.assign (Go.Operand.tmp 14),4,none⟩])))))
    (.cond (Go.Operand.tmp 11)
     (.region [⟨some 15,Go.Op.build 69 #[],69,none⟩,
      ⟨some 16,Go.Op.makeInterface 69 (Go.Operand.tmp 15),20,none⟩,
      ⟨none,Go.Op.panic (Go.Operand.tmp 16),0,none⟩])
     .skip))))))
  (.seq (.region [⟨some 17,Go.Op.move (Go.Operand.tmp 3),21,none⟩,
   ⟨some 2,Go.Op.assign (Go.Operand.tmp 17),21,none⟩])
  .ret)))) :=
 ⟨foll,Tryz.f99,Tryz.func99,by kernel_rfl,by kernel_rfl,by kernel_rfl,by rw [Tryz.ntmps99];decide⟩
theorem fn100:FnIs Tryz.prog 100 2 [Go.ResultVar.tmp 4] (.seq (.region [⟨some 4,Go.Op.assign (Go.Operand.const (Go.Value.slice none 0 0)),36,none⟩])
  (.seq (.region [⟨some 5,Go.Op.assign (Go.Operand.const (Go.Value.slice none 0 0)),36,none⟩])
  (.seq (.seq (.region [⟨some 10,Go.Op.call { callee:=Go.Callee.value (Go.Operand.func 95),args:=#[],argTypes:=#[] },36,none⟩,
   ⟨some 11,Go.Op.call { callee:=Go.Callee.builtin Go.Builtin.len,args:=#[Go.Operand.tmp 10],argTypes:=#[36] },3,none⟩,
   ⟨some 12,Go.Op.move (Go.Operand.const (Go.Value.int Go.IntKind.i64 0)),3,none⟩])
  (.block 0
   (.loop
    (.seq (.region [⟨some 13,Go.Op.binOp Go.BinOp.lss 3 (Go.Operand.tmp 12) (Go.Operand.tmp 11) 3,0,none⟩])
    (.seq (.cond (Go.Operand.tmp 13)
     .skip
     (.exit 0))
    (.seq (.block 1
     (.seq (.region [⟨some 14,Go.Op.indexAddr 36 (Go.Operand.tmp 10) (Go.Operand.tmp 12),0,none⟩,
      ⟨some 15,Go.Op.load 98 (Go.Operand.tmp 14),98,none⟩,
      ⟨some 7,Go.Op.alloc 98,0,none⟩,
      ⟨none,Go.Op.store 98 (Go.Operand.tmp 7) (Go.Operand.tmp 15),0,none⟩])
     (.seq (.draw true [⟨⟨some 16,Go.Op.move (Go.Operand.tmp 0),21,none⟩,false,false,false⟩,
      ⟨⟨some 17,Go.Op.fieldAddr 98 (Go.Operand.tmp 7) 0,0,none⟩,false,false,false⟩,
      ⟨⟨some 18,Go.Op.load 21 (Go.Operand.tmp 17),21,none⟩,false,false,false⟩,
      ⟨⟨some 19,Go.Op.call { callee:=Go.Callee.builtin Go.Builtin.max,args:=#[Go.Operand.tmp 16,Go.Operand.tmp 18],argTypes:=#[21,21] },21,none⟩,false,false,false⟩,
      ⟨⟨some 20,Go.Op.move (Go.Operand.tmp 1),21,none⟩,false,false,false⟩,
      ⟨⟨some 21,Go.Op.fieldAddr 98 (Go.Operand.tmp 7) 1,0,none⟩,false,false,false⟩,
      ⟨⟨some 22,Go.Op.load 21 (Go.Operand.tmp 21),21,none⟩,false,false,false⟩,
      ⟨⟨some 23,Go.Op.call { callee:=Go.Callee.builtin Go.Builtin.min,args:=#[Go.Operand.tmp 20,Go.Operand.tmp 22],argTypes:=#[21,21] },21,none⟩,false,false,false⟩,
      ⟨⟨some 8,Go.Op.assign (Go.Operand.tmp 19),21,none⟩,false,false,false⟩,
      ⟨⟨some 9,Go.Op.assign (Go.Operand.tmp 23),21,none⟩,false,false,false⟩] [[],[],[1],[0,1,2],[],[],[5],[4,5,6],[0,1,2,3],[0,1,2,3,4,5,6,7,8]])
     (.seq (.region [⟨some 24,Go.Op.move (Go.Operand.tmp 8),21,none⟩,
      ⟨some 25,Go.Op.move (Go.Operand.tmp 9),21,none⟩,
      ⟨some 26,Go.Op.binOp Go.BinOp.leq 21 (Go.Operand.tmp 24) (Go.Operand.tmp 25) 21,4,none⟩])
     (.cond (Go.Operand.tmp 26)
      (.region [⟨some 27,Go.Op.move (Go.Operand.tmp 5),36,none⟩,
       ⟨some 28,Go.Op.move (Go.Operand.tmp 8),21,none⟩,
       ⟨some 29,Go.Op.move (Go.Operand.tmp 9),21,none⟩,
       ⟨some 30,Go.Op.build 98 #[(0,Go.Operand.tmp 28),(1,Go.Operand.tmp 29)],98,none⟩,
       ⟨some 31,Go.Op.buildSlice 36 1 #[(0,Go.Operand.tmp 30)],36,none⟩,
       ⟨some 32,Go.Op.call { callee:=Go.Callee.builtin Go.Builtin.append,args:=#[Go.Operand.tmp 27,Go.Operand.tmp 31],argTypes:=#[36,36] },36,none⟩,
       ⟨some 5,Go.Op.assign (Go.Operand.tmp 32),36,none⟩])
      .skip)))))
    (.region [⟨some 33,Go.Op.binOp Go.BinOp.add 3 (Go.Operand.tmp 12) (Go.Operand.const (Go.Value.int Go.IntKind.i64 1)) 3,3,none⟩,
     ⟨some 12,Go.Op.move (Go.Operand.tmp 33),3,none⟩])))))))
  (.seq (.region [⟨some 34,Go.Op.move (Go.Operand.tmp 5),36,none⟩,
   ⟨some 4,Go.Op.assign (Go.Operand.tmp 34),36,none⟩])
  .ret)))) :=
 ⟨foll,Tryz.f100,Tryz.func100,by kernel_rfl,by kernel_rfl,by kernel_rfl,by rw [Tryz.ntmps100];decide⟩
theorem fn101:FnIs Tryz.prog 101 1 [Go.ResultVar.tmp 2] (.seq (.region [⟨some 2,Go.Op.assign (Go.Operand.const (Go.Value.slice none 0 0)),36,none⟩])
  (.seq (.region [⟨some 7,Go.Op.move (Go.Operand.tmp 0),36,none⟩,
   ⟨some 8,Go.Op.call { callee:=Go.Callee.value (Go.Operand.func 103),args:=#[Go.Operand.tmp 7,Go.Operand.func 104],argTypes:=#[36,165] },0,none⟩])
  (.seq (.region [⟨some 3,Go.Op.assign (Go.Operand.const (Go.Value.slice none 0 0)),36,none⟩])
  (.seq (.seq (.region [⟨some 9,Go.Op.move (Go.Operand.tmp 0),36,none⟩,
   ⟨some 10,Go.Op.call { callee:=Go.Callee.builtin Go.Builtin.len,args:=#[Go.Operand.tmp 9],argTypes:=#[36] },3,none⟩,
   ⟨some 11,Go.Op.move (Go.Operand.const (Go.Value.int Go.IntKind.i64 0)),3,none⟩])
  (.block 0
   (.loop
    (.seq (.region [⟨some 12,Go.Op.binOp Go.BinOp.lss 3 (Go.Operand.tmp 11) (Go.Operand.tmp 10) 3,0,none⟩])
    (.seq (.cond (Go.Operand.tmp 12)
     .skip
     (.exit 0))
    (.seq (.block 1
     (.seq (.region [⟨some 13,Go.Op.indexAddr 36 (Go.Operand.tmp 9) (Go.Operand.tmp 11),0,none⟩,
      ⟨some 14,Go.Op.load 98 (Go.Operand.tmp 13),98,none⟩,
      ⟨some 5,Go.Op.alloc 98,0,none⟩,
      ⟨none,Go.Op.store 98 (Go.Operand.tmp 5) (Go.Operand.tmp 14),0,none⟩])
     (.seq (.region [⟨some 15,Go.Op.move (Go.Operand.tmp 3),36,none⟩,
      ⟨some 16,Go.Op.call { callee:=Go.Callee.builtin Go.Builtin.len,args:=#[Go.Operand.tmp 15],argTypes:=#[36] },3,none⟩,
      ⟨some 6,Go.Op.assign (Go.Operand.tmp 16),3,none⟩])
     (.seq (.draw true [⟨⟨some 17,Go.Op.move (Go.Operand.tmp 6),3,none⟩,false,false,false⟩,
      ⟨⟨some 18,Go.Op.binOp Go.BinOp.gtr 3 (Go.Operand.tmp 17) (Go.Operand.const (Go.Value.int Go.IntKind.i64 0)) 3,4,none⟩,false,false,false⟩,
      ⟨⟨some 19,Go.Op.move (Go.Operand.tmp 18),4,none⟩,false,false,false⟩,
      ⟨⟨some 20,Go.Op.fieldAddr 98 (Go.Operand.tmp 5) 0,0,(some (19,true))⟩,false,false,false⟩,
      ⟨⟨some 21,Go.Op.load 21 (Go.Operand.tmp 20),21,(some (19,true))⟩,false,false,false⟩,
      ⟨⟨some 22,Go.Op.move (Go.Operand.tmp 3),36,(some (19,true))⟩,false,false,false⟩,
      ⟨⟨some 23,Go.Op.move (Go.Operand.tmp 6),3,(some (19,true))⟩,false,false,false⟩,
      ⟨⟨some 24,Go.Op.binOp Go.BinOp.sub 3 (Go.Operand.tmp 23) (Go.Operand.const (Go.Value.int Go.IntKind.i64 1)) 3,3,(some (19,true))⟩,false,false,false⟩,
      ⟨⟨some 25,Go.Op.indexAddr 36 (Go.Operand.tmp 22) (Go.Operand.tmp 24),0,(some (19,true))⟩,false,false,false⟩,
      ⟨⟨some 26,Go.Op.fieldAddr 98 (Go.Operand.tmp 25) 1,0,(some (19,true))⟩,false,false,false⟩,
      ⟨⟨some 27,Go.Op.load 21 (Go.Operand.tmp 26),21,(some (19,true))⟩,false,false,false⟩,
      ⟨⟨some 28,Go.Op.binOp Go.BinOp.add 21 (Go.Operand.tmp 27) (Go.Operand.const (Go.Value.int Go.IntKind.i32 1)) 21,21,(some (19,true))⟩,false,false,false⟩,
      ⟨⟨some 29,Go.Op.binOp Go.BinOp.leq 21 (Go.Operand.tmp 21) (Go.Operand.tmp 28) 21,4,(some (19,true))⟩,false,false,false⟩,
      ⟨⟨some 30,Go.Op.pick (Go.Operand.tmp 19) (Go.Operand.tmp 29) (Go.Operand.const (Go.Value.bool false)),4,none⟩,false,false,false⟩] [[],[0],[0,1],[0,1,2],[0,1,2,3],[0,1,2],[0,1,2],[0,1,2,6],[0,1,2,5,6,7],[0,1,2,5,6,7,8],[0,1,2,5,6,7,8,9],[0,1,2,5,6,7,8,9,10],[0,1,2,3,4,5,6,7,8,9,10,11],[0,1,2,3,4,5,6,7,8,9,10,11,12]])
     (.cond (Go.Operand.tmp 30)
      (.draw true [⟨⟨some 31,Go.Op.move (Go.Operand.tmp 3),36,none⟩,false,false,false⟩,
       ⟨⟨some 32,Go.Op.move (Go.Operand.tmp 6),3,none⟩,false,false,false⟩,
       ⟨⟨some 33,Go.Op.binOp Go.BinOp.sub 3 (Go.Operand.tmp 32) (Go.Operand.const (Go.Value.int Go.IntKind.i64 1)) 3,3,none⟩,false,false,false⟩,
       ⟨⟨some 34,Go.Op.move (Go.Operand.tmp 3),36,none⟩,false,false,false⟩,
       ⟨⟨some 35,Go.Op.move (Go.Operand.tmp 6),3,none⟩,false,false,false⟩,
       ⟨⟨some 36,Go.Op.binOp Go.BinOp.sub 3 (Go.Operand.tmp 35) (Go.Operand.const (Go.Value.int Go.IntKind.i64 1)) 3,3,none⟩,false,false,false⟩,
       ⟨⟨some 37,Go.Op.indexAddr 36 (Go.Operand.tmp 34) (Go.Operand.tmp 36),0,none⟩,false,false,false⟩,
       ⟨⟨some 38,Go.Op.fieldAddr 98 (Go.Operand.tmp 37) 1,0,none⟩,false,false,false⟩,
       ⟨⟨some 39,Go.Op.load 21 (Go.Operand.tmp 38),21,none⟩,false,false,false⟩,
       ⟨⟨some 40,Go.Op.fieldAddr 98 (Go.Operand.tmp 5) 1,0,none⟩,false,false,false⟩,
       ⟨⟨some 41,Go.Op.load 21 (Go.Operand.tmp 40),21,none⟩,false,false,false⟩,
       ⟨⟨some 42,Go.Op.call { callee:=Go.Callee.builtin Go.Builtin.max,args:=#[Go.Operand.tmp 39,Go.Operand.tmp 41],argTypes:=#[21,21] },21,none⟩,false,false,false⟩,
       ⟨⟨some 43,Go.Op.indexAddr 36 (Go.Operand.tmp 31) (Go.Operand.tmp 33),0,none⟩,false,false,false⟩,
       ⟨⟨some 44,Go.Op.fieldAddr 98 (Go.Operand.tmp 43) 1,0,none⟩,false,false,false⟩,
       ⟨⟨none,Go.Op.store 21 (Go.Operand.tmp 44) (Go.Operand.tmp 42),0,none⟩,true,false,false⟩] [[],[],[1],[],[],[4],[3,4,5],[3,4,5,6],[3,4,5,6,7],[],[9],[3,4,5,6,7,8,9,10],[0,1,2,3,4,5,6,7,8,9,10,11],[0,1,2,3,4,5,6,7,8,9,10,11,12],[0,1,2,3,4,5,6,7,8,9,10,11,12,13]])
      (.region [⟨some 45,Go.Op.move (Go.Operand.tmp 3),36,none⟩,
       ⟨some 46,Go.Op.load 98 (Go.Operand.tmp 5),98,none⟩,
       ⟨some 47,Go.Op.buildSlice 36 1 #[(0,Go.Operand.tmp 46)],36,none⟩,
       ⟨some 48,Go.Op.call { callee:=Go.Callee.builtin Go.Builtin.append,args:=#[Go.Operand.tmp 45,Go.Operand.tmp 47],argTypes:=#[36,36] },36,none⟩,
       ⟨some 3,Go.Op.assign (Go.Operand.tmp 48),36,none⟩]))))))
    (.region [⟨some 49,Go.Op.binOp Go.BinOp.add 3 (Go.Operand.tmp 11) (Go.Operand.const (Go.Value.int Go.IntKind.i64 1)) 3,3,none⟩,
     ⟨some 11,Go.Op.move (Go.Operand.tmp 49),3,none⟩])))))))
  (.seq (.region [⟨some 50,Go.Op.move (Go.Operand.tmp 3),36,none⟩,
   ⟨some 2,Go.Op.assign (Go.Operand.tmp 50),36,none⟩])
  .ret))))) :=
 ⟨foll,Tryz.f101,Tryz.func101,by kernel_rfl,by kernel_rfl,by kernel_rfl,by rw [Tryz.ntmps101];decide⟩
theorem fn102:FnIs Tryz.prog 102 1 [Go.ResultVar.tmp 2] (.seq (.region [⟨some 2,Go.Op.assign (Go.Operand.const (Go.Value.slice none 0 0)),36,none⟩])
  (.seq (.region [⟨some 3,Go.Op.assign (Go.Operand.const (Go.Value.slice none 0 0)),36,none⟩])
  (.seq (.region [⟨some 4,Go.Op.assign (Go.Operand.const (Go.Value.int Go.IntKind.i32 0)),21,none⟩])
  (.seq (.seq (.region [⟨some 7,Go.Op.move (Go.Operand.tmp 0),36,none⟩,
   ⟨some 8,Go.Op.call { callee:=Go.Callee.builtin Go.Builtin.len,args:=#[Go.Operand.tmp 7],argTypes:=#[36] },3,none⟩,
   ⟨some 9,Go.Op.move (Go.Operand.const (Go.Value.int Go.IntKind.i64 0)),3,none⟩])
  (.block 0
   (.loop
    (.seq (.region [⟨some 10,Go.Op.binOp Go.BinOp.lss 3 (Go.Operand.tmp 9) (Go.Operand.tmp 8) 3,0,none⟩])
    (.seq (.cond (Go.Operand.tmp 10)
     .skip
     (.exit 0))
    (.seq (.block 1
     (.seq (.region [⟨some 11,Go.Op.indexAddr 36 (Go.Operand.tmp 7) (Go.Operand.tmp 9),0,none⟩,
      ⟨some 12,Go.Op.load 98 (Go.Operand.tmp 11),98,none⟩,
      ⟨some 6,Go.Op.alloc 98,0,none⟩,
      ⟨none,Go.Op.store 98 (Go.Operand.tmp 6) (Go.Operand.tmp 12),0,none⟩])
     (.seq (.region [⟨some 13,Go.Op.move (Go.Operand.tmp 3),36,none⟩,
      ⟨some 14,Go.Op.move (Go.Operand.tmp 4),21,none⟩,
      ⟨some 15,Go.Op.fieldAddr 98 (Go.Operand.tmp 6) 0,0,none⟩,
      ⟨some 16,Go.Op.load 21 (Go.Operand.tmp 15),21,none⟩,
      ⟨some 17,Go.Op.binOp Go.BinOp.sub 21 (Go.Operand.tmp 16) (Go.Operand.const (Go.Value.int Go.IntKind.i32 1)) 21,21,none⟩,
      ⟨some 18,Go.Op.call { callee:=Go.Callee.value (Go.Operand.func 100),args:=#[Go.Operand.tmp 14,Go.Operand.tmp 17],argTypes:=#[21,21] },36,none⟩,
      ⟨some 19,Go.Op.call { callee:=Go.Callee.builtin Go.Builtin.append,args:=#[Go.Operand.tmp 13,Go.Operand.tmp 18],argTypes:=#[36,36] },36,none⟩,
      ⟨some 3,Go.Op.assign (Go.Operand.tmp 19),36,none⟩])
     (.region [⟨some 20,Go.Op.fieldAddr 98 (Go.Operand.tmp 6) 1,0,none⟩,
      ⟨some 21,Go.Op.load 21 (Go.Operand.tmp 20),21,none⟩,
      ⟨some 22,Go.Op.binOp Go.BinOp.add 21 (Go.Operand.tmp 21) (Go.Operand.const (Go.Value.int Go.IntKind.i32 1)) 21,21,none⟩,
      ⟨some 4,Go.Op.assign (Go.Operand.tmp 22),21,none⟩]))))
    (.region [⟨some 23,Go.Op.binOp Go.BinOp.add 3 (Go.Operand.tmp 9) (Go.Operand.const (Go.Value.int Go.IntKind.i64 1)) 3,3,none⟩,
     ⟨some 9,Go.Op.move (Go.Operand.tmp 23),3,none⟩])))))))
  (.seq (.region [⟨some 24,Go.Op.move (Go.Operand.tmp 3),36,none⟩,
   ⟨some 25,Go.Op.move (Go.Operand.tmp 4),21,none⟩,
   ⟨some 26,Go.Op.call { callee:=Go.Callee.value (Go.Operand.func 100),args:=#[Go.Operand.tmp 25,Go.Operand.const (Go.Value.int Go.IntKind.i32 1114111)],argTypes:=#[21,21] },36,none⟩,
   ⟨some 27,Go.Op.call { callee:=Go.Callee.builtin Go.Builtin.append,args:=#[Go.Operand.tmp 24,Go.Operand.tmp 26],argTypes:=#[36,36] },36,none⟩,
   ⟨some 2,Go.Op.assign (Go.Operand.tmp 27),36,none⟩])
  .ret))))) :=
 ⟨foll,Tryz.f102,Tryz.func102,by kernel_rfl,by kernel_rfl,by kernel_rfl,by rw [Tryz.ntmps102];decide⟩
end Go.Proofs.YtfnddhbiolpmgaaGreatDoor
set_option linter.unusedVariables false
set_option linter.unusedSimpArgs false
set_option maxRecDepth 100000
namespace Go.Proofs.YtfnddhbiolpmgaaGreatDoor
open Go Nv Pat
/- The parser's small functions. -/
def boxP (l:List Int) (i:Nat):Blk:=.box 74 [.d (.list 1 (runesD l)),.d (.int .i64 i)]
def badV:AV:=.iface 69 (.agg [])
def PS (f:FuncId) (args:List AV) (l r:List Int) (out:Option (AV × List Int)):Prop :=
 ∀ (A B:Nv.ST) (u:List Int),l=u++r→ACall Tryz.prog f (.ptr A.length 0::args) (A++boxP l u.length::B) fun oc σ' =>
  match out with
  | none=>oc=.panic badV∧∃ τ,σ'=A++τ
  | some (v,r')=>oc=.ret v∧∃ (u':List Int) (τ:Nv.ST),l=u'++r'∧σ'=A++boxP l u'.length::(B++τ)
theorem PS.at {f:FuncId} {args:List AV} {l r:List Int} {out:Option (AV × List Int)} (h:PS f args l r out) (A B:Nv.ST) (u:List Int) (e:l=u++r) {Kv E:AV→Nv.ST→Prop} {tk:Tk (outK Kv E)}
  (hret:∀ v r' (u':List Int) (τ:Nv.ST),out=some (v,r')→l=u'++r'→Kv v (A++boxP l u'.length::(B++τ))) (hpan:out=none→∀ τ,E badV (A++τ)):wCall Tryz.prog f (.ptr A.length 0::args) (A++boxP l u.length::B) (outK Kv E) tk:=by
 refine ACall.mono (h A B u e) fun oc s hh=>?_
 cases out with
 | none=>obtain ⟨rfl,τ,rfl⟩:=hh;exact hpan rfl τ
 | some x =>
  obtain ⟨v,r'⟩:=x
  obtain ⟨rfl,u',τ,e',rfl⟩:=hh
  exact hret v r' u' τ rfl e'
theorem PS.of {f np:Nat} {rs:List ResultVar} {pc:PC} (hf:FnIs Tryz.prog f np rs pc) (hint:Nat→Hint) {args:List AV} {l r:List Int} {out:Option (AV × List Int)} (hn:args.length+1≤np)
  (h:∀ (A B:Nv.ST) (u:List Int),l=u++r→wW Tryz.prog hint pc (endA Tryz.prog rs fun oc σ'=>match out with
   | none=>oc=.panic badV∧∃ τ,σ'=A++τ
   | some (v,r')=>oc=.ret v∧∃ (u':List Int) (τ:Nv.ST),l=u'++r'∧σ'=A++boxP l u'.length::(B++τ)) ⟨⟩ ⟨⟩ (initFr (.ptr A.length 0::args)) (A++boxP l u.length::B)):PS f args l r out:=fun A B u e =>
 hf.go hint hn (h A B u e)
theorem runes_at (u r:List Int) (c:Int):(runesD (u++c::r)).getD u.length default=.int .i32 c:=by
 simp [runesD,List.getD_eq_getElem?_getD]
theorem peek29 (u r:List Int) (hl:(u++r).length≤1000000) (A B:Nv.ST):SCall Tryz.prog 28 [.ptr A.length 0] (A++boxP (u++r) u.length::B) (.d (.int .i32 (r.headD (-1)))) (A++boxP (u++r) u.length::B):=by
 refine fn28.st noHint (Nat.le_refl _) ?_
 cases r with
 | nil =>
  have h1:¬ u.length<u.length:=by omega
  simp (disch:=omega) only [go_sem,boxP,runesD_length,List.append_nil,h1,List.headD_nil,apR]
 | cons c r =>
  have h1:(u.length:Int)<((u++c::r).length:Nat):=by rw [List.length_append,List.length_cons];omega
  have h2:u.length<(u++c::r).length:=by rw [List.length_append,List.length_cons];omega
  have h3:=runes_at u r c
  generalize u++c::r=l at h1 h2 h3 ⊢
  simp (disch:=omega) only [go_sem,boxP,runesD_length,h1,h2,h3,List.headD_cons,apR]
theorem next84 (l r:List Int) (hl:l.length≤1000000) (h0:∀ c,c∈l→0≤c):PS 94 [] l r (match r with | []=>none | c::t=>some (.d (.int .i32 c),t)):=by
 refine PS.of fn94 noHint (Nat.le_refl _) fun A B u e=>?_
 subst e
 simp (disch:=omega) only [go_sem]
 refine (peek29 u r hl A B).at ?_
 cases r with
 | nil=>simp (disch:=omega) only [go_sem,List.headD_nil,badV];exact ⟨_,rfl⟩
 | cons c r =>
  have hc:¬ c<0:=by have:=h0 c (by simp);omega
  have hw:IntKind.i64.wrap ((u.length:Int)+1)=((u++[c]).length:Nat):=by
   rw [List.length_append] at *
   rw [wrap_id (by omega) (by simp at hl;omega)];simp
  obtain ⟨u',hu'⟩:∃ u',u'=u++[c]:=⟨_,rfl⟩
  rw [← hu'] at hw
  have el:u++c::r=u'++r:=by rw [hu'];simp
  simp (disch:=omega) only [go_sem,boxP,List.headD_cons,hc,hw,apR]
  exact ⟨u',[],el,by simp [boxP,hw]⟩
theorem skip45 (l r:List Int) (hl:l.length≤1000000) (c:Int) (hc:0≤c) :
  PS 42 [.d (.int .i32 c)] l r (some (.d (.bool (decide (r.headD (-1)=c))),if r.headD (-1)=c then r.tail else r)):=by
 refine PS.of fn42 noHint (Nat.le_refl _) fun A B u e=>?_
 subst e
 simp (disch:=omega) only [go_sem]
 refine (peek29 u r hl A B).at ?_
 by_cases h:r.headD (-1)=c
 ·cases r with
  | nil=>simp at h;omega
  | cons d r =>
   simp only [List.headD_cons] at h
   subst h
   have hw:IntKind.i64.wrap ((u.length:Int)+1)=((u++[d]).length:Nat):=by
    rw [List.length_append] at *
    rw [wrap_id (by omega) (by simp at hl;omega)];simp
   obtain ⟨u',hu'⟩:∃ u',u'=u++[d]:=⟨_,rfl⟩
   rw [← hu'] at hw
   have el:u++d::r=u'++r:=by rw [hu'];simp
   simp (disch:=omega) only [go_sem,boxP,List.headD_cons,hw,List.tail_cons,decide_true,apR]
   exact ⟨u',[],el,by simp [boxP,hw]⟩
 ·simp (disch:=omega) only [go_sem,h,decide_false]
  exact ⟨u,[],rfl,by simp⟩
theorem must78 (l r:List Int) (hl:l.length≤1000000) (c:Int) (hc:0≤c):PS 84 [.d (.int .i32 c)] l r (if r.headD (-1)=c then some (.tuple [],r.tail) else none):=by
 refine PS.of fn84 noHint (Nat.le_refl _) fun A B u e=>?_
 simp (disch:=omega) only [go_sem]
 refine (skip45 l r hl c hc).at A B u e ?_ ?_
 ·intro v r' u' τ ho e'
  cases ho
  by_cases h:r.headD (-1)=c
  ·rw [if_pos h] at e'
   simp (disch:=omega) only [go_sem,h,decide_true]
   exact ⟨u',τ,e',rfl⟩
  ·simp (disch:=omega) only [go_sem,h,decide_false,badV];exact ⟨_,rfl⟩
 ·intro ho;cases ho
end Go.Proofs.YtfnddhbiolpmgaaGreatDoor
