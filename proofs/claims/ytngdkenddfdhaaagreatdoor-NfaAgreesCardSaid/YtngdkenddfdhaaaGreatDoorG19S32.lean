/- Part of a proof about the functions of this seat. -/
import Derived.Test.YtngdkenddfdhaaaGreatDoorG10Base32
import Derived.Test.YtngdkenddfdhaaaGreatDoorG13Nfq
/- The prepared code of further functions. Written by a program of mine (gen.py) out of what the loaded dump prints. -/

set_option linter.unusedVariables false
set_option maxRecDepth 100000
namespace Go.Proofs.YtngdkenddfdhaaaGreatDoor
open Go Nv
theorem fn15:FnIs Tryz.prog 15 1 [Go.ResultVar.tmp 2] (.seq (.region [⟨some 1,Go.Op.box 25 (Go.Operand.tmp 0),0,none⟩,
   ⟨some 2,Go.Op.assign (Go.Operand.const (Go.Value.int Go.IntKind.i64 0)),3,none⟩])
  (.seq (.region [⟨some 3,Go.Op.assign (Go.Operand.const (Go.Value.int Go.IntKind.i64 1)),3,none⟩])
  (.seq (.seq (.region [⟨some 4,Go.Op.assign (Go.Operand.const (Go.Value.int Go.IntKind.i64 0)),3,none⟩])
  (.block 0
   (.loop
    (.seq (.seq (.region [⟨some 5,Go.Op.move (Go.Operand.tmp 4),3,none⟩,
     ⟨some 6,Go.Op.fieldAddr 25 (Go.Operand.tmp 1) 2,0,none⟩,
     ⟨some 7,Go.Op.load 23 (Go.Operand.tmp 6),23,none⟩,
     ⟨some 8,Go.Op.call { callee:=Go.Callee.builtin Go.Builtin.len,args:=#[Go.Operand.tmp 7],argTypes:=#[23] },3,none⟩,
     ⟨some 9,Go.Op.binOp Go.BinOp.lss 3 (Go.Operand.tmp 5) (Go.Operand.tmp 8) 3,4,none⟩])
    (.cond (Go.Operand.tmp 9)
     .skip
     (.exit 0)))
    (.seq (.block 1
     (.region [⟨some 12,Go.Op.move (Go.Operand.tmp 3),3,none⟩,
      ⟨some 13,Go.Op.fieldAddr 25 (Go.Operand.tmp 1) 2,0,none⟩,
      ⟨some 14,Go.Op.load 23 (Go.Operand.tmp 13),23,none⟩,
      ⟨some 15,Go.Op.move (Go.Operand.tmp 4),3,none⟩,
      ⟨some 16,Go.Op.indexAddr 23 (Go.Operand.tmp 14) (Go.Operand.tmp 15),0,none⟩,
      ⟨some 17,Go.Op.load 25 (Go.Operand.tmp 16),25,none⟩,
      ⟨some 18,Go.Op.call { callee:=Go.Callee.value (Go.Operand.func 15),args:=#[Go.Operand.tmp 17],argTypes:=#[25] },3,none⟩,
      ⟨some 19,Go.Op.binOp Go.BinOp.add 3 (Go.Operand.tmp 12) (Go.Operand.tmp 18) 3,3,none⟩,
      ⟨some 3,Go.Op.assign (Go.Operand.tmp 19),3,none⟩]))
    (.region [⟨some 10,Go.Op.move (Go.Operand.tmp 4),3,none⟩,
     ⟨some 11,Go.Op.binOp Go.BinOp.add 3 (Go.Operand.tmp 10) (Go.Operand.const (Go.Value.int Go.IntKind.i64 1)) 3,3,none⟩,
     ⟨some 4,Go.Op.assign (Go.Operand.tmp 11),3,none⟩]))))))
  (.seq (.seq (.region [⟨some 20,Go.Op.fieldAddr 25 (Go.Operand.tmp 1) 0,0,none⟩,
   ⟨some 21,Go.Op.load 3 (Go.Operand.tmp 20),3,none⟩,
   ⟨some 22,Go.Op.binOp Go.BinOp.eql 3 (Go.Operand.tmp 21) (Go.Operand.const (Go.Value.int Go.IntKind.i64 5)) 3,4,none⟩])
  (.cond (Go.Operand.tmp 22)
   (.seq (.region [⟨some 23,Go.Op.fieldAddr 25 (Go.Operand.tmp 1) 4,0,none⟩,
    ⟨some 24,Go.Op.load 3 (Go.Operand.tmp 23),3,none⟩,
    ⟨some 25,Go.Op.binOp Go.BinOp.lss 3 (Go.Operand.tmp 24) (Go.Operand.const (Go.Value.int Go.IntKind.i64 0)) 3,4,none⟩])
   (.cond (Go.Operand.tmp 25)
    (.region [⟨some 26,Go.Op.move (Go.Operand.tmp 3),3,none⟩,
     ⟨some 27,Go.Op.fieldAddr 25 (Go.Operand.tmp 1) 3,0,none⟩,
     ⟨some 28,Go.Op.load 3 (Go.Operand.tmp 27),3,none⟩,
     ⟨some 29,Go.Op.call { callee:=Go.Callee.builtin Go.Builtin.max,args:=#[Go.Operand.tmp 28,Go.Operand.const (Go.Value.int Go.IntKind.i64 0)],argTypes:=#[3,3] },3,none⟩,
     ⟨some 30,Go.Op.call { callee:=Go.Callee.builtin Go.Builtin.min,args:=#[Go.Operand.tmp 29,Go.Operand.const (Go.Value.int Go.IntKind.i64 100)],argTypes:=#[3,3] },3,none⟩,
     ⟨some 31,Go.Op.binOp Go.BinOp.add 3 (Go.Operand.tmp 30) (Go.Operand.const (Go.Value.int Go.IntKind.i64 15)) 3,3,none⟩,
     ⟨some 32,Go.Op.binOp Go.BinOp.mul 3 (Go.Operand.tmp 26) (Go.Operand.tmp 31) 3,3,none⟩,
     ⟨some 3,Go.Op.assign (Go.Operand.tmp 32),3,none⟩])
    (.region [⟨some 33,Go.Op.move (Go.Operand.tmp 3),3,none⟩,
     ⟨some 34,Go.Op.fieldAddr 25 (Go.Operand.tmp 1) 4,0,none⟩,
     ⟨some 35,Go.Op.load 3 (Go.Operand.tmp 34),3,none⟩,
     ⟨some 36,Go.Op.call { callee:=Go.Callee.builtin Go.Builtin.max,args:=#[Go.Operand.tmp 35,Go.Operand.const (Go.Value.int Go.IntKind.i64 1)],argTypes:=#[3,3] },3,none⟩,
     ⟨some 37,Go.Op.call { callee:=Go.Callee.builtin Go.Builtin.min,args:=#[Go.Operand.tmp 36,Go.Operand.const (Go.Value.int Go.IntKind.i64 100)],argTypes:=#[3,3] },3,none⟩,
     ⟨some 38,Go.Op.binOp Go.BinOp.mul 3 (Go.Operand.tmp 33) (Go.Operand.tmp 37) 3,3,none⟩,
     ⟨some 3,Go.Op.assign (Go.Operand.tmp 38),3,none⟩])))
   .skip))
  (.seq (.region [⟨some 39,Go.Op.move (Go.Operand.tmp 3),3,none⟩,
   ⟨some 40,Go.Op.call { callee:=Go.Callee.builtin Go.Builtin.min,args:=#[Go.Operand.tmp 39,Go.Operand.const (Go.Value.int Go.IntKind.i64 1000000)],argTypes:=#[3,3] },3,none⟩,
   ⟨some 2,Go.Op.assign (Go.Operand.tmp 40),3,none⟩])
  .ret))))) :=
 ⟨foll,Tryz.f15,Tryz.func15,by kernel_rfl,by kernel_rfl,by kernel_rfl,by rw [Tryz.ntmps15];decide⟩
theorem fn18:FnIs Tryz.prog 18 2 [Go.ResultVar.tmp 4] (.seq (.region [⟨some 2,Go.Op.box 25 (Go.Operand.tmp 0),0,none⟩,
   ⟨some 4,Go.Op.assign (Go.Operand.const (Go.Value.bool false)),4,none⟩])
  (.seq (.seq (.region [⟨some 8,Go.Op.load 25 (Go.Operand.tmp 2),25,none⟩,
   ⟨some 9,Go.Op.call { callee:=Go.Callee.value (Go.Operand.func 23),args:=#[Go.Operand.tmp 8],argTypes:=#[25] },32,none⟩,
   ⟨some 10,Go.Op.binOp Go.BinOp.neq 32 (Go.Operand.tmp 9) (Go.Operand.const (Go.Value.int Go.IntKind.i64 0)) 32,4,none⟩])
  (.cond (Go.Operand.tmp 10)
   (.seq (.region [⟨some 4,Go.Op.assign (Go.Operand.const (Go.Value.bool false)),4,none⟩])
   .ret)
   .skip))
  (.seq (.region [⟨some 12,Go.Op.move (Go.Operand.tmp 1),9,none⟩,
   ⟨some 13,Go.Op.call { callee:=Go.Callee.value (Go.Operand.func 32),args:=#[Go.Operand.const (Go.Value.string { data:=#[] }),Go.Operand.tmp 12],argTypes:=#[9,9] },63,none⟩,
   ⟨some 11,Go.Op.move (Go.Operand.tmp 13),63,none⟩,
   ⟨some 14,Go.Op.extract (Go.Operand.tmp 11) 0,62,none⟩,
   ⟨some 15,Go.Op.extract (Go.Operand.tmp 11) 1,9,none⟩,
   ⟨some 5,Go.Op.assign (Go.Operand.tmp 14),62,none⟩,
   ⟨some 6,Go.Op.assign (Go.Operand.tmp 15),9,none⟩])
  (.seq (.region [⟨some 16,Go.Op.move (Go.Operand.tmp 5),62,none⟩,
   ⟨some 17,Go.Op.move (Go.Operand.tmp 6),9,none⟩,
   ⟨some 18,Go.Op.call { callee:=Go.Callee.value (Go.Operand.func 34),args:=#[Go.Operand.tmp 17],argTypes:=#[9] },62,none⟩,
   ⟨some 19,Go.Op.call { callee:=Go.Callee.builtin Go.Builtin.append,args:=#[Go.Operand.tmp 16,Go.Operand.tmp 18],argTypes:=#[62,62] },62,none⟩,
   ⟨some 5,Go.Op.assign (Go.Operand.tmp 19),62,none⟩])
  (.seq (.region [⟨some 20,Go.Op.move (Go.Operand.tmp 5),62,none⟩,
   ⟨some 21,Go.Op.call { callee:=Go.Callee.builtin Go.Builtin.len,args:=#[Go.Operand.tmp 20],argTypes:=#[62] },3,none⟩,
   ⟨some 22,Go.Op.binOp Go.BinOp.add 3 (Go.Operand.tmp 21) (Go.Operand.const (Go.Value.int Go.IntKind.i64 1)) 3,3,none⟩,
   ⟨some 23,Go.Op.makeSlice 71 (Go.Operand.tmp 22) (Go.Operand.tmp 22),71,none⟩,
   ⟨some 7,Go.Op.assign (Go.Operand.tmp 23),71,none⟩])
  (.seq (.region [⟨some 24,Go.Op.move (Go.Operand.tmp 7),71,none⟩,
   ⟨some 25,Go.Op.indexAddr 71 (Go.Operand.tmp 24) (Go.Operand.const (Go.Value.int Go.IntKind.i64 0)),0,none⟩,
   ⟨none,Go.Op.store 4 (Go.Operand.tmp 25) (Go.Operand.const (Go.Value.bool true)),0,none⟩])
  (.seq (.region [⟨some 26,Go.Op.load 25 (Go.Operand.tmp 2),25,none⟩,
   ⟨some 27,Go.Op.move (Go.Operand.tmp 5),62,none⟩,
   ⟨some 28,Go.Op.move (Go.Operand.tmp 7),71,none⟩,
   ⟨some 29,Go.Op.call { callee:=Go.Callee.value (Go.Operand.func 39),args:=#[Go.Operand.tmp 26,Go.Operand.tmp 27,Go.Operand.tmp 28],argTypes:=#[25,62,71] },71,none⟩,
   ⟨some 30,Go.Op.move (Go.Operand.tmp 5),62,none⟩,
   ⟨some 31,Go.Op.call { callee:=Go.Callee.builtin Go.Builtin.len,args:=#[Go.Operand.tmp 30],argTypes:=#[62] },3,none⟩,
   ⟨some 32,Go.Op.indexAddr 71 (Go.Operand.tmp 29) (Go.Operand.tmp 31),0,none⟩,
   ⟨some 33,Go.Op.load 4 (Go.Operand.tmp 32),4,none⟩,
   ⟨some 4,Go.Op.assign (Go.Operand.tmp 33),4,none⟩])
  .ret))))))) :=
 ⟨foll,Tryz.f18,Tryz.func18,by kernel_rfl,by kernel_rfl,by kernel_rfl,by rw [Tryz.ntmps18];decide⟩
theorem fn32:FnIs Tryz.prog 32 2 [Go.ResultVar.tmp 4,Go.ResultVar.tmp 5] (.seq (.region [⟨some 4,Go.Op.assign (Go.Operand.const (Go.Value.slice none 0 0)),62,none⟩,
   ⟨some 5,Go.Op.assign (Go.Operand.const (Go.Value.string { data:=#[] })),9,none⟩])
  (.seq (.region [⟨some 12,Go.Op.move (Go.Operand.tmp 0),9,none⟩,
   ⟨some 13,Go.Op.move (Go.Operand.tmp 1),9,none⟩,
   ⟨some 14,Go.Op.binOp Go.BinOp.add 9 (Go.Operand.tmp 12) (Go.Operand.tmp 13) 9,9,none⟩,
   ⟨some 6,Go.Op.assign (Go.Operand.tmp 14),9,none⟩])
  (.seq (.region [⟨some 7,Go.Op.assign (Go.Operand.const (Go.Value.slice none 0 0)),62,none⟩])
  (.seq (.region [⟨some 8,Go.Op.alloc 97,0,none⟩])
  (.seq (.region [⟨some 9,Go.Op.assign (Go.Operand.const (Go.Value.int Go.IntKind.i64 0)),3,none⟩])
  (.seq (.seq (.region [⟨some 15,Go.Op.move (Go.Operand.tmp 6),9,none⟩,
   ⟨some 16,Go.Op.call { callee:=Go.Callee.builtin Go.Builtin.len,args:=#[Go.Operand.tmp 15],argTypes:=#[9] },3,none⟩,
   ⟨some 17,Go.Op.move (Go.Operand.const (Go.Value.int Go.IntKind.i64 0)),3,none⟩])
  (.block 0
   (.loop
    (.seq (.region [⟨some 18,Go.Op.binOp Go.BinOp.lss 3 (Go.Operand.tmp 17) (Go.Operand.tmp 16) 3,4,none⟩])
    (.seq (.cond (Go.Operand.tmp 18)
     .skip
     (.exit 0))
    (.seq (.block 1
     (.seq (.region [⟨some 19,Go.Op.move (Go.Operand.tmp 17),3,none⟩,
      ⟨some 10,Go.Op.assign (Go.Operand.tmp 19),3,none⟩])
     (.seq (.region [⟨some 20,Go.Op.move (Go.Operand.tmp 6),9,none⟩,
      ⟨some 21,Go.Op.move (Go.Operand.tmp 10),3,none⟩,
      ⟨some 22,Go.Op.index 9 (Go.Operand.tmp 20) (Go.Operand.tmp 21),5,none⟩,
      ⟨some 11,Go.Op.assign (Go.Operand.tmp 22),5,none⟩])
     (.seq (.seq (.region [⟨some 23,Go.Op.fieldAddr 97 (Go.Operand.tmp 8) 1,0,none⟩,
      ⟨some 24,Go.Op.load 3 (Go.Operand.tmp 23),3,none⟩,
      ⟨some 25,Go.Op.binOp Go.BinOp.gtr 3 (Go.Operand.tmp 24) (Go.Operand.const (Go.Value.int Go.IntKind.i64 0)) 3,4,none⟩,
      ⟨some 26,Go.Op.move (Go.Operand.tmp 25),4,none⟩,
      ⟨some 27,Go.Op.move (Go.Operand.tmp 11),5,(some (26,true))⟩,
      ⟨some 28,Go.Op.fieldAddr 97 (Go.Operand.tmp 8) 2,0,(some (26,true))⟩,
      ⟨some 29,Go.Op.load 5 (Go.Operand.tmp 28),5,(some (26,true))⟩,
      ⟨some 30,Go.Op.binOp Go.BinOp.geq 5 (Go.Operand.tmp 27) (Go.Operand.tmp 29) 5,4,(some (26,true))⟩,
      ⟨some 31,Go.Op.pick (Go.Operand.tmp 26) (Go.Operand.tmp 30) (Go.Operand.const (Go.Value.bool false)),4,none⟩,
      ⟨some 32,Go.Op.move (Go.Operand.tmp 31),4,none⟩,
      ⟨some 33,Go.Op.move (Go.Operand.tmp 11),5,(some (32,true))⟩,
      ⟨some 34,Go.Op.fieldAddr 97 (Go.Operand.tmp 8) 3,0,(some (32,true))⟩,
      ⟨some 35,Go.Op.load 5 (Go.Operand.tmp 34),5,(some (32,true))⟩,
      ⟨some 36,Go.Op.binOp Go.BinOp.leq 5 (Go.Operand.tmp 33) (Go.Operand.tmp 35) 5,4,(some (32,true))⟩,
      ⟨some 37,Go.Op.pick (Go.Operand.tmp 32) (Go.Operand.tmp 36) (Go.Operand.const (Go.Value.bool false)),4,none⟩])
     (.cond (Go.Operand.tmp 37)
      (.seq (.region [⟨some 38,Go.Op.fieldAddr 97 (Go.Operand.tmp 8) 0,0,none⟩,
       ⟨some 39,Go.Op.load 21 (Go.Operand.tmp 38),21,none⟩,
       ⟨some 40,Go.Op.binOp Go.BinOp.shl 21 (Go.Operand.tmp 39) (Go.Operand.const (Go.Value.int Go.IntKind.u64 6)) 86,21,none⟩,
       ⟨some 41,Go.Op.move (Go.Operand.tmp 11),5,none⟩,
       ⟨some 42,Go.Op.binOp Go.BinOp.and 5 (Go.Operand.tmp 41) (Go.Operand.const (Go.Value.int Go.IntKind.u8 63)) 5,5,none⟩,
       ⟨some 43,Go.Op.convert 5 21 (Go.Operand.tmp 42),21,none⟩,
       ⟨some 44,Go.Op.binOp Go.BinOp.or 21 (Go.Operand.tmp 40) (Go.Operand.tmp 43) 21,21,none⟩,
       ⟨some 45,Go.Op.fieldAddr 97 (Go.Operand.tmp 8) 1,0,none⟩,
       ⟨some 46,Go.Op.load 3 (Go.Operand.tmp 45),3,none⟩,
       ⟨some 47,Go.Op.binOp Go.BinOp.sub 3 (Go.Operand.tmp 46) (Go.Operand.const (Go.Value.int Go.IntKind.i64 1)) 3,3,none⟩,
       ⟨some 48,Go.Op.build 97 #[(0,Go.Operand.tmp 44),(1,Go.Operand.tmp 47),(2,Go.Operand.const (Go.Value.int Go.IntKind.u8 128)),(3,Go.Operand.const (Go.Value.int Go.IntKind.u8 191))],97,none⟩,
       ⟨none,Go.Op.store 97 (Go.Operand.tmp 8) (Go.Operand.tmp 48),0,none⟩])
      (.seq (.seq (.region [⟨some 49,Go.Op.fieldAddr 97 (Go.Operand.tmp 8) 1,0,none⟩,
       ⟨some 50,Go.Op.load 3 (Go.Operand.tmp 49),3,none⟩,
       ⟨some 51,Go.Op.binOp Go.BinOp.eql 3 (Go.Operand.tmp 50) (Go.Operand.const (Go.Value.int Go.IntKind.i64 0)) 3,4,none⟩])
      (.cond (Go.Operand.tmp 51)
       (.region [⟨some 52,Go.Op.move (Go.Operand.tmp 7),62,none⟩,
        ⟨some 53,Go.Op.fieldAddr 97 (Go.Operand.tmp 8) 0,0,none⟩,
        ⟨some 54,Go.Op.load 21 (Go.Operand.tmp 53),21,none⟩,
        ⟨some 55,Go.Op.buildSlice 62 1 #[(0,Go.Operand.tmp 54)],62,none⟩,
        ⟨some 56,Go.Op.call { callee:=Go.Callee.builtin Go.Builtin.append,args:=#[Go.Operand.tmp 52,Go.Operand.tmp 55],argTypes:=#[62,62] },62,none⟩,
        ⟨some 7,Go.Op.assign (Go.Operand.tmp 56),62,none⟩])
       .skip))
      (.exit 1)))
      .skip))
     (.seq (.seq (.region [⟨some 57,Go.Op.fieldAddr 97 (Go.Operand.tmp 8) 1,0,none⟩,
      ⟨some 58,Go.Op.load 3 (Go.Operand.tmp 57),3,none⟩,
      ⟨some 59,Go.Op.binOp Go.BinOp.gtr 3 (Go.Operand.tmp 58) (Go.Operand.const (Go.Value.int Go.IntKind.i64 0)) 3,4,none⟩])
     (.cond (Go.Operand.tmp 59)
      (.region [⟨some 60,Go.Op.move (Go.Operand.tmp 7),62,none⟩,
       ⟨some 61,Go.Op.buildSlice 62 1 #[(0,Go.Operand.const (Go.Value.int Go.IntKind.i32 65533))],62,none⟩,
       ⟨some 62,Go.Op.call { callee:=Go.Callee.builtin Go.Builtin.append,args:=#[Go.Operand.tmp 60,Go.Operand.tmp 61],argTypes:=#[62,62] },62,none⟩,
       ⟨some 7,Go.Op.assign (Go.Operand.tmp 62),62,none⟩])
      .skip))
     (.seq (.region [⟨some 63,Go.Op.move (Go.Operand.tmp 11),5,none⟩,
      ⟨some 64,Go.Op.call { callee:=Go.Callee.value (Go.Operand.func 57),args:=#[Go.Operand.tmp 63],argTypes:=#[5] },97,none⟩,
      ⟨some 65,Go.Op.move (Go.Operand.tmp 10),3,none⟩,
      ⟨none,Go.Op.store 97 (Go.Operand.tmp 8) (Go.Operand.tmp 64),0,none⟩,
      ⟨some 9,Go.Op.assign (Go.Operand.tmp 65),3,none⟩])
     (.block 2
      (.seq (.region [⟨some 67,Go.Op.move (Go.Operand.tmp 11),5,none⟩,
       ⟨some 68,Go.Op.binOp Go.BinOp.lss 5 (Go.Operand.tmp 67) (Go.Operand.const (Go.Value.int Go.IntKind.u8 128)) 5,4,none⟩,
       ⟨some 66,Go.Op.assign (Go.Operand.tmp 68),4,none⟩])
      (.cond (Go.Operand.tmp 66)
       (.region [⟨some 69,Go.Op.move (Go.Operand.tmp 7),62,none⟩,
        ⟨some 70,Go.Op.move (Go.Operand.tmp 11),5,none⟩,
        ⟨some 71,Go.Op.convert 5 21 (Go.Operand.tmp 70),21,none⟩,
        ⟨some 72,Go.Op.buildSlice 62 1 #[(0,Go.Operand.tmp 71)],62,none⟩,
        ⟨some 73,Go.Op.call { callee:=Go.Callee.builtin Go.Builtin.append,args:=#[Go.Operand.tmp 69,Go.Operand.tmp 72],argTypes:=#[62,62] },62,none⟩,
        ⟨some 7,Go.Op.assign (Go.Operand.tmp 73),62,none⟩])
       (.seq (.region [⟨some 75,Go.Op.fieldAddr 97 (Go.Operand.tmp 8) 1,0,none⟩,
        ⟨some 76,Go.Op.load 3 (Go.Operand.tmp 75),3,none⟩,
        ⟨some 77,Go.Op.binOp Go.BinOp.eql 3 (Go.Operand.tmp 76) (Go.Operand.const (Go.Value.int Go.IntKind.i64 0)) 3,4,none⟩,
        ⟨some 74,Go.Op.assign (Go.Operand.tmp 77),4,none⟩])
       (.cond (Go.Operand.tmp 74)
        (.region [⟨some 78,Go.Op.move (Go.Operand.tmp 7),62,none⟩,
         ⟨some 79,Go.Op.buildSlice 62 1 #[(0,Go.Operand.const (Go.Value.int Go.IntKind.i32 65533))],62,none⟩,
         ⟨some 80,Go.Op.call { callee:=Go.Callee.builtin Go.Builtin.append,args:=#[Go.Operand.tmp 78,Go.Operand.tmp 79],argTypes:=#[62,62] },62,none⟩,
         ⟨some 7,Go.Op.assign (Go.Operand.tmp 80),62,none⟩])
        .skip)))))))))))
    (.region [⟨some 81,Go.Op.binOp Go.BinOp.add 3 (Go.Operand.tmp 17) (Go.Operand.const (Go.Value.int Go.IntKind.i64 1)) 3,3,none⟩,
     ⟨some 17,Go.Op.move (Go.Operand.tmp 81),3,none⟩])))))))
  (.seq (.seq (.region [⟨some 82,Go.Op.fieldAddr 97 (Go.Operand.tmp 8) 1,0,none⟩,
   ⟨some 83,Go.Op.load 3 (Go.Operand.tmp 82),3,none⟩,
   ⟨some 84,Go.Op.binOp Go.BinOp.eql 3 (Go.Operand.tmp 83) (Go.Operand.const (Go.Value.int Go.IntKind.i64 0)) 3,4,none⟩])
  (.cond (Go.Operand.tmp 84)
   (.seq (.region [⟨some 85,Go.Op.move (Go.Operand.tmp 7),62,none⟩,
    ⟨some 4,Go.Op.assign (Go.Operand.tmp 85),62,none⟩,
    ⟨some 5,Go.Op.assign (Go.Operand.const (Go.Value.string { data:=#[] })),9,none⟩])
   .ret)
   .skip))
  (.seq (.draw true [⟨⟨some 86,Go.Op.move (Go.Operand.tmp 7),62,none⟩,false,false,false⟩,
   ⟨⟨some 87,Go.Op.move (Go.Operand.tmp 6),9,none⟩,false,false,false⟩,
   ⟨⟨some 88,Go.Op.move (Go.Operand.tmp 9),3,none⟩,false,false,false⟩,
   ⟨⟨some 89,Go.Op.slice 9 (Go.Operand.tmp 87) (some (Go.Operand.tmp 88)) none none,9,none⟩,false,false,false⟩,
   ⟨⟨some 4,Go.Op.assign (Go.Operand.tmp 86),62,none⟩,false,false,false⟩,
   ⟨⟨some 5,Go.Op.assign (Go.Operand.tmp 89),9,none⟩,false,false,false⟩] [[],[],[],[1,2],[0],[0,1,2,3,4]])
  .ret)))))))) :=
 ⟨foll,Tryz.f32,Tryz.func32,by kernel_rfl,by kernel_rfl,by kernel_rfl,by rw [Tryz.ntmps32];decide⟩
theorem fn34:FnIs Tryz.prog 34 1 [Go.ResultVar.tmp 2] (.seq (.region [⟨some 2,Go.Op.assign (Go.Operand.const (Go.Value.slice none 0 0)),62,none⟩])
  (.seq (.region [⟨some 6,Go.Op.move (Go.Operand.tmp 0),9,none⟩,
   ⟨some 7,Go.Op.call { callee:=Go.Callee.value (Go.Operand.func 32),args:=#[Go.Operand.const (Go.Value.string { data:=#[] }),Go.Operand.tmp 6],argTypes:=#[9,9] },63,none⟩,
   ⟨some 5,Go.Op.move (Go.Operand.tmp 7),63,none⟩,
   ⟨some 8,Go.Op.extract (Go.Operand.tmp 5) 0,62,none⟩,
   ⟨some 9,Go.Op.extract (Go.Operand.tmp 5) 1,9,none⟩,
   ⟨some 3,Go.Op.assign (Go.Operand.tmp 8),62,none⟩,
   ⟨some 4,Go.Op.assign (Go.Operand.tmp 9),9,none⟩])
  (.seq (.seq (.region [⟨some 10,Go.Op.move (Go.Operand.tmp 4),9,none⟩,
   ⟨some 11,Go.Op.binOp Go.BinOp.neq 9 (Go.Operand.tmp 10) (Go.Operand.const (Go.Value.string { data:=#[] })) 9,4,none⟩])
  (.cond (Go.Operand.tmp 11)
   (.region [⟨some 12,Go.Op.move (Go.Operand.tmp 3),62,none⟩,
    ⟨some 13,Go.Op.buildSlice 62 1 #[(0,Go.Operand.const (Go.Value.int Go.IntKind.i32 65533))],62,none⟩,
    ⟨some 14,Go.Op.call { callee:=Go.Callee.builtin Go.Builtin.append,args:=#[Go.Operand.tmp 12,Go.Operand.tmp 13],argTypes:=#[62,62] },62,none⟩,
    ⟨some 3,Go.Op.assign (Go.Operand.tmp 14),62,none⟩])
   .skip))
  (.seq (.region [⟨some 15,Go.Op.move (Go.Operand.tmp 3),62,none⟩,
   ⟨some 2,Go.Op.assign (Go.Operand.tmp 15),62,none⟩])
  .ret)))) :=
 ⟨foll,Tryz.f34,Tryz.func34,by kernel_rfl,by kernel_rfl,by kernel_rfl,by rw [Tryz.ntmps34];decide⟩
theorem fn39:FnIs Tryz.prog 39 3 [Go.ResultVar.tmp 6] (.seq (.region [⟨some 3,Go.Op.box 25 (Go.Operand.tmp 0),0,none⟩,
   ⟨some 6,Go.Op.assign (Go.Operand.const (Go.Value.slice none 0 0)),71,none⟩])
  (.seq (.region [⟨some 16,Go.Op.move (Go.Operand.tmp 2),71,none⟩,
   ⟨some 17,Go.Op.call { callee:=Go.Callee.builtin Go.Builtin.len,args:=#[Go.Operand.tmp 16],argTypes:=#[71] },3,none⟩,
   ⟨some 18,Go.Op.makeSlice 71 (Go.Operand.tmp 17) (Go.Operand.tmp 17),71,none⟩,
   ⟨some 7,Go.Op.assign (Go.Operand.tmp 18),71,none⟩])
  (.seq (.seq (.region [⟨some 19,Go.Op.fieldAddr 25 (Go.Operand.tmp 3) 0,0,none⟩,
   ⟨some 20,Go.Op.load 3 (Go.Operand.tmp 19),3,none⟩])
  (.block 0
   (.seq (.region [⟨some 22,Go.Op.binOp Go.BinOp.eql 3 (Go.Operand.tmp 20) (Go.Operand.const (Go.Value.int Go.IntKind.i64 1)) 3,4,none⟩,
    ⟨some 21,Go.Op.assign (Go.Operand.tmp 22),4,none⟩])
   (.cond (Go.Operand.tmp 21)
    (.region [⟨some 23,Go.Op.move (Go.Operand.tmp 7),71,none⟩,
     ⟨some 24,Go.Op.move (Go.Operand.tmp 2),71,none⟩,
     ⟨some 25,Go.Op.call { callee:=Go.Callee.builtin Go.Builtin.copy,args:=#[Go.Operand.tmp 23,Go.Operand.tmp 24],argTypes:=#[71,71] },3,none⟩])
    (.seq (.region [⟨some 27,Go.Op.binOp Go.BinOp.eql 3 (Go.Operand.tmp 20) (Go.Operand.const (Go.Value.int Go.IntKind.i64 2)) 3,4,none⟩,
     ⟨some 26,Go.Op.assign (Go.Operand.tmp 27),4,none⟩])
    (.cond (Go.Operand.tmp 26)
     (.seq (.region [⟨some 28,Go.Op.move (Go.Operand.tmp 1),62,none⟩,
      ⟨some 29,Go.Op.call { callee:=Go.Callee.builtin Go.Builtin.len,args:=#[Go.Operand.tmp 28],argTypes:=#[62] },3,none⟩,
      ⟨some 30,Go.Op.move (Go.Operand.const (Go.Value.int Go.IntKind.i64 0)),3,none⟩])
     (.block 1
      (.loop
       (.seq (.region [⟨some 31,Go.Op.binOp Go.BinOp.lss 3 (Go.Operand.tmp 30) (Go.Operand.tmp 29) 3,0,none⟩])
       (.seq (.cond (Go.Operand.tmp 31)
        .skip
        (.exit 1))
       (.seq (.block 2
        (.seq (.region [⟨some 32,Go.Op.move (Go.Operand.tmp 30),3,none⟩,
         ⟨some 33,Go.Op.indexAddr 62 (Go.Operand.tmp 28) (Go.Operand.tmp 30),0,none⟩,
         ⟨some 34,Go.Op.load 21 (Go.Operand.tmp 33),21,none⟩,
         ⟨some 9,Go.Op.alloc 21,0,none⟩,
         ⟨some 8,Go.Op.assign (Go.Operand.tmp 32),3,none⟩,
         ⟨none,Go.Op.store 21 (Go.Operand.tmp 9) (Go.Operand.tmp 34),0,none⟩])
        (.region [⟨some 35,Go.Op.move (Go.Operand.tmp 7),71,none⟩,
         ⟨some 36,Go.Op.move (Go.Operand.tmp 8),3,none⟩,
         ⟨some 37,Go.Op.binOp Go.BinOp.add 3 (Go.Operand.tmp 36) (Go.Operand.const (Go.Value.int Go.IntKind.i64 1)) 3,3,none⟩,
         ⟨some 38,Go.Op.move (Go.Operand.tmp 2),71,none⟩,
         ⟨some 39,Go.Op.move (Go.Operand.tmp 8),3,none⟩,
         ⟨some 40,Go.Op.indexAddr 71 (Go.Operand.tmp 38) (Go.Operand.tmp 39),0,none⟩,
         ⟨some 41,Go.Op.load 4 (Go.Operand.tmp 40),4,none⟩,
         ⟨some 42,Go.Op.move (Go.Operand.tmp 41),4,none⟩,
         ⟨some 43,Go.Op.fieldAddr 25 (Go.Operand.tmp 3) 1,0,(some (42,true))⟩,
         ⟨some 44,Go.Op.load 22 (Go.Operand.tmp 43),22,(some (42,true))⟩,
         ⟨some 45,Go.Op.makeFunc (Go.Fn.func 61) #[] #[Go.Operand.tmp 9],102,(some (42,true))⟩,
         ⟨some 46,Go.Op.call { callee:=Go.Callee.value (Go.Operand.func 60),args:=#[Go.Operand.tmp 44,Go.Operand.tmp 45],argTypes:=#[22,102] },4,(some (42,true))⟩,
         ⟨some 47,Go.Op.pick (Go.Operand.tmp 42) (Go.Operand.tmp 46) (Go.Operand.const (Go.Value.bool false)),4,none⟩,
         ⟨some 48,Go.Op.indexAddr 71 (Go.Operand.tmp 35) (Go.Operand.tmp 37),0,none⟩,
         ⟨none,Go.Op.store 4 (Go.Operand.tmp 48) (Go.Operand.tmp 47),0,none⟩])))
       (.region [⟨some 49,Go.Op.binOp Go.BinOp.add 3 (Go.Operand.tmp 30) (Go.Operand.const (Go.Value.int Go.IntKind.i64 1)) 3,3,none⟩,
        ⟨some 30,Go.Op.move (Go.Operand.tmp 49),3,none⟩])))))))
     (.seq (.region [⟨some 51,Go.Op.binOp Go.BinOp.eql 3 (Go.Operand.tmp 20) (Go.Operand.const (Go.Value.int Go.IntKind.i64 3)) 3,4,none⟩,
      ⟨some 50,Go.Op.assign (Go.Operand.tmp 51),4,none⟩])
     (.cond (Go.Operand.tmp 50)
      (.seq (.region [⟨some 52,Go.Op.move (Go.Operand.tmp 7),71,none⟩,
       ⟨some 53,Go.Op.move (Go.Operand.tmp 2),71,none⟩,
       ⟨some 54,Go.Op.call { callee:=Go.Callee.builtin Go.Builtin.copy,args:=#[Go.Operand.tmp 52,Go.Operand.tmp 53],argTypes:=#[71,71] },3,none⟩])
      (.seq (.region [⟨some 55,Go.Op.fieldAddr 25 (Go.Operand.tmp 3) 2,0,none⟩,
       ⟨some 56,Go.Op.load 23 (Go.Operand.tmp 55),23,none⟩,
       ⟨some 57,Go.Op.call { callee:=Go.Callee.builtin Go.Builtin.len,args:=#[Go.Operand.tmp 56],argTypes:=#[23] },3,none⟩,
       ⟨some 58,Go.Op.move (Go.Operand.const (Go.Value.int Go.IntKind.i64 0)),3,none⟩])
      (.block 3
       (.loop
        (.seq (.region [⟨some 59,Go.Op.binOp Go.BinOp.lss 3 (Go.Operand.tmp 58) (Go.Operand.tmp 57) 3,0,none⟩])
        (.seq (.cond (Go.Operand.tmp 59)
         .skip
         (.exit 3))
        (.seq (.block 4
         (.seq (.region [⟨some 60,Go.Op.indexAddr 23 (Go.Operand.tmp 56) (Go.Operand.tmp 58),0,none⟩,
          ⟨some 61,Go.Op.load 25 (Go.Operand.tmp 60),25,none⟩,
          ⟨some 11,Go.Op.alloc 25,0,none⟩,
          ⟨none,Go.Op.store 25 (Go.Operand.tmp 11) (Go.Operand.tmp 61),0,none⟩])
         (.region [⟨some 62,Go.Op.load 25 (Go.Operand.tmp 11),25,none⟩,
          ⟨some 63,Go.Op.move (Go.Operand.tmp 1),62,none⟩,
          ⟨some 64,Go.Op.move (Go.Operand.tmp 7),71,none⟩,
          ⟨some 65,Go.Op.call { callee:=Go.Callee.value (Go.Operand.func 39),args:=#[Go.Operand.tmp 62,Go.Operand.tmp 63,Go.Operand.tmp 64],argTypes:=#[25,62,71] },71,none⟩,
          ⟨some 7,Go.Op.assign (Go.Operand.tmp 65),71,none⟩])))
        (.region [⟨some 66,Go.Op.binOp Go.BinOp.add 3 (Go.Operand.tmp 58) (Go.Operand.const (Go.Value.int Go.IntKind.i64 1)) 3,3,none⟩,
         ⟨some 58,Go.Op.move (Go.Operand.tmp 66),3,none⟩]))))))))
      (.seq (.region [⟨some 68,Go.Op.binOp Go.BinOp.eql 3 (Go.Operand.tmp 20) (Go.Operand.const (Go.Value.int Go.IntKind.i64 4)) 3,4,none⟩,
       ⟨some 67,Go.Op.assign (Go.Operand.tmp 68),4,none⟩])
      (.cond (Go.Operand.tmp 67)
       (.seq (.region [⟨some 69,Go.Op.fieldAddr 25 (Go.Operand.tmp 3) 2,0,none⟩,
        ⟨some 70,Go.Op.load 23 (Go.Operand.tmp 69),23,none⟩,
        ⟨some 71,Go.Op.call { callee:=Go.Callee.builtin Go.Builtin.len,args:=#[Go.Operand.tmp 70],argTypes:=#[23] },3,none⟩,
        ⟨some 72,Go.Op.move (Go.Operand.const (Go.Value.int Go.IntKind.i64 0)),3,none⟩])
       (.block 5
        (.loop
         (.seq (.region [⟨some 73,Go.Op.binOp Go.BinOp.lss 3 (Go.Operand.tmp 72) (Go.Operand.tmp 71) 3,0,none⟩])
         (.seq (.cond (Go.Operand.tmp 73)
          .skip
          (.exit 5))
         (.seq (.block 6
          (.seq (.region [⟨some 74,Go.Op.indexAddr 23 (Go.Operand.tmp 70) (Go.Operand.tmp 72),0,none⟩,
           ⟨some 75,Go.Op.load 25 (Go.Operand.tmp 74),25,none⟩,
           ⟨some 13,Go.Op.alloc 25,0,none⟩,
           ⟨none,Go.Op.store 25 (Go.Operand.tmp 13) (Go.Operand.tmp 75),0,none⟩])
          (.region [⟨some 76,Go.Op.move (Go.Operand.tmp 7),71,none⟩,
           ⟨some 77,Go.Op.load 25 (Go.Operand.tmp 13),25,none⟩,
           ⟨some 78,Go.Op.move (Go.Operand.tmp 1),62,none⟩,
           ⟨some 79,Go.Op.move (Go.Operand.tmp 2),71,none⟩,
           ⟨some 80,Go.Op.call { callee:=Go.Callee.value (Go.Operand.func 39),args:=#[Go.Operand.tmp 77,Go.Operand.tmp 78,Go.Operand.tmp 79],argTypes:=#[25,62,71] },71,none⟩,
           ⟨some 81,Go.Op.call { callee:=Go.Callee.value (Go.Operand.func 62),args:=#[Go.Operand.tmp 76,Go.Operand.tmp 80],argTypes:=#[71,71] },4,none⟩])))
         (.region [⟨some 82,Go.Op.binOp Go.BinOp.add 3 (Go.Operand.tmp 72) (Go.Operand.const (Go.Value.int Go.IntKind.i64 1)) 3,3,none⟩,
          ⟨some 72,Go.Op.move (Go.Operand.tmp 82),3,none⟩])))))))
       (.seq (.region [⟨some 84,Go.Op.binOp Go.BinOp.eql 3 (Go.Operand.tmp 20) (Go.Operand.const (Go.Value.int Go.IntKind.i64 5)) 3,4,none⟩,
        ⟨some 83,Go.Op.assign (Go.Operand.tmp 84),4,none⟩])
       (.cond (Go.Operand.tmp 83)
        (.seq (.region [⟨some 85,Go.Op.move (Go.Operand.tmp 2),71,none⟩,
         ⟨some 86,Go.Op.call { callee:=Go.Callee.value (Go.Operand.func 63),args:=#[Go.Operand.tmp 85],argTypes:=#[71] },71,none⟩,
         ⟨some 14,Go.Op.assign (Go.Operand.tmp 86),71,none⟩])
        (.seq (.seq (.region [⟨some 87,Go.Op.fieldAddr 25 (Go.Operand.tmp 3) 3,0,none⟩,
         ⟨some 88,Go.Op.load 3 (Go.Operand.tmp 87),3,none⟩,
         ⟨some 89,Go.Op.move (Go.Operand.const (Go.Value.int Go.IntKind.i64 0)),3,none⟩])
        (.block 7
         (.loop
          (.seq (.region [⟨some 90,Go.Op.binOp Go.BinOp.lss 3 (Go.Operand.tmp 89) (Go.Operand.tmp 88) 3,4,none⟩])
          (.seq (.cond (Go.Operand.tmp 90)
           .skip
           (.exit 7))
          (.seq (.block 8
           (.region [⟨some 91,Go.Op.fieldAddr 25 (Go.Operand.tmp 3) 2,0,none⟩,
            ⟨some 92,Go.Op.load 23 (Go.Operand.tmp 91),23,none⟩,
            ⟨some 93,Go.Op.indexAddr 23 (Go.Operand.tmp 92) (Go.Operand.const (Go.Value.int Go.IntKind.i64 0)),0,none⟩,
            ⟨some 94,Go.Op.load 25 (Go.Operand.tmp 93),25,none⟩,
            ⟨some 95,Go.Op.move (Go.Operand.tmp 1),62,none⟩,
            ⟨some 96,Go.Op.move (Go.Operand.tmp 14),71,none⟩,
            ⟨some 97,Go.Op.call { callee:=Go.Callee.value (Go.Operand.func 39),args:=#[Go.Operand.tmp 94,Go.Operand.tmp 95,Go.Operand.tmp 96],argTypes:=#[25,62,71] },71,none⟩,
            ⟨some 14,Go.Op.assign (Go.Operand.tmp 97),71,none⟩]))
          (.region [⟨some 98,Go.Op.binOp Go.BinOp.add 3 (Go.Operand.tmp 89) (Go.Operand.const (Go.Value.int Go.IntKind.i64 1)) 3,3,none⟩,
           ⟨some 89,Go.Op.move (Go.Operand.tmp 98),3,none⟩])))))))
        (.seq (.region [⟨some 99,Go.Op.move (Go.Operand.tmp 7),71,none⟩,
         ⟨some 100,Go.Op.move (Go.Operand.tmp 14),71,none⟩,
         ⟨some 101,Go.Op.call { callee:=Go.Callee.value (Go.Operand.func 62),args:=#[Go.Operand.tmp 99,Go.Operand.tmp 100],argTypes:=#[71,71] },4,none⟩])
        (.seq (.region [⟨some 102,Go.Op.fieldAddr 25 (Go.Operand.tmp 3) 3,0,none⟩,
         ⟨some 103,Go.Op.load 3 (Go.Operand.tmp 102),3,none⟩,
         ⟨some 15,Go.Op.assign (Go.Operand.tmp 103),3,none⟩])
        (.block 9
         (.loop
          (.seq (.seq (.region [⟨some 104,Go.Op.fieldAddr 25 (Go.Operand.tmp 3) 4,0,none⟩,
           ⟨some 105,Go.Op.load 3 (Go.Operand.tmp 104),3,none⟩,
           ⟨some 106,Go.Op.binOp Go.BinOp.lss 3 (Go.Operand.tmp 105) (Go.Operand.const (Go.Value.int Go.IntKind.i64 0)) 3,4,none⟩,
           ⟨some 107,Go.Op.move (Go.Operand.tmp 106),4,none⟩,
           ⟨some 108,Go.Op.move (Go.Operand.tmp 15),3,(some (107,false))⟩,
           ⟨some 109,Go.Op.fieldAddr 25 (Go.Operand.tmp 3) 4,0,(some (107,false))⟩,
           ⟨some 110,Go.Op.load 3 (Go.Operand.tmp 109),3,(some (107,false))⟩,
           ⟨some 111,Go.Op.binOp Go.BinOp.lss 3 (Go.Operand.tmp 108) (Go.Operand.tmp 110) 3,4,(some (107,false))⟩,
           ⟨some 112,Go.Op.pick (Go.Operand.tmp 107) (Go.Operand.const (Go.Value.bool true)) (Go.Operand.tmp 111),4,none⟩])
          (.cond (Go.Operand.tmp 112)
           .skip
           (.exit 9)))
          (.seq (.block 10
           (.seq (.region [⟨some 115,Go.Op.fieldAddr 25 (Go.Operand.tmp 3) 2,0,none⟩,
            ⟨some 116,Go.Op.load 23 (Go.Operand.tmp 115),23,none⟩,
            ⟨some 117,Go.Op.indexAddr 23 (Go.Operand.tmp 116) (Go.Operand.const (Go.Value.int Go.IntKind.i64 0)),0,none⟩,
            ⟨some 118,Go.Op.load 25 (Go.Operand.tmp 117),25,none⟩,
            ⟨some 119,Go.Op.move (Go.Operand.tmp 1),62,none⟩,
            ⟨some 120,Go.Op.move (Go.Operand.tmp 14),71,none⟩,
            ⟨some 121,Go.Op.call { callee:=Go.Callee.value (Go.Operand.func 39),args:=#[Go.Operand.tmp 118,Go.Operand.tmp 119,Go.Operand.tmp 120],argTypes:=#[25,62,71] },71,none⟩,
            ⟨some 14,Go.Op.assign (Go.Operand.tmp 121),71,none⟩])
           (.seq (.region [⟨some 122,Go.Op.move (Go.Operand.tmp 7),71,none⟩,
            ⟨some 123,Go.Op.move (Go.Operand.tmp 14),71,none⟩,
            ⟨some 124,Go.Op.call { callee:=Go.Callee.value (Go.Operand.func 62),args:=#[Go.Operand.tmp 122,Go.Operand.tmp 123],argTypes:=#[71,71] },4,none⟩,
            ⟨some 125,Go.Op.unOp Go.UnOp.not 4 (Go.Operand.tmp 124),4,none⟩])
           (.cond (Go.Operand.tmp 125)
            (.exit 9)
            .skip))))
          (.region [⟨some 113,Go.Op.move (Go.Operand.tmp 15),3,none⟩,
           ⟨some 114,Go.Op.binOp Go.BinOp.add 3 (Go.Operand.tmp 113) (Go.Operand.const (Go.Value.int Go.IntKind.i64 1)) 3,3,none⟩,
           ⟨some 15,Go.Op.assign (Go.Operand.tmp 114),3,none⟩])))))))))
        .skip))))))))))))
  (.seq (.region [⟨some 126,Go.Op.move (Go.Operand.tmp 7),71,none⟩,
   ⟨some 6,Go.Op.assign (Go.Operand.tmp 126),71,none⟩])
  .ret)))) :=
 ⟨foll,Tryz.f39,Tryz.func39,by kernel_rfl,by kernel_rfl,by kernel_rfl,by rw [Tryz.ntmps39];decide⟩
theorem fn57:FnIs Tryz.prog 57 1 [Go.ResultVar.cell 2 97] (.seq (.region [⟨some 2,Go.Op.alloc 97,0,none⟩])
  (.seq (.region [⟨some 4,Go.Op.build 97 #[(2,Go.Operand.const (Go.Value.int Go.IntKind.u8 128)),(3,Go.Operand.const (Go.Value.int Go.IntKind.u8 191))],97,none⟩,
   ⟨some 3,Go.Op.alloc 97,0,none⟩,
   ⟨none,Go.Op.store 97 (Go.Operand.tmp 3) (Go.Operand.tmp 4),0,none⟩])
  (.seq (.block 0
   (.seq (.region [⟨some 6,Go.Op.move (Go.Operand.tmp 0),5,none⟩,
    ⟨some 7,Go.Op.binOp Go.BinOp.geq 5 (Go.Operand.tmp 6) (Go.Operand.const (Go.Value.int Go.IntKind.u8 194)) 5,4,none⟩,
    ⟨some 8,Go.Op.move (Go.Operand.tmp 7),4,none⟩,
    ⟨some 9,Go.Op.move (Go.Operand.tmp 0),5,(some (8,true))⟩,
    ⟨some 10,Go.Op.binOp Go.BinOp.leq 5 (Go.Operand.tmp 9) (Go.Operand.const (Go.Value.int Go.IntKind.u8 223)) 5,4,(some (8,true))⟩,
    ⟨some 11,Go.Op.pick (Go.Operand.tmp 8) (Go.Operand.tmp 10) (Go.Operand.const (Go.Value.bool false)),4,none⟩,
    ⟨some 5,Go.Op.assign (Go.Operand.tmp 11),4,none⟩])
   (.cond (Go.Operand.tmp 5)
    (.region [⟨some 12,Go.Op.move (Go.Operand.tmp 0),5,none⟩,
     ⟨some 13,Go.Op.binOp Go.BinOp.and 5 (Go.Operand.tmp 12) (Go.Operand.const (Go.Value.int Go.IntKind.u8 31)) 5,5,none⟩,
     ⟨some 14,Go.Op.convert 5 21 (Go.Operand.tmp 13),21,none⟩,
     ⟨some 15,Go.Op.fieldAddr 97 (Go.Operand.tmp 3) 0,0,none⟩,
     ⟨none,Go.Op.store 21 (Go.Operand.tmp 15) (Go.Operand.tmp 14),0,none⟩,
     ⟨some 16,Go.Op.fieldAddr 97 (Go.Operand.tmp 3) 1,0,none⟩,
     ⟨none,Go.Op.store 3 (Go.Operand.tmp 16) (Go.Operand.const (Go.Value.int Go.IntKind.i64 1)),0,none⟩])
    (.seq (.region [⟨some 18,Go.Op.move (Go.Operand.tmp 0),5,none⟩,
     ⟨some 19,Go.Op.binOp Go.BinOp.geq 5 (Go.Operand.tmp 18) (Go.Operand.const (Go.Value.int Go.IntKind.u8 224)) 5,4,none⟩,
     ⟨some 20,Go.Op.move (Go.Operand.tmp 19),4,none⟩,
     ⟨some 21,Go.Op.move (Go.Operand.tmp 0),5,(some (20,true))⟩,
     ⟨some 22,Go.Op.binOp Go.BinOp.leq 5 (Go.Operand.tmp 21) (Go.Operand.const (Go.Value.int Go.IntKind.u8 239)) 5,4,(some (20,true))⟩,
     ⟨some 23,Go.Op.pick (Go.Operand.tmp 20) (Go.Operand.tmp 22) (Go.Operand.const (Go.Value.bool false)),4,none⟩,
     ⟨some 17,Go.Op.assign (Go.Operand.tmp 23),4,none⟩])
    (.cond (Go.Operand.tmp 17)
     (.region [⟨some 24,Go.Op.move (Go.Operand.tmp 0),5,none⟩,
      ⟨some 25,Go.Op.binOp Go.BinOp.and 5 (Go.Operand.tmp 24) (Go.Operand.const (Go.Value.int Go.IntKind.u8 15)) 5,5,none⟩,
      ⟨some 26,Go.Op.convert 5 21 (Go.Operand.tmp 25),21,none⟩,
      ⟨some 27,Go.Op.fieldAddr 97 (Go.Operand.tmp 3) 0,0,none⟩,
      ⟨none,Go.Op.store 21 (Go.Operand.tmp 27) (Go.Operand.tmp 26),0,none⟩,
      ⟨some 28,Go.Op.fieldAddr 97 (Go.Operand.tmp 3) 1,0,none⟩,
      ⟨none,Go.Op.store 3 (Go.Operand.tmp 28) (Go.Operand.const (Go.Value.int Go.IntKind.i64 2)),0,none⟩])
     (.seq (.region [⟨some 30,Go.Op.move (Go.Operand.tmp 0),5,none⟩,
      ⟨some 31,Go.Op.binOp Go.BinOp.geq 5 (Go.Operand.tmp 30) (Go.Operand.const (Go.Value.int Go.IntKind.u8 240)) 5,4,none⟩,
      ⟨some 32,Go.Op.move (Go.Operand.tmp 31),4,none⟩,
      ⟨some 33,Go.Op.move (Go.Operand.tmp 0),5,(some (32,true))⟩,
      ⟨some 34,Go.Op.binOp Go.BinOp.leq 5 (Go.Operand.tmp 33) (Go.Operand.const (Go.Value.int Go.IntKind.u8 244)) 5,4,(some (32,true))⟩,
      ⟨some 35,Go.Op.pick (Go.Operand.tmp 32) (Go.Operand.tmp 34) (Go.Operand.const (Go.Value.bool false)),4,none⟩,
      ⟨some 29,Go.Op.assign (Go.Operand.tmp 35),4,none⟩])
     (.cond (Go.Operand.tmp 29)
      (.region [⟨some 36,Go.Op.move (Go.Operand.tmp 0),5,none⟩,
       ⟨some 37,Go.Op.binOp Go.BinOp.and 5 (Go.Operand.tmp 36) (Go.Operand.const (Go.Value.int Go.IntKind.u8 7)) 5,5,none⟩,
       ⟨some 38,Go.Op.convert 5 21 (Go.Operand.tmp 37),21,none⟩,
       ⟨some 39,Go.Op.fieldAddr 97 (Go.Operand.tmp 3) 0,0,none⟩,
       ⟨none,Go.Op.store 21 (Go.Operand.tmp 39) (Go.Operand.tmp 38),0,none⟩,
       ⟨some 40,Go.Op.fieldAddr 97 (Go.Operand.tmp 3) 1,0,none⟩,
       ⟨none,Go.Op.store 3 (Go.Operand.tmp 40) (Go.Operand.const (Go.Value.int Go.IntKind.i64 3)),0,none⟩])
      .skip)))))))
  (.seq (.seq (.region [⟨some 41,Go.Op.move (Go.Operand.tmp 0),5,none⟩])
  (.block 1
   (.seq (.region [⟨some 43,Go.Op.binOp Go.BinOp.eql 5 (Go.Operand.tmp 41) (Go.Operand.const (Go.Value.int Go.IntKind.u8 224)) 5,4,none⟩,
    ⟨some 42,Go.Op.assign (Go.Operand.tmp 43),4,none⟩])
   (.cond (Go.Operand.tmp 42)
    (.region [⟨some 44,Go.Op.fieldAddr 97 (Go.Operand.tmp 3) 2,0,none⟩,
     ⟨none,Go.Op.store 5 (Go.Operand.tmp 44) (Go.Operand.const (Go.Value.int Go.IntKind.u8 160)),0,none⟩])
    (.seq (.region [⟨some 46,Go.Op.binOp Go.BinOp.eql 5 (Go.Operand.tmp 41) (Go.Operand.const (Go.Value.int Go.IntKind.u8 237)) 5,4,none⟩,
     ⟨some 45,Go.Op.assign (Go.Operand.tmp 46),4,none⟩])
    (.cond (Go.Operand.tmp 45)
     (.region [⟨some 47,Go.Op.fieldAddr 97 (Go.Operand.tmp 3) 3,0,none⟩,
      ⟨none,Go.Op.store 5 (Go.Operand.tmp 47) (Go.Operand.const (Go.Value.int Go.IntKind.u8 159)),0,none⟩])
     (.seq (.region [⟨some 49,Go.Op.binOp Go.BinOp.eql 5 (Go.Operand.tmp 41) (Go.Operand.const (Go.Value.int Go.IntKind.u8 240)) 5,4,none⟩,
      ⟨some 48,Go.Op.assign (Go.Operand.tmp 49),4,none⟩])
     (.cond (Go.Operand.tmp 48)
      (.region [⟨some 50,Go.Op.fieldAddr 97 (Go.Operand.tmp 3) 2,0,none⟩,
       ⟨none,Go.Op.store 5 (Go.Operand.tmp 50) (Go.Operand.const (Go.Value.int Go.IntKind.u8 144)),0,none⟩])
      (.seq (.region [⟨some 52,Go.Op.binOp Go.BinOp.eql 5 (Go.Operand.tmp 41) (Go.Operand.const (Go.Value.int Go.IntKind.u8 244)) 5,4,none⟩,
       ⟨some 51,Go.Op.assign (Go.Operand.tmp 52),4,none⟩])
      (.cond (Go.Operand.tmp 51)
       (.region [⟨some 53,Go.Op.fieldAddr 97 (Go.Operand.tmp 3) 3,0,none⟩,
        ⟨none,Go.Op.store 5 (Go.Operand.tmp 53) (Go.Operand.const (Go.Value.int Go.IntKind.u8 143)),0,none⟩])
       .skip))))))))))
  (.seq (.region [⟨some 54,Go.Op.load 97 (Go.Operand.tmp 3),97,none⟩,
   ⟨none,Go.Op.store 97 (Go.Operand.tmp 2) (Go.Operand.tmp 54),0,none⟩])
  .ret))))) :=
 ⟨foll,Tryz.f57,Tryz.func57,by kernel_rfl,by kernel_rfl,by kernel_rfl,by rw [Tryz.ntmps57];decide⟩
theorem fn60:FnIs Tryz.prog 60 2 [Go.ResultVar.tmp 4] (.seq (.region [⟨some 4,Go.Op.assign (Go.Operand.const (Go.Value.bool false)),4,none⟩])
  (.seq (.region [⟨some 5,Go.Op.move (Go.Operand.tmp 0),22,none⟩,
   ⟨some 6,Go.Op.move (Go.Operand.tmp 1),102,none⟩,
   ⟨some 7,Go.Op.call { callee:=Go.Callee.value (Go.Operand.func 79),args:=#[Go.Operand.tmp 5,Go.Operand.tmp 6],argTypes:=#[22,102] },3,none⟩,
   ⟨some 8,Go.Op.binOp Go.BinOp.geq 3 (Go.Operand.tmp 7) (Go.Operand.const (Go.Value.int Go.IntKind.i64 0)) 3,4,none⟩,
   ⟨some 4,Go.Op.assign (Go.Operand.tmp 8),4,none⟩])
  .ret)) :=
 ⟨foll,Tryz.f60,Tryz.func60,by kernel_rfl,by kernel_rfl,by kernel_rfl,by rw [Tryz.ntmps60];decide⟩
theorem fn61:FnIs Tryz.prog 61 2 [Go.ResultVar.tmp 3] (.seq (.region [⟨some 2,Go.Op.box 57 (Go.Operand.tmp 0),0,none⟩,
   ⟨some 3,Go.Op.assign (Go.Operand.const (Go.Value.bool false)),4,none⟩])
  (.seq (.region [⟨some 4,Go.Op.load 21 (Go.Operand.tmp 1),21,none⟩,
   ⟨some 5,Go.Op.fieldAddr 57 (Go.Operand.tmp 2) 0,0,none⟩,
   ⟨some 6,Go.Op.load 21 (Go.Operand.tmp 5),21,none⟩,
   ⟨some 7,Go.Op.binOp Go.BinOp.geq 21 (Go.Operand.tmp 4) (Go.Operand.tmp 6) 21,4,none⟩,
   ⟨some 8,Go.Op.move (Go.Operand.tmp 7),4,none⟩,
   ⟨some 9,Go.Op.load 21 (Go.Operand.tmp 1),21,(some (8,true))⟩,
   ⟨some 10,Go.Op.fieldAddr 57 (Go.Operand.tmp 2) 1,0,(some (8,true))⟩,
   ⟨some 11,Go.Op.load 21 (Go.Operand.tmp 10),21,(some (8,true))⟩,
   ⟨some 12,Go.Op.binOp Go.BinOp.leq 21 (Go.Operand.tmp 9) (Go.Operand.tmp 11) 21,4,(some (8,true))⟩,
   ⟨some 13,Go.Op.pick (Go.Operand.tmp 8) (Go.Operand.tmp 12) (Go.Operand.const (Go.Value.bool false)),4,none⟩,
   ⟨some 3,Go.Op.assign (Go.Operand.tmp 13),4,none⟩])
  .ret)) :=
 ⟨foll,Tryz.f61,Tryz.func61,by kernel_rfl,by kernel_rfl,by kernel_rfl,by rw [Tryz.ntmps61];decide⟩
theorem fn62:FnIs Tryz.prog 62 2 [Go.ResultVar.tmp 4] (.seq (.region [⟨some 4,Go.Op.assign (Go.Operand.const (Go.Value.bool false)),4,none⟩])
  (.seq (.region [⟨some 5,Go.Op.assign (Go.Operand.const (Go.Value.bool false)),4,none⟩])
  (.seq (.seq (.region [⟨some 8,Go.Op.move (Go.Operand.tmp 1),71,none⟩,
   ⟨some 9,Go.Op.call { callee:=Go.Callee.builtin Go.Builtin.len,args:=#[Go.Operand.tmp 8],argTypes:=#[71] },3,none⟩,
   ⟨some 10,Go.Op.move (Go.Operand.const (Go.Value.int Go.IntKind.i64 0)),3,none⟩])
  (.block 0
   (.loop
    (.seq (.region [⟨some 11,Go.Op.binOp Go.BinOp.lss 3 (Go.Operand.tmp 10) (Go.Operand.tmp 9) 3,0,none⟩])
    (.seq (.cond (Go.Operand.tmp 11)
     .skip
     (.exit 0))
    (.seq (.block 1
     (.seq (.region [⟨some 12,Go.Op.move (Go.Operand.tmp 10),3,none⟩,
      ⟨some 13,Go.Op.indexAddr 71 (Go.Operand.tmp 8) (Go.Operand.tmp 10),0,none⟩,
      ⟨some 14,Go.Op.load 4 (Go.Operand.tmp 13),4,none⟩,
      ⟨some 6,Go.Op.assign (Go.Operand.tmp 12),3,none⟩,
      ⟨some 7,Go.Op.assign (Go.Operand.tmp 14),4,none⟩])
     (.seq (.region [⟨some 15,Go.Op.move (Go.Operand.tmp 7),4,none⟩,
      ⟨some 16,Go.Op.move (Go.Operand.tmp 15),4,none⟩,
      ⟨some 17,Go.Op.move (Go.Operand.tmp 0),71,(some (16,true))⟩,
      ⟨some 18,Go.Op.move (Go.Operand.tmp 6),3,(some (16,true))⟩,
      ⟨some 19,Go.Op.indexAddr 71 (Go.Operand.tmp 17) (Go.Operand.tmp 18),0,(some (16,true))⟩,
      ⟨some 20,Go.Op.load 4 (Go.Operand.tmp 19),4,(some (16,true))⟩,
      ⟨some 21,Go.Op.unOp Go.UnOp.not 4 (Go.Operand.tmp 20),4,(some (16,true))⟩,
      ⟨some 22,Go.Op.pick (Go.Operand.tmp 16) (Go.Operand.tmp 21) (Go.Operand.const (Go.Value.bool false)),4,none⟩])
     (.cond (Go.Operand.tmp 22)
      (.region [⟨some 23,Go.Op.move (Go.Operand.tmp 0),71,none⟩,
       ⟨some 24,Go.Op.move (Go.Operand.tmp 6),3,none⟩,
       ⟨some 25,Go.Op.indexAddr 71 (Go.Operand.tmp 23) (Go.Operand.tmp 24),0,none⟩,
       ⟨none,Go.Op.store 4 (Go.Operand.tmp 25) (Go.Operand.const (Go.Value.bool true)),0,none⟩,
       ⟨some 5,Go.Op.assign (Go.Operand.const (Go.Value.bool true)),4,none⟩])
      .skip))))
    (.region [⟨some 26,Go.Op.binOp Go.BinOp.add 3 (Go.Operand.tmp 10) (Go.Operand.const (Go.Value.int Go.IntKind.i64 1)) 3,3,none⟩,
     ⟨some 10,Go.Op.move (Go.Operand.tmp 26),3,none⟩])))))))
  (.seq (.region [⟨some 27,Go.Op.move (Go.Operand.tmp 5),4,none⟩,
   ⟨some 4,Go.Op.assign (Go.Operand.tmp 27),4,none⟩])
  .ret)))) :=
 ⟨foll,Tryz.f62,Tryz.func62,by kernel_rfl,by kernel_rfl,by kernel_rfl,by rw [Tryz.ntmps62];decide⟩
theorem fn63:FnIs Tryz.prog 63 1 [Go.ResultVar.tmp 2] (.seq (.region [⟨some 2,Go.Op.assign (Go.Operand.const (Go.Value.slice none 0 0)),71,none⟩])
  (.seq (.seq (.region [⟨some 3,Go.Op.move (Go.Operand.tmp 0),71,none⟩,
   ⟨some 4,Go.Op.binOp Go.BinOp.eql 71 (Go.Operand.tmp 3) (Go.Operand.const (Go.Value.slice none 0 0)) 71,4,none⟩])
  (.cond (Go.Operand.tmp 4)
   (.seq (.region [⟨some 2,Go.Op.assign (Go.Operand.const (Go.Value.slice none 0 0)),71,none⟩])
   .ret)
   .skip))
  (.seq (.region [⟨some 5,Go.Op.buildSlice 71 0 #[],71,none⟩,
   ⟨some 6,Go.Op.move (Go.Operand.tmp 0),71,none⟩,
   ⟨some 7,Go.Op.call { callee:=Go.Callee.builtin Go.Builtin.append,args:=#[Go.Operand.tmp 5,Go.Operand.tmp 6],argTypes:=#[71,71] },71,none⟩,
   ⟨some 2,Go.Op.assign (Go.Operand.tmp 7),71,none⟩])
  .ret))) :=
 ⟨foll,Tryz.f63,Tryz.func63,by kernel_rfl,by kernel_rfl,by kernel_rfl,by rw [Tryz.ntmps63];decide⟩
theorem fn79:FnIs Tryz.prog 79 2 [Go.ResultVar.tmp 4] (.seq (.region [⟨some 4,Go.Op.assign (Go.Operand.const (Go.Value.int Go.IntKind.i64 0)),3,none⟩])
  (.seq (.seq (.region [⟨some 6,Go.Op.move (Go.Operand.tmp 0),22,none⟩,
   ⟨some 7,Go.Op.call { callee:=Go.Callee.builtin Go.Builtin.len,args:=#[Go.Operand.tmp 6],argTypes:=#[22] },3,none⟩,
   ⟨some 8,Go.Op.move (Go.Operand.const (Go.Value.int Go.IntKind.i64 0)),3,none⟩])
  (.block 0
   (.loop
    (.seq (.region [⟨some 9,Go.Op.binOp Go.BinOp.lss 3 (Go.Operand.tmp 8) (Go.Operand.tmp 7) 3,0,none⟩])
    (.seq (.cond (Go.Operand.tmp 9)
     .skip
     (.exit 0))
    (.seq (.block 1
     (.seq (.region [⟨some 10,Go.Op.move (Go.Operand.tmp 8),3,none⟩,
      ⟨some 5,Go.Op.assign (Go.Operand.tmp 10),3,none⟩])
     (.seq (.region [⟨some 11,Go.Op.move (Go.Operand.tmp 1),102,none⟩,
      ⟨some 12,Go.Op.move (Go.Operand.tmp 0),22,none⟩,
      ⟨some 13,Go.Op.move (Go.Operand.tmp 5),3,none⟩,
      ⟨some 14,Go.Op.indexAddr 22 (Go.Operand.tmp 12) (Go.Operand.tmp 13),0,none⟩,
      ⟨some 15,Go.Op.load 57 (Go.Operand.tmp 14),57,none⟩,
      ⟨some 16,Go.Op.call { callee:=Go.Callee.value (Go.Operand.tmp 11),args:=#[Go.Operand.tmp 15],argTypes:=#[57] },4,none⟩])
     (.cond (Go.Operand.tmp 16)
      (.seq (.region [⟨some 17,Go.Op.move (Go.Operand.tmp 5),3,none⟩,
       ⟨some 4,Go.Op.assign (Go.Operand.tmp 17),3,none⟩])
      .ret)
      .skip))))
    (.region [⟨some 18,Go.Op.binOp Go.BinOp.add 3 (Go.Operand.tmp 8) (Go.Operand.const (Go.Value.int Go.IntKind.i64 1)) 3,3,none⟩,
     ⟨some 8,Go.Op.move (Go.Operand.tmp 18),3,none⟩])))))))
  (.seq (.region [⟨some 4,Go.Op.assign (Go.Operand.const (Go.Value.int Go.IntKind.i64 (-1))),3,none⟩])
  .ret))) :=
 ⟨foll,Tryz.f79,Tryz.func79,by kernel_rfl,by kernel_rfl,by kernel_rfl,by rw [Tryz.ntmps79];decide⟩
end Go.Proofs.YtngdkenddfdhaaaGreatDoor
set_option linter.unusedVariables false
set_option linter.unusedSimpArgs false
set_option maxRecDepth 100000
namespace Go.Proofs.YtngdkenddfdhaaaGreatDoor
open Go Nv Pat
def inB (c:Int) (r:Int × Int):Bool:=decide (c ≥ r.1) && decide (c≤r.2)
def rgA (r:Int × Int):AV:=.agg [.d (.int .i32 r.1),.d (.int .i32 r.2)]
theorem in48 (r:Int × Int) (c:Int) (b:Nat) (σ:Nv.ST) (hb:b<σ.length) (hc:stGet σ b=.box 21 [.d (.int .i32 c)]) :
  RCall Tryz.prog 61 [rgA r,.ptr b 0] σ fun v σ'=>v=.d (.bool (inB c r))∧∃ τ,σ'=σ++τ:=by
 refine fn61.rel noHint (Nat.le_refl _) ?_
 have hc':stGet (σ++[.box 57 [.d (.int .i32 r.1),.d (.int .i32 r.2)]]) b=.box 21 [.d (.int .i32 c)]:=by rw [stGet_left _ _ _ hb,hc]
 simp (disch:=omega) only [go_sem,rgA,hc']
 by_cases h:c ≥ r.1
 ·simp (disch:=omega) only [go_sem,h,hc',inB]
  exact ⟨_,rfl,rfl,_,rfl⟩
 ·simp (disch:=omega) only [go_sem,h,hc',inB]
  exact ⟨_,rfl,rfl,_,rfl⟩
def inS (s:List (Int × Int)) (c:Int):Bool:=s.any (inB c)
theorem index68 (s:List (Int × Int)) (hs:s.length≤1000000) (c:Int) (b:Nat) (σ:Nv.ST) (hb:b<σ.length) (hc:stGet σ b=.box 21 [.d (.int .i32 c)]) :
  RCall Tryz.prog 79 [.d (setD s),.func (.func 61) [] [.ptr b 0]] σ fun v σ'=>(∃ z:Int,v=.d (.int .i64 z)∧decide (z ≥ 0)=inS s c)∧∃ τ,σ'=σ++τ:=by
 refine fn79.rel noHint (Nat.le_refl _) ?_
 simp (disch:=omega) only [go_sem,setD]
 refine wL_ind (fun (k:Nat) fr σ'=>k≤s.length∧fr 0=.d (.list 2 (s.map rgD))∧fr 1=.func (.func 61) [] [.ptr b 0]∧fr 7=.d (.int .i64 s.length)∧fr 8=.d (.int .i64 k)∧(∃ τ,σ'=σ++τ)∧inS (s.drop k) c=inS s c) (fun k=>s.length - k) ?_ 0 ?_
 ·rintro k fr σ' ⟨hk,f0,f1,f7,f8,⟨τ,rfl⟩,hi⟩ ih
  by_cases hlt:k<s.length
  ·obtain ⟨r,hr⟩:∃ r,r=s.getD k default:=⟨_,rfl⟩
   have hd:s.drop k=r::s.drop (k+1):=by rw [hr];exact drop_getD s k hlt
   rw [hd] at hi
   simp (disch:=omega) only [go_sem,f0,f1,f7,f8,hlt,rgD,← hr]
   refine (in48 r c b (σ++τ) (by rw [List.length_append];omega) (by rw [stGet_left _ _ _ hb,hc])).at ?_
   rintro v σ' ⟨rfl,τ',rfl⟩
   by_cases h:inB c r=true
   ·have e:inS s c=true:=by rw [← hi];simp [inS,h]
    simp (disch:=omega) only [go_sem,h]
    refine ⟨_,rfl,⟨_,rfl,?_⟩,τ++τ',by rw [List.append_assoc]⟩
    rw [e];simp
   ·have e:inS (s.drop (k+1)) c=inS s c:=by rw [← hi];simp [inS,h]
    simp (disch:=omega) only [go_sem,h,f8]
    refine ih (k+1) _ _ (by omega) ⟨by omega,?_,?_,?_,?_,⟨τ++τ',by rw [List.append_assoc]⟩,e⟩
    ·simp (disch:=omega) only [go_sem,f0]
    ·simp (disch:=omega) only [go_sem,f1]
    ·simp (disch:=omega) only [go_sem,f7]
    ·simp (disch:=omega) only [go_sem]
  ·rw [List.drop_of_length_le (by omega)] at hi
   simp (disch:=omega) only [go_sem,f0,f1,f7,f8,hlt]
   exact ⟨_,rfl,⟨_,rfl,by rw [← hi];rfl⟩,τ,rfl⟩
 ·refine ⟨by omega,?_,?_,?_,?_,⟨[],by simp⟩,rfl⟩
  ·simp (disch:=omega) only [go_sem]
  ·simp (disch:=omega) only [go_sem]
  ·simp (disch:=omega) only [go_sem]
  ·simp (disch:=omega) only [go_sem]
theorem contains47 (s:List (Int × Int)) (hs:s.length≤1000000) (c:Int) (b:Nat) (σ:Nv.ST) (hb:b<σ.length) (hc:stGet σ b=.box 21 [.d (.int .i32 c)]) :
  RCall Tryz.prog 60 [.d (setD s),.func (.func 61) [] [.ptr b 0]] σ fun v σ'=>v=.d (.bool (inS s c))∧∃ τ,σ'=σ++τ:=by
 refine fn60.rel noHint (Nat.le_refl _) ?_
 simp (disch:=omega) only [go_sem]
 refine (index68 s hs c b σ hb hc).at ?_
 rintro v σ' ⟨⟨z,rfl,hz⟩,τ,rfl⟩
 simp (disch:=omega) only [go_sem,hz]
 exact ⟨_,rfl,rfl,_,rfl⟩
end Go.Proofs.YtngdkenddfdhaaaGreatDoor
set_option linter.unusedVariables false
set_option linter.unusedSimpArgs false
set_option maxRecDepth 100000
namespace Go.Proofs.YtngdkenddfdhaaaGreatDoor
open Go Nv Pat
def boolsD (l:List Bool):List DV:=l.map DV.bool
@[go_sem] theorem boolsD_length (l:List Bool):(boolsD l).length=l.length:=nrfl (by simp [boolsD])
theorem boolsD_get (l:List Bool) (k:Nat) (h:k<l.length):(boolsD l).getD k default=.bool (l.getD k false):=by
 simp [boolsD,List.getD_eq_getElem?_getD,h]
def orL:List Bool→List Bool→List Bool
 | a::A,b::B=>(a || b)::orL A B
 | A,_=>A
def grown:List Bool→List Bool→Bool
 | a::A,b::B=>(b && !a) || grown A B
 | _,_=>false
theorem orL_length:∀ A B:List Bool,(orL A B).length=A.length
 | [],B=>by simp [orL]
 | a::A,[]=>by simp [orL]
 | a::A,b::B=>by simp [orL,orL_length A B]
def cur (A B:List Bool) (k:Nat):List Bool:=orL (A.take k) (B.take k)++A.drop k
theorem cur_length (A B:List Bool) (k:Nat):(cur A B k).length=A.length:=by simp [cur,orL_length];omega
theorem cur_get (A B:List Bool) (k:Nat) (h:k<A.length):(cur A B k).getD k false=A.getD k false:=by
 have hl:(orL (A.take k) (B.take k)).length=k:=by rw [orL_length,List.length_take];omega
 rw [cur,List.getD_eq_getElem?_getD,List.getElem?_append_right (by omega),hl,Nat.sub_self,List.getElem?_drop,Nat.add_zero,List.getD_eq_getElem?_getD]
theorem orL_snoc:∀ (A B:List Bool) (a b:Bool),A.length=B.length→orL (A++[a]) (B++[b])=orL A B++[a || b]
 | [],[],a,b,_=>rfl
 | x::A,y::B,a,b,h=>by simp only [List.cons_append,orL,orL_snoc A B a b (by simpa using h)]
theorem grown_snoc:∀ (A B:List Bool) (a b:Bool),A.length=B.length→grown (A++[a]) (B++[b])=(grown A B || (b && !a))
 | [],[],a,b,_=>by simp [grown]
 | x::A,y::B,a,b,h=>by simp only [List.cons_append,grown,grown_snoc A B a b (by simpa using h),Bool.or_assoc]
theorem take_snoc (l:List Bool) (k:Nat) (h:k<l.length):l.take (k+1)=l.take k++[l.getD k false]:=by
 rw [List.take_succ_eq_append_getElem h];simp [List.getD_eq_getElem?_getD,h]
theorem cur_succ (A B:List Bool) (k:Nat) (h:k<A.length) (hl:A.length=B.length):cur A B (k+1)=(cur A B k).set k (A.getD k false || B.getD k false):=by
 have hol:(orL (A.take k) (B.take k)).length=k:=by rw [orL_length,List.length_take];omega
 have hd:A.drop k=A.getD k false::A.drop (k+1):=by
  rw [List.drop_eq_getElem_cons h];simp [List.getD_eq_getElem?_getD,h]
 rw [cur,take_snoc A k h,take_snoc B k (by omega),orL_snoc _ _ _ _ (by simp;omega),cur,List.set_append_right _ _ (by omega),hol,Nat.sub_self,hd,List.set_cons_zero]
 simp
theorem cur_same (A B:List Bool) (k:Nat) (h:k<A.length) (hl:A.length=B.length) (he:(A.getD k false || B.getD k false)=A.getD k false):cur A B (k+1)=cur A B k:=by
 rw [cur_succ A B k h hl,he,← cur_get A B k h,List.getD_eq_getElem?_getD,List.getElem?_eq_getElem (by rw [cur_length];exact h)]
 simp
theorem boolsD_set (l:List Bool) (k:Nat) (b:Bool):(boolsD l).set k (.bool b)=boolsD (l.set k b):=by simp [boolsD,List.map_set]
theorem union49 (A B:List Bool) (hl:A.length=B.length) (hA:A.length≤1000000) (x:Blk) (g n:Nat) (hn:n=A.length) (rest:Nv.ST) :
  RCall Tryz.prog 62 [.own 1 g 0 n,.d (.list 1 (boolsD B))] (x::.arr g ⟨1,4⟩ (boolsD A)::rest) fun v σ'=>v=.d (.bool (grown A B))∧σ'=x::.arr g ⟨1,4⟩ (boolsD (orL A B))::rest:=by
 refine fn62.rel noHint (Nat.le_refl _) ?_
 simp (disch:=omega) only [go_sem]
 refine wL_ind (fun (k:Nat) fr σ'=>k≤A.length∧fr 0=.own 1 g 0 n∧fr 5=.d (.bool (grown (A.take k) (B.take k)))∧fr 8=.d (.list 1 (boolsD B))∧fr 9=.d (.int .i64 B.length)∧fr 10=.d (.int .i64 k) ∧
  σ'=x::.arr g ⟨1,4⟩ (boolsD (cur A B k))::rest) (fun k=>A.length - k) ?_ 0 ?_
 ·rintro k fr σ' ⟨hk,f0,f5,f8,f9,f10,rfl⟩ ih
  by_cases hlt:k<A.length
  ·have hlt':k<B.length:=by omega
   have e1:=boolsD_get B k hlt'
   have e2:=boolsD_get (cur A B k) k (by rw [cur_length];exact hlt)
   rw [cur_get A B k hlt] at e2
   have eg:grown (A.take (k+1)) (B.take (k+1))=(grown (A.take k) (B.take k) || (B.getD k false && !A.getD k false)):=by
    rw [take_snoc A k hlt,take_snoc B k hlt',grown_snoc _ _ _ _ (by simp;omega)]
   have e3:=cur_length A B k
   cases hb:B.getD k false
   ·have ec:=cur_same A B k hlt hl (by rw [hb];simp)
    simp (disch:=omega) only [go_sem,Nat.zero_add,f0,f5,f8,f9,f10,hlt',e1,hn,hb]
    refine ih (k+1) _ _ (by omega) ⟨by omega,?_,?_,?_,?_,?_,?_⟩
    ·simp (disch:=omega) only [go_sem,f0,hn]
    ·rw [eg,hb];simp (disch:=omega) only [go_sem,f5]
    ·simp (disch:=omega) only [go_sem,f8]
    ·simp (disch:=omega) only [go_sem,f9]
    ·simp (disch:=omega) only [go_sem]
    ·rw [ec]
   ·cases ha:A.getD k false
    ·have ec:=cur_succ A B k hlt hl
     rw [ha,hb] at ec
     simp (disch:=omega) only [go_sem,Nat.zero_add,f0,f5,f8,f9,f10,hlt,hlt',e1,e2,e3,hn,hb,ha]
     refine ih (k+1) _ _ (by omega) ⟨by omega,?_,?_,?_,?_,?_,?_⟩
     rotate_right 1
     ·rw [ec,← boolsD_set];rfl
     ·simp (disch:=omega) only [go_sem,f0,hn]
     ·rw [eg,hb,ha];simp (disch:=omega) only [go_sem,f5]
     ·simp (disch:=omega) only [go_sem,f8]
     ·simp (disch:=omega) only [go_sem,f9]
     ·simp (disch:=omega) only [go_sem]
    ·have ec:=cur_same A B k hlt hl (by rw [hb,ha];rfl)
     simp (disch:=omega) only [go_sem,Nat.zero_add,f0,f5,f8,f9,f10,hlt,hlt',e1,e2,e3,hn,hb,ha]
     refine ih (k+1) _ _ (by omega) ⟨by omega,?_,?_,?_,?_,?_,?_⟩
     ·simp (disch:=omega) only [go_sem,f0,hn]
     ·rw [eg,hb,ha];simp (disch:=omega) only [go_sem,f5]
     ·simp (disch:=omega) only [go_sem,f8]
     ·simp (disch:=omega) only [go_sem,f9]
     ·simp (disch:=omega) only [go_sem]
     ·rw [ec]
  ·have hk':¬ k<B.length:=by omega
   have ec:cur A B k=orL A B:=by rw [cur,List.take_of_length_le (by omega),List.take_of_length_le (by omega),List.drop_of_length_le (by omega),List.append_nil]
   have eg:grown (A.take k) (B.take k)=grown A B:=by rw [List.take_of_length_le (by omega),List.take_of_length_le (by omega)]
   simp (disch:=omega) only [go_sem,f0,f5,f8,f9,f10,hk',ec,eg]
   exact ⟨_,rfl,rfl⟩
 ·refine ⟨by omega,?_,?_,?_,?_,?_,?_⟩
  ·simp (disch:=omega) only [go_sem]
  ·simp (disch:=omega) only [go_sem];try rfl
  ·simp (disch:=omega) only [go_sem]
  ·simp (disch:=omega) only [go_sem]
  ·simp (disch:=omega) only [go_sem]
  ·rfl
end Go.Proofs.YtngdkenddfdhaaaGreatDoor
