/- Part of a proof about the functions of this seat. -/
import Derived.Test.YtngdkenddfdhaaaGreatDoorG09Base32
import Derived.Test.YtngdkenddfdhaaaGreatDoorG12Nfr
import Derived.Lib.ValidLaws
import Derived.Test.YtngdkenddfdhaaaGreatDoorG16Fl32
/- The prepared code of further functions. Written by a program of mine (gen.py) out of what the loaded dump prints. -/

set_option linter.unusedVariables false
set_option maxRecDepth 100000
namespace Go.Proofs.YtngdkenddfdhaaaGreatDoor
open Go Nv
theorem fn15:FnIs Tryz.prog 15 1 [Go.ResultVar.tmp 2] (.seq (.region [⟨some 1,Go.Op.box 25 (Go.Operand.tmp 0),0,none⟩,
   ⟨some 2,Go.Op.assign (Go.Operand.const (Go.Value.int Go.IntKind.i64 0)),3,none⟩])
  (.seq (.region [⟨some 3,Go.Op.assign (Go.Operand.const (Go.Value.int Go.IntKind.i64 1)),3,none⟩])
  (.seq (.seq (.region [⟨some 4,Go.Op.assign (Go.Operand.const (Go.Value.int Go.IntKind.i64 0)),3,none⟩])
  (.block 0
   (.loop
    (.seq (.seq (.region [⟨some 5,Go.Op.move (Go.Operand.tmp 4),3,none⟩,
     ⟨some 6,Go.Op.fieldAddr 25 (Go.Operand.tmp 1) 2,0,none⟩,
     ⟨some 7,Go.Op.load 23 (Go.Operand.tmp 6),23,none⟩,
     ⟨some 8,Go.Op.call { callee:=Go.Callee.builtin Go.Builtin.len,args:=#[Go.Operand.tmp 7],argTypes:=#[23] },3,none⟩,
     ⟨some 9,Go.Op.binOp Go.BinOp.lss 3 (Go.Operand.tmp 5) (Go.Operand.tmp 8) 3,4,none⟩])
    (.cond (Go.Operand.tmp 9)
     .skip
     (.exit 0)))
    (.seq (.block 1
     (.region [⟨some 12,Go.Op.move (Go.Operand.tmp 3),3,none⟩,
      ⟨some 13,Go.Op.fieldAddr 25 (Go.Operand.tmp 1) 2,0,none⟩,
      ⟨some 14,Go.Op.load 23 (Go.Operand.tmp 13),23,none⟩,
      ⟨some 15,Go.Op.move (Go.Operand.tmp 4),3,none⟩,
      ⟨some 16,Go.Op.indexAddr 23 (Go.Operand.tmp 14) (Go.Operand.tmp 15),0,none⟩,
      ⟨some 17,Go.Op.load 25 (Go.Operand.tmp 16),25,none⟩,
      ⟨some 18,Go.Op.call { callee:=Go.Callee.value (Go.Operand.func 15),args:=#[Go.Operand.tmp 17],argTypes:=#[25] },3,none⟩,
      ⟨some 19,Go.Op.binOp Go.BinOp.add 3 (Go.Operand.tmp 12) (Go.Operand.tmp 18) 3,3,none⟩,
      ⟨some 3,Go.Op.assign (Go.Operand.tmp 19),3,none⟩]))
    (.region [⟨some 10,Go.Op.move (Go.Operand.tmp 4),3,none⟩,
     ⟨some 11,Go.Op.binOp Go.BinOp.add 3 (Go.Operand.tmp 10) (Go.Operand.const (Go.Value.int Go.IntKind.i64 1)) 3,3,none⟩,
     ⟨some 4,Go.Op.assign (Go.Operand.tmp 11),3,none⟩]))))))
  (.seq (.seq (.region [⟨some 20,Go.Op.fieldAddr 25 (Go.Operand.tmp 1) 0,0,none⟩,
   ⟨some 21,Go.Op.load 3 (Go.Operand.tmp 20),3,none⟩,
   ⟨some 22,Go.Op.binOp Go.BinOp.eql 3 (Go.Operand.tmp 21) (Go.Operand.const (Go.Value.int Go.IntKind.i64 5)) 3,4,none⟩])
  (.cond (Go.Operand.tmp 22)
   (.seq (.region [⟨some 23,Go.Op.fieldAddr 25 (Go.Operand.tmp 1) 4,0,none⟩,
    ⟨some 24,Go.Op.load 3 (Go.Operand.tmp 23),3,none⟩,
    ⟨some 25,Go.Op.binOp Go.BinOp.lss 3 (Go.Operand.tmp 24) (Go.Operand.const (Go.Value.int Go.IntKind.i64 0)) 3,4,none⟩])
   (.cond (Go.Operand.tmp 25)
    (.region [⟨some 26,Go.Op.move (Go.Operand.tmp 3),3,none⟩,
     ⟨some 27,Go.Op.fieldAddr 25 (Go.Operand.tmp 1) 3,0,none⟩,
     ⟨some 28,Go.Op.load 3 (Go.Operand.tmp 27),3,none⟩,
     ⟨some 29,Go.Op.call { callee:=Go.Callee.builtin Go.Builtin.max,args:=#[Go.Operand.tmp 28,Go.Operand.const (Go.Value.int Go.IntKind.i64 0)],argTypes:=#[3,3] },3,none⟩,
     ⟨some 30,Go.Op.call { callee:=Go.Callee.builtin Go.Builtin.min,args:=#[Go.Operand.tmp 29,Go.Operand.const (Go.Value.int Go.IntKind.i64 100)],argTypes:=#[3,3] },3,none⟩,
     ⟨some 31,Go.Op.binOp Go.BinOp.add 3 (Go.Operand.tmp 30) (Go.Operand.const (Go.Value.int Go.IntKind.i64 15)) 3,3,none⟩,
     ⟨some 32,Go.Op.binOp Go.BinOp.mul 3 (Go.Operand.tmp 26) (Go.Operand.tmp 31) 3,3,none⟩,
     ⟨some 3,Go.Op.assign (Go.Operand.tmp 32),3,none⟩])
    (.region [⟨some 33,Go.Op.move (Go.Operand.tmp 3),3,none⟩,
     ⟨some 34,Go.Op.fieldAddr 25 (Go.Operand.tmp 1) 4,0,none⟩,
     ⟨some 35,Go.Op.load 3 (Go.Operand.tmp 34),3,none⟩,
     ⟨some 36,Go.Op.call { callee:=Go.Callee.builtin Go.Builtin.max,args:=#[Go.Operand.tmp 35,Go.Operand.const (Go.Value.int Go.IntKind.i64 1)],argTypes:=#[3,3] },3,none⟩,
     ⟨some 37,Go.Op.call { callee:=Go.Callee.builtin Go.Builtin.min,args:=#[Go.Operand.tmp 36,Go.Operand.const (Go.Value.int Go.IntKind.i64 100)],argTypes:=#[3,3] },3,none⟩,
     ⟨some 38,Go.Op.binOp Go.BinOp.mul 3 (Go.Operand.tmp 33) (Go.Operand.tmp 37) 3,3,none⟩,
     ⟨some 3,Go.Op.assign (Go.Operand.tmp 38),3,none⟩])))
   .skip))
  (.seq (.region [⟨some 39,Go.Op.move (Go.Operand.tmp 3),3,none⟩,
   ⟨some 40,Go.Op.call { callee:=Go.Callee.builtin Go.Builtin.min,args:=#[Go.Operand.tmp 39,Go.Operand.const (Go.Value.int Go.IntKind.i64 1000000)],argTypes:=#[3,3] },3,none⟩,
   ⟨some 2,Go.Op.assign (Go.Operand.tmp 40),3,none⟩])
  .ret))))) :=
 ⟨foll,Tryz.f15,Tryz.func15,by kernel_rfl,by kernel_rfl,by kernel_rfl,by rw [Tryz.ntmps15];decide⟩
theorem fn32:FnIs Tryz.prog 32 2 [Go.ResultVar.tmp 4,Go.ResultVar.tmp 5] (.seq (.region [⟨some 4,Go.Op.assign (Go.Operand.const (Go.Value.slice none 0 0)),62,none⟩,
   ⟨some 5,Go.Op.assign (Go.Operand.const (Go.Value.string { data:=#[] })),9,none⟩])
  (.seq (.region [⟨some 12,Go.Op.move (Go.Operand.tmp 0),9,none⟩,
   ⟨some 13,Go.Op.move (Go.Operand.tmp 1),9,none⟩,
   ⟨some 14,Go.Op.binOp Go.BinOp.add 9 (Go.Operand.tmp 12) (Go.Operand.tmp 13) 9,9,none⟩,
   ⟨some 6,Go.Op.assign (Go.Operand.tmp 14),9,none⟩])
  (.seq (.region [⟨some 7,Go.Op.assign (Go.Operand.const (Go.Value.slice none 0 0)),62,none⟩])
  (.seq (.region [⟨some 8,Go.Op.alloc 97,0,none⟩])
  (.seq (.region [⟨some 9,Go.Op.assign (Go.Operand.const (Go.Value.int Go.IntKind.i64 0)),3,none⟩])
  (.seq (.seq (.region [⟨some 15,Go.Op.move (Go.Operand.tmp 6),9,none⟩,
   ⟨some 16,Go.Op.call { callee:=Go.Callee.builtin Go.Builtin.len,args:=#[Go.Operand.tmp 15],argTypes:=#[9] },3,none⟩,
   ⟨some 17,Go.Op.move (Go.Operand.const (Go.Value.int Go.IntKind.i64 0)),3,none⟩])
  (.block 0
   (.loop
    (.seq (.region [⟨some 18,Go.Op.binOp Go.BinOp.lss 3 (Go.Operand.tmp 17) (Go.Operand.tmp 16) 3,4,none⟩])
    (.seq (.cond (Go.Operand.tmp 18)
     .skip
     (.exit 0))
    (.seq (.block 1
     (.seq (.region [⟨some 19,Go.Op.move (Go.Operand.tmp 17),3,none⟩,
      ⟨some 10,Go.Op.assign (Go.Operand.tmp 19),3,none⟩])
     (.seq (.region [⟨some 20,Go.Op.move (Go.Operand.tmp 6),9,none⟩,
      ⟨some 21,Go.Op.move (Go.Operand.tmp 10),3,none⟩,
      ⟨some 22,Go.Op.index 9 (Go.Operand.tmp 20) (Go.Operand.tmp 21),5,none⟩,
      ⟨some 11,Go.Op.assign (Go.Operand.tmp 22),5,none⟩])
     (.seq (.seq (.region [⟨some 23,Go.Op.fieldAddr 97 (Go.Operand.tmp 8) 1,0,none⟩,
      ⟨some 24,Go.Op.load 3 (Go.Operand.tmp 23),3,none⟩,
      ⟨some 25,Go.Op.binOp Go.BinOp.gtr 3 (Go.Operand.tmp 24) (Go.Operand.const (Go.Value.int Go.IntKind.i64 0)) 3,4,none⟩,
      ⟨some 26,Go.Op.move (Go.Operand.tmp 25),4,none⟩,
      ⟨some 27,Go.Op.move (Go.Operand.tmp 11),5,(some (26,true))⟩,
      ⟨some 28,Go.Op.fieldAddr 97 (Go.Operand.tmp 8) 2,0,(some (26,true))⟩,
      ⟨some 29,Go.Op.load 5 (Go.Operand.tmp 28),5,(some (26,true))⟩,
      ⟨some 30,Go.Op.binOp Go.BinOp.geq 5 (Go.Operand.tmp 27) (Go.Operand.tmp 29) 5,4,(some (26,true))⟩,
      ⟨some 31,Go.Op.pick (Go.Operand.tmp 26) (Go.Operand.tmp 30) (Go.Operand.const (Go.Value.bool false)),4,none⟩,
      ⟨some 32,Go.Op.move (Go.Operand.tmp 31),4,none⟩,
      ⟨some 33,Go.Op.move (Go.Operand.tmp 11),5,(some (32,true))⟩,
      ⟨some 34,Go.Op.fieldAddr 97 (Go.Operand.tmp 8) 3,0,(some (32,true))⟩,
      ⟨some 35,Go.Op.load 5 (Go.Operand.tmp 34),5,(some (32,true))⟩,
      ⟨some 36,Go.Op.binOp Go.BinOp.leq 5 (Go.Operand.tmp 33) (Go.Operand.tmp 35) 5,4,(some (32,true))⟩,
      ⟨some 37,Go.Op.pick (Go.Operand.tmp 32) (Go.Operand.tmp 36) (Go.Operand.const (Go.Value.bool false)),4,none⟩])
     (.cond (Go.Operand.tmp 37)
      (.seq (.region [⟨some 38,Go.Op.fieldAddr 97 (Go.Operand.tmp 8) 0,0,none⟩,
       ⟨some 39,Go.Op.load 21 (Go.Operand.tmp 38),21,none⟩,
       ⟨some 40,Go.Op.binOp Go.BinOp.shl 21 (Go.Operand.tmp 39) (Go.Operand.const (Go.Value.int Go.IntKind.u64 6)) 86,21,none⟩,
       ⟨some 41,Go.Op.move (Go.Operand.tmp 11),5,none⟩,
       ⟨some 42,Go.Op.binOp Go.BinOp.and 5 (Go.Operand.tmp 41) (Go.Operand.const (Go.Value.int Go.IntKind.u8 63)) 5,5,none⟩,
       ⟨some 43,Go.Op.convert 5 21 (Go.Operand.tmp 42),21,none⟩,
       ⟨some 44,Go.Op.binOp Go.BinOp.or 21 (Go.Operand.tmp 40) (Go.Operand.tmp 43) 21,21,none⟩,
       ⟨some 45,Go.Op.fieldAddr 97 (Go.Operand.tmp 8) 1,0,none⟩,
       ⟨some 46,Go.Op.load 3 (Go.Operand.tmp 45),3,none⟩,
       ⟨some 47,Go.Op.binOp Go.BinOp.sub 3 (Go.Operand.tmp 46) (Go.Operand.const (Go.Value.int Go.IntKind.i64 1)) 3,3,none⟩,
       ⟨some 48,Go.Op.build 97 #[(0,Go.Operand.tmp 44),(1,Go.Operand.tmp 47),(2,Go.Operand.const (Go.Value.int Go.IntKind.u8 128)),(3,Go.Operand.const (Go.Value.int Go.IntKind.u8 191))],97,none⟩,
       ⟨none,Go.Op.store 97 (Go.Operand.tmp 8) (Go.Operand.tmp 48),0,none⟩])
      (.seq (.seq (.region [⟨some 49,Go.Op.fieldAddr 97 (Go.Operand.tmp 8) 1,0,none⟩,
       ⟨some 50,Go.Op.load 3 (Go.Operand.tmp 49),3,none⟩,
       ⟨some 51,Go.Op.binOp Go.BinOp.eql 3 (Go.Operand.tmp 50) (Go.Operand.const (Go.Value.int Go.IntKind.i64 0)) 3,4,none⟩])
      (.cond (Go.Operand.tmp 51)
       (.region [⟨some 52,Go.Op.move (Go.Operand.tmp 7),62,none⟩,
        ⟨some 53,Go.Op.fieldAddr 97 (Go.Operand.tmp 8) 0,0,none⟩,
        ⟨some 54,Go.Op.load 21 (Go.Operand.tmp 53),21,none⟩,
        ⟨some 55,Go.Op.buildSlice 62 1 #[(0,Go.Operand.tmp 54)],62,none⟩,
        ⟨some 56,Go.Op.call { callee:=Go.Callee.builtin Go.Builtin.append,args:=#[Go.Operand.tmp 52,Go.Operand.tmp 55],argTypes:=#[62,62] },62,none⟩,
        ⟨some 7,Go.Op.assign (Go.Operand.tmp 56),62,none⟩])
       .skip))
      (.exit 1)))
      .skip))
     (.seq (.seq (.region [⟨some 57,Go.Op.fieldAddr 97 (Go.Operand.tmp 8) 1,0,none⟩,
      ⟨some 58,Go.Op.load 3 (Go.Operand.tmp 57),3,none⟩,
      ⟨some 59,Go.Op.binOp Go.BinOp.gtr 3 (Go.Operand.tmp 58) (Go.Operand.const (Go.Value.int Go.IntKind.i64 0)) 3,4,none⟩])
     (.cond (Go.Operand.tmp 59)
      (.region [⟨some 60,Go.Op.move (Go.Operand.tmp 7),62,none⟩,
       ⟨some 61,Go.Op.buildSlice 62 1 #[(0,Go.Operand.const (Go.Value.int Go.IntKind.i32 65533))],62,none⟩,
       ⟨some 62,Go.Op.call { callee:=Go.Callee.builtin Go.Builtin.append,args:=#[Go.Operand.tmp 60,Go.Operand.tmp 61],argTypes:=#[62,62] },62,none⟩,
       ⟨some 7,Go.Op.assign (Go.Operand.tmp 62),62,none⟩])
      .skip))
     (.seq (.region [⟨some 63,Go.Op.move (Go.Operand.tmp 11),5,none⟩,
      ⟨some 64,Go.Op.call { callee:=Go.Callee.value (Go.Operand.func 57),args:=#[Go.Operand.tmp 63],argTypes:=#[5] },97,none⟩,
      ⟨some 65,Go.Op.move (Go.Operand.tmp 10),3,none⟩,
      ⟨none,Go.Op.store 97 (Go.Operand.tmp 8) (Go.Operand.tmp 64),0,none⟩,
      ⟨some 9,Go.Op.assign (Go.Operand.tmp 65),3,none⟩])
     (.block 2
      (.seq (.region [⟨some 67,Go.Op.move (Go.Operand.tmp 11),5,none⟩,
       ⟨some 68,Go.Op.binOp Go.BinOp.lss 5 (Go.Operand.tmp 67) (Go.Operand.const (Go.Value.int Go.IntKind.u8 128)) 5,4,none⟩,
       ⟨some 66,Go.Op.assign (Go.Operand.tmp 68),4,none⟩])
      (.cond (Go.Operand.tmp 66)
       (.region [⟨some 69,Go.Op.move (Go.Operand.tmp 7),62,none⟩,
        ⟨some 70,Go.Op.move (Go.Operand.tmp 11),5,none⟩,
        ⟨some 71,Go.Op.convert 5 21 (Go.Operand.tmp 70),21,none⟩,
        ⟨some 72,Go.Op.buildSlice 62 1 #[(0,Go.Operand.tmp 71)],62,none⟩,
        ⟨some 73,Go.Op.call { callee:=Go.Callee.builtin Go.Builtin.append,args:=#[Go.Operand.tmp 69,Go.Operand.tmp 72],argTypes:=#[62,62] },62,none⟩,
        ⟨some 7,Go.Op.assign (Go.Operand.tmp 73),62,none⟩])
       (.seq (.region [⟨some 75,Go.Op.fieldAddr 97 (Go.Operand.tmp 8) 1,0,none⟩,
        ⟨some 76,Go.Op.load 3 (Go.Operand.tmp 75),3,none⟩,
        ⟨some 77,Go.Op.binOp Go.BinOp.eql 3 (Go.Operand.tmp 76) (Go.Operand.const (Go.Value.int Go.IntKind.i64 0)) 3,4,none⟩,
        ⟨some 74,Go.Op.assign (Go.Operand.tmp 77),4,none⟩])
       (.cond (Go.Operand.tmp 74)
        (.region [⟨some 78,Go.Op.move (Go.Operand.tmp 7),62,none⟩,
         ⟨some 79,Go.Op.buildSlice 62 1 #[(0,Go.Operand.const (Go.Value.int Go.IntKind.i32 65533))],62,none⟩,
         ⟨some 80,Go.Op.call { callee:=Go.Callee.builtin Go.Builtin.append,args:=#[Go.Operand.tmp 78,Go.Operand.tmp 79],argTypes:=#[62,62] },62,none⟩,
         ⟨some 7,Go.Op.assign (Go.Operand.tmp 80),62,none⟩])
        .skip)))))))))))
    (.region [⟨some 81,Go.Op.binOp Go.BinOp.add 3 (Go.Operand.tmp 17) (Go.Operand.const (Go.Value.int Go.IntKind.i64 1)) 3,3,none⟩,
     ⟨some 17,Go.Op.move (Go.Operand.tmp 81),3,none⟩])))))))
  (.seq (.seq (.region [⟨some 82,Go.Op.fieldAddr 97 (Go.Operand.tmp 8) 1,0,none⟩,
   ⟨some 83,Go.Op.load 3 (Go.Operand.tmp 82),3,none⟩,
   ⟨some 84,Go.Op.binOp Go.BinOp.eql 3 (Go.Operand.tmp 83) (Go.Operand.const (Go.Value.int Go.IntKind.i64 0)) 3,4,none⟩])
  (.cond (Go.Operand.tmp 84)
   (.seq (.region [⟨some 85,Go.Op.move (Go.Operand.tmp 7),62,none⟩,
    ⟨some 4,Go.Op.assign (Go.Operand.tmp 85),62,none⟩,
    ⟨some 5,Go.Op.assign (Go.Operand.const (Go.Value.string { data:=#[] })),9,none⟩])
   .ret)
   .skip))
  (.seq (.draw true [⟨⟨some 86,Go.Op.move (Go.Operand.tmp 7),62,none⟩,false,false,false⟩,
   ⟨⟨some 87,Go.Op.move (Go.Operand.tmp 6),9,none⟩,false,false,false⟩,
   ⟨⟨some 88,Go.Op.move (Go.Operand.tmp 9),3,none⟩,false,false,false⟩,
   ⟨⟨some 89,Go.Op.slice 9 (Go.Operand.tmp 87) (some (Go.Operand.tmp 88)) none none,9,none⟩,false,false,false⟩,
   ⟨⟨some 4,Go.Op.assign (Go.Operand.tmp 86),62,none⟩,false,false,false⟩,
   ⟨⟨some 5,Go.Op.assign (Go.Operand.tmp 89),9,none⟩,false,false,false⟩] [[],[],[],[1,2],[0],[0,1,2,3,4]])
  .ret)))))))) :=
 ⟨foll,Tryz.f32,Tryz.func32,by kernel_rfl,by kernel_rfl,by kernel_rfl,by rw [Tryz.ntmps32];decide⟩
theorem fn34:FnIs Tryz.prog 34 1 [Go.ResultVar.tmp 2] (.seq (.region [⟨some 2,Go.Op.assign (Go.Operand.const (Go.Value.slice none 0 0)),62,none⟩])
  (.seq (.region [⟨some 6,Go.Op.move (Go.Operand.tmp 0),9,none⟩,
   ⟨some 7,Go.Op.call { callee:=Go.Callee.value (Go.Operand.func 32),args:=#[Go.Operand.const (Go.Value.string { data:=#[] }),Go.Operand.tmp 6],argTypes:=#[9,9] },63,none⟩,
   ⟨some 5,Go.Op.move (Go.Operand.tmp 7),63,none⟩,
   ⟨some 8,Go.Op.extract (Go.Operand.tmp 5) 0,62,none⟩,
   ⟨some 9,Go.Op.extract (Go.Operand.tmp 5) 1,9,none⟩,
   ⟨some 3,Go.Op.assign (Go.Operand.tmp 8),62,none⟩,
   ⟨some 4,Go.Op.assign (Go.Operand.tmp 9),9,none⟩])
  (.seq (.seq (.region [⟨some 10,Go.Op.move (Go.Operand.tmp 4),9,none⟩,
   ⟨some 11,Go.Op.binOp Go.BinOp.neq 9 (Go.Operand.tmp 10) (Go.Operand.const (Go.Value.string { data:=#[] })) 9,4,none⟩])
  (.cond (Go.Operand.tmp 11)
   (.region [⟨some 12,Go.Op.move (Go.Operand.tmp 3),62,none⟩,
    ⟨some 13,Go.Op.buildSlice 62 1 #[(0,Go.Operand.const (Go.Value.int Go.IntKind.i32 65533))],62,none⟩,
    ⟨some 14,Go.Op.call { callee:=Go.Callee.builtin Go.Builtin.append,args:=#[Go.Operand.tmp 12,Go.Operand.tmp 13],argTypes:=#[62,62] },62,none⟩,
    ⟨some 3,Go.Op.assign (Go.Operand.tmp 14),62,none⟩])
   .skip))
  (.seq (.region [⟨some 15,Go.Op.move (Go.Operand.tmp 3),62,none⟩,
   ⟨some 2,Go.Op.assign (Go.Operand.tmp 15),62,none⟩])
  .ret)))) :=
 ⟨foll,Tryz.f34,Tryz.func34,by kernel_rfl,by kernel_rfl,by kernel_rfl,by rw [Tryz.ntmps34];decide⟩
theorem fn57:FnIs Tryz.prog 57 1 [Go.ResultVar.cell 2 97] (.seq (.region [⟨some 2,Go.Op.alloc 97,0,none⟩])
  (.seq (.region [⟨some 4,Go.Op.build 97 #[(2,Go.Operand.const (Go.Value.int Go.IntKind.u8 128)),(3,Go.Operand.const (Go.Value.int Go.IntKind.u8 191))],97,none⟩,
   ⟨some 3,Go.Op.alloc 97,0,none⟩,
   ⟨none,Go.Op.store 97 (Go.Operand.tmp 3) (Go.Operand.tmp 4),0,none⟩])
  (.seq (.block 0
   (.seq (.region [⟨some 6,Go.Op.move (Go.Operand.tmp 0),5,none⟩,
    ⟨some 7,Go.Op.binOp Go.BinOp.geq 5 (Go.Operand.tmp 6) (Go.Operand.const (Go.Value.int Go.IntKind.u8 194)) 5,4,none⟩,
    ⟨some 8,Go.Op.move (Go.Operand.tmp 7),4,none⟩,
    ⟨some 9,Go.Op.move (Go.Operand.tmp 0),5,(some (8,true))⟩,
    ⟨some 10,Go.Op.binOp Go.BinOp.leq 5 (Go.Operand.tmp 9) (Go.Operand.const (Go.Value.int Go.IntKind.u8 223)) 5,4,(some (8,true))⟩,
    ⟨some 11,Go.Op.pick (Go.Operand.tmp 8) (Go.Operand.tmp 10) (Go.Operand.const (Go.Value.bool false)),4,none⟩,
    ⟨some 5,Go.Op.assign (Go.Operand.tmp 11),4,none⟩])
   (.cond (Go.Operand.tmp 5)
    (.region [⟨some 12,Go.Op.move (Go.Operand.tmp 0),5,none⟩,
     ⟨some 13,Go.Op.binOp Go.BinOp.and 5 (Go.Operand.tmp 12) (Go.Operand.const (Go.Value.int Go.IntKind.u8 31)) 5,5,none⟩,
     ⟨some 14,Go.Op.convert 5 21 (Go.Operand.tmp 13),21,none⟩,
     ⟨some 15,Go.Op.fieldAddr 97 (Go.Operand.tmp 3) 0,0,none⟩,
     ⟨none,Go.Op.store 21 (Go.Operand.tmp 15) (Go.Operand.tmp 14),0,none⟩,
     ⟨some 16,Go.Op.fieldAddr 97 (Go.Operand.tmp 3) 1,0,none⟩,
     ⟨none,Go.Op.store 3 (Go.Operand.tmp 16) (Go.Operand.const (Go.Value.int Go.IntKind.i64 1)),0,none⟩])
    (.seq (.region [⟨some 18,Go.Op.move (Go.Operand.tmp 0),5,none⟩,
     ⟨some 19,Go.Op.binOp Go.BinOp.geq 5 (Go.Operand.tmp 18) (Go.Operand.const (Go.Value.int Go.IntKind.u8 224)) 5,4,none⟩,
     ⟨some 20,Go.Op.move (Go.Operand.tmp 19),4,none⟩,
     ⟨some 21,Go.Op.move (Go.Operand.tmp 0),5,(some (20,true))⟩,
     ⟨some 22,Go.Op.binOp Go.BinOp.leq 5 (Go.Operand.tmp 21) (Go.Operand.const (Go.Value.int Go.IntKind.u8 239)) 5,4,(some (20,true))⟩,
     ⟨some 23,Go.Op.pick (Go.Operand.tmp 20) (Go.Operand.tmp 22) (Go.Operand.const (Go.Value.bool false)),4,none⟩,
     ⟨some 17,Go.Op.assign (Go.Operand.tmp 23),4,none⟩])
    (.cond (Go.Operand.tmp 17)
     (.region [⟨some 24,Go.Op.move (Go.Operand.tmp 0),5,none⟩,
      ⟨some 25,Go.Op.binOp Go.BinOp.and 5 (Go.Operand.tmp 24) (Go.Operand.const (Go.Value.int Go.IntKind.u8 15)) 5,5,none⟩,
      ⟨some 26,Go.Op.convert 5 21 (Go.Operand.tmp 25),21,none⟩,
      ⟨some 27,Go.Op.fieldAddr 97 (Go.Operand.tmp 3) 0,0,none⟩,
      ⟨none,Go.Op.store 21 (Go.Operand.tmp 27) (Go.Operand.tmp 26),0,none⟩,
      ⟨some 28,Go.Op.fieldAddr 97 (Go.Operand.tmp 3) 1,0,none⟩,
      ⟨none,Go.Op.store 3 (Go.Operand.tmp 28) (Go.Operand.const (Go.Value.int Go.IntKind.i64 2)),0,none⟩])
     (.seq (.region [⟨some 30,Go.Op.move (Go.Operand.tmp 0),5,none⟩,
      ⟨some 31,Go.Op.binOp Go.BinOp.geq 5 (Go.Operand.tmp 30) (Go.Operand.const (Go.Value.int Go.IntKind.u8 240)) 5,4,none⟩,
      ⟨some 32,Go.Op.move (Go.Operand.tmp 31),4,none⟩,
      ⟨some 33,Go.Op.move (Go.Operand.tmp 0),5,(some (32,true))⟩,
      ⟨some 34,Go.Op.binOp Go.BinOp.leq 5 (Go.Operand.tmp 33) (Go.Operand.const (Go.Value.int Go.IntKind.u8 244)) 5,4,(some (32,true))⟩,
      ⟨some 35,Go.Op.pick (Go.Operand.tmp 32) (Go.Operand.tmp 34) (Go.Operand.const (Go.Value.bool false)),4,none⟩,
      ⟨some 29,Go.Op.assign (Go.Operand.tmp 35),4,none⟩])
     (.cond (Go.Operand.tmp 29)
      (.region [⟨some 36,Go.Op.move (Go.Operand.tmp 0),5,none⟩,
       ⟨some 37,Go.Op.binOp Go.BinOp.and 5 (Go.Operand.tmp 36) (Go.Operand.const (Go.Value.int Go.IntKind.u8 7)) 5,5,none⟩,
       ⟨some 38,Go.Op.convert 5 21 (Go.Operand.tmp 37),21,none⟩,
       ⟨some 39,Go.Op.fieldAddr 97 (Go.Operand.tmp 3) 0,0,none⟩,
       ⟨none,Go.Op.store 21 (Go.Operand.tmp 39) (Go.Operand.tmp 38),0,none⟩,
       ⟨some 40,Go.Op.fieldAddr 97 (Go.Operand.tmp 3) 1,0,none⟩,
       ⟨none,Go.Op.store 3 (Go.Operand.tmp 40) (Go.Operand.const (Go.Value.int Go.IntKind.i64 3)),0,none⟩])
      .skip)))))))
  (.seq (.seq (.region [⟨some 41,Go.Op.move (Go.Operand.tmp 0),5,none⟩])
  (.block 1
   (.seq (.region [⟨some 43,Go.Op.binOp Go.BinOp.eql 5 (Go.Operand.tmp 41) (Go.Operand.const (Go.Value.int Go.IntKind.u8 224)) 5,4,none⟩,
    ⟨some 42,Go.Op.assign (Go.Operand.tmp 43),4,none⟩])
   (.cond (Go.Operand.tmp 42)
    (.region [⟨some 44,Go.Op.fieldAddr 97 (Go.Operand.tmp 3) 2,0,none⟩,
     ⟨none,Go.Op.store 5 (Go.Operand.tmp 44) (Go.Operand.const (Go.Value.int Go.IntKind.u8 160)),0,none⟩])
    (.seq (.region [⟨some 46,Go.Op.binOp Go.BinOp.eql 5 (Go.Operand.tmp 41) (Go.Operand.const (Go.Value.int Go.IntKind.u8 237)) 5,4,none⟩,
     ⟨some 45,Go.Op.assign (Go.Operand.tmp 46),4,none⟩])
    (.cond (Go.Operand.tmp 45)
     (.region [⟨some 47,Go.Op.fieldAddr 97 (Go.Operand.tmp 3) 3,0,none⟩,
      ⟨none,Go.Op.store 5 (Go.Operand.tmp 47) (Go.Operand.const (Go.Value.int Go.IntKind.u8 159)),0,none⟩])
     (.seq (.region [⟨some 49,Go.Op.binOp Go.BinOp.eql 5 (Go.Operand.tmp 41) (Go.Operand.const (Go.Value.int Go.IntKind.u8 240)) 5,4,none⟩,
      ⟨some 48,Go.Op.assign (Go.Operand.tmp 49),4,none⟩])
     (.cond (Go.Operand.tmp 48)
      (.region [⟨some 50,Go.Op.fieldAddr 97 (Go.Operand.tmp 3) 2,0,none⟩,
       ⟨none,Go.Op.store 5 (Go.Operand.tmp 50) (Go.Operand.const (Go.Value.int Go.IntKind.u8 144)),0,none⟩])
      (.seq (.region [⟨some 52,Go.Op.binOp Go.BinOp.eql 5 (Go.Operand.tmp 41) (Go.Operand.const (Go.Value.int Go.IntKind.u8 244)) 5,4,none⟩,
       ⟨some 51,Go.Op.assign (Go.Operand.tmp 52),4,none⟩])
      (.cond (Go.Operand.tmp 51)
       (.region [⟨some 53,Go.Op.fieldAddr 97 (Go.Operand.tmp 3) 3,0,none⟩,
        ⟨none,Go.Op.store 5 (Go.Operand.tmp 53) (Go.Operand.const (Go.Value.int Go.IntKind.u8 143)),0,none⟩])
       .skip))))))))))
  (.seq (.region [⟨some 54,Go.Op.load 97 (Go.Operand.tmp 3),97,none⟩,
   ⟨none,Go.Op.store 97 (Go.Operand.tmp 2) (Go.Operand.tmp 54),0,none⟩])
  .ret))))) :=
 ⟨foll,Tryz.f57,Tryz.func57,by kernel_rfl,by kernel_rfl,by kernel_rfl,by rw [Tryz.ntmps57];decide⟩
end Go.Proofs.YtngdkenddfdhaaaGreatDoor
set_option linter.unusedVariables false
set_option linter.unusedSimpArgs false
set_option maxRecDepth 100000
namespace Go.Proofs.YtngdkenddfdhaaaGreatDoor
open Go Nv Pat
end Go.Proofs.YtngdkenddfdhaaaGreatDoor
set_option linter.unusedVariables false
set_option linter.unusedSimpArgs false
set_option maxRecDepth 100000
namespace Go.Proofs.YtngdkenddfdhaaaGreatDoor
open Go Nv Pat
end Go.Proofs.YtngdkenddfdhaaaGreatDoor
set_option linter.unusedVariables false
set_option linter.unusedSimpArgs false
set_option maxRecDepth 100000
namespace Go.Proofs.YtngdkenddfdhaaaGreatDoor
open Go Nv Pat
end Go.Proofs.YtngdkenddfdhaaaGreatDoor
set_option linter.unusedVariables false
set_option linter.unusedSimpArgs false
set_option maxRecDepth 100000
namespace Go.Proofs.YtngdkenddfdhaaaGreatDoor
open Go Nv Pat
structure Sq where
 value:Int
 missing:Int
 low:Int
 high:Int
 deriving Inhabited
def Sq.avs (s:Sq):List AV:=[.d (.int .i32 s.value),.d (.int .i64 s.missing),.d (.int .u8 s.low),.d (.int .u8 s.high)]
def Sq.av (s:Sq):AV:=.agg s.avs
def m8 (b m:Int):Int:=((BitVec.ofInt 8 b &&& BitVec.ofInt 8 m).toNat:Int)
def beginM (b:Int):Sq :=
 if 194≤b∧b≤223 then ⟨m8 b 31,1,128,191⟩
 else if 224≤b∧b≤239 then ⟨m8 b 15,2,if b=224 then 160 else 128,if b=237 then 159 else 191⟩
 else if 240≤b∧b≤244 then ⟨m8 b 7,3,if b=240 then 144 else 128,if b=244 then 143 else 191⟩
 else ⟨0,0,128,191⟩
inductive OkSeq:List UInt8→Prop
 | one {b:UInt8}:b.toNat<128→OkSeq [b]
 | two {b c:UInt8}:(beginM (bt b)).missing=1→(beginM (bt b)).low≤bt c→bt c≤(beginM (bt b)).high→OkSeq [b,c]
 | three {b c d:UInt8}:(beginM (bt b)).missing=2→(beginM (bt b)).low≤bt c→bt c≤(beginM (bt b)).high→128≤bt d→bt d≤191→OkSeq [b,c,d]
 | four {b c d e:UInt8}:(beginM (bt b)).missing=3→(beginM (bt b)).low≤bt c→bt c≤(beginM (bt b)).high→128≤bt d→bt d≤191→128≤bt e→bt e≤191→OkSeq [b,c,d,e]
theorem first_begin:∀ b:Fin 256,128≤b.val →
  ((beginM (b.val:Int)).missing=0∧Lib.firstT b.val % 8≠2∧Lib.firstT b.val % 8≠3∧Lib.firstT b.val % 8≠4) ∨
  ((beginM (b.val:Int)).missing+1=(Lib.firstT b.val % 8:Nat)∧(Lib.firstT b.val % 8=2∨Lib.firstT b.val % 8=3∨Lib.firstT b.val % 8=4) ∧
   (beginM (b.val:Int)).low=(Lib.accLo (Lib.firstT b.val / 16):Nat)∧(beginM (b.val:Int)).high=(Lib.accHi (Lib.firstT b.val / 16):Nat)):=by decide +kernel
theorem begin_first (b:UInt8) (h:128≤b.toNat) :
  ((beginM (bt b)).missing=0∧Lib.firstT b.toNat % 8≠2∧Lib.firstT b.toNat % 8≠3∧Lib.firstT b.toNat % 8≠4) ∨
  ((beginM (bt b)).missing+1=(Lib.firstT b.toNat % 8:Nat)∧(Lib.firstT b.toNat % 8=2∨Lib.firstT b.toNat % 8=3∨Lib.firstT b.toNat % 8=4) ∧
   (beginM (bt b)).low=(Lib.accLo (Lib.firstT b.toNat / 16):Nat)∧(beginM (bt b)).high=(Lib.accHi (Lib.firstT b.toNat / 16):Nat)) :=
 first_begin ⟨b.toNat,b.toNat_lt⟩ h
theorem begin_big {b:UInt8} (h:(beginM (bt b)).missing≠0):128≤b.toNat:=by
 rcases Nat.lt_or_ge b.toNat 128 with hb | hb
 ·exact absurd (by unfold beginM bt;rw [if_neg (by omega),if_neg (by omega),if_neg (by omega)]) h
 ·exact hb
theorem valid_split {s:List UInt8} (h:Lib.validD s=true) (hne:s≠[]):∃ p r,s=p++r∧OkSeq p∧Lib.validD r=true:=by
 cases s with
 | nil=>exact absurd rfl hne
 | cons b t =>
  rcases Nat.lt_or_ge b.toNat 128 with hb | hb
  ·exact ⟨[b],t,rfl,.one hb,by rwa [Lib.validD_cons _ _ hb] at h⟩
  ·rw [Lib.validD_lead _ (by simp) (by simpa using hb)] at h
   simp only [List.getD_cons_zero,List.getD_cons_succ,List.length_cons] at h
   rcases begin_first b hb with ⟨k1,k2,k3,k4⟩ | ⟨k1,k2,k3,k4⟩
   ·simp only [Lib.checkN,k2,k3,k4,if_false] at h;exact absurd h (by simp)
   ·rcases k2 with e | e | e
    ·simp only [e,Lib.checkN,if_true] at h
     split at h
     ·exact absurd h (by simp)
     ·rename_i hk
      split at hk
      ·cases hk
      ·rename_i hc
       cases hk
       match t,hc with
       | [],hc=>simp at hc
       | c::t,hc =>
        simp only [List.getD_cons_zero,List.getD_cons_succ,List.length_cons] at hc
        refine ⟨[b,c],t,rfl,.two (by omega) ?_ ?_,by simpa using h⟩ <;> (unfold bt at *;omega)
    ·simp only [e,Lib.checkN,if_true,show ¬ (3:Nat)=2 by omega,if_false] at h
     split at h
     ·exact absurd h (by simp)
     ·rename_i hk
      split at hk
      ·cases hk
      ·rename_i hc
       cases hk
       match t,hc with
       | [],hc=>simp at hc
       | [c],hc=>simp at hc
       | c::d::t,hc =>
        simp only [List.getD_cons_zero,List.getD_cons_succ,List.length_cons] at hc
        refine ⟨[b,c,d],t,rfl,.three (by omega) ?_ ?_ ?_ ?_,by simpa using h⟩ <;> (unfold bt at *;omega)
    ·simp only [e,Lib.checkN,if_true,show ¬ (4:Nat)=2 by omega,show ¬ (4:Nat)=3 by omega,if_false] at h
     split at h
     ·exact absurd h (by simp)
     ·rename_i hk
      split at hk
      ·cases hk
      ·rename_i hc
       cases hk
       match t,hc with
       | [],hc=>simp at hc
       | [c],hc=>simp at hc
       | [c,d],hc=>simp at hc
       | c::d::f::t,hc =>
        simp only [List.getD_cons_zero,List.getD_cons_succ,List.length_cons] at hc
        refine ⟨[b,c,d,f],t,rfl,.four (by omega) ?_ ?_ ?_ ?_ ?_ ?_,by simpa using h⟩ <;> (unfold bt at *;omega)
theorem valid_ind {P:List UInt8→Prop} (h0:P []) (h1:∀ p r,OkSeq p→Lib.validD r=true→P r→P (p++r)):∀ (n:Nat) (s:List UInt8),s.length≤n→Lib.validD s=true→P s
 | 0,s,hn,_=>by rw [List.eq_nil_of_length_eq_zero (l:=s) (by omega)];exact h0
 | n+1,s,hn,hv=>by
  by_cases hne:s=[]
  ·rw [hne];exact h0
  ·obtain ⟨p,r,rfl,hp,hr⟩:=valid_split hv hne
   have hl:0<p.length:=by cases hp <;> simp
   rw [List.length_append] at hn
   exact h1 p r hp hr (valid_ind h0 h1 n r (by omega) hr)
end Go.Proofs.YtngdkenddfdhaaaGreatDoor
set_option linter.unusedVariables false
set_option linter.unusedSimpArgs false
set_option maxRecDepth 100000
namespace Go.Proofs.YtngdkenddfdhaaaGreatDoor
open Go Nv Pat
theorem begin46 (b:Int):PCall Tryz.prog 57 [.d (.int .u8 b)] (beginM b).av:=by
 refine fn57.pure noHint (Nat.le_refl _) (by simp only [go_sem]) (by simp only [go_sem,Sq.av,Sq.avs]) ?_
 simp (disch:=omega) only [go_sem]
 have n224:b<224→¬ b=224∧¬ b=237∧¬ b=240∧¬ b=244:=fun _=>by omega
 by_cases h1:194≤b∧b≤223
 ·have e:beginM b=⟨m8 b 31,1,128,191⟩:=if_pos h1
  have h1a:b ≥ 194:=h1.1
  have h1b:=h1.2
  obtain ⟨q1,q2,q3,q4⟩:=n224 (by omega)
  simp (disch:=omega) only [go_sem,h1a,h1b,q1,q2,q3,q4,e,Sq.av,Sq.avs,m8]
  rfl
 by_cases h2:224≤b∧b≤239
 ·have e:beginM b=⟨m8 b 15,2,if b=224 then 160 else 128,if b=237 then 159 else 191⟩:=by rw [beginM,if_neg h1,if_pos h2]
  have h2a:b ≥ 224:=h2.1
  have h2b:=h2.2
  have h1a:b ≥ 194:=by omega
  have h1b:¬ b≤223:=by omega
  have q3:¬ b=240:=by omega
  have q4:¬ b=244:=by omega
  by_cases q1:b=224
  ·have q2:¬ b=237:=by omega
   rw [if_pos q1,if_neg q2] at e
   simp (disch:=omega) only [go_sem,h1a,h1b,h2a,h2b,e,Sq.av,Sq.avs,m8]
   simp (disch:=omega) only [go_sem,q1]
   rfl
  ·by_cases q2:b=237
   ·rw [if_neg q1,if_pos q2] at e
    simp (disch:=omega) only [go_sem,h1a,h1b,h2a,h2b,e,Sq.av,Sq.avs,m8]
    simp (disch:=omega) only [go_sem,q1]
    simp (disch:=omega) only [go_sem,q2]
    rfl
   ·rw [if_neg q1,if_neg q2] at e
    simp (disch:=omega) only [go_sem,h1a,h1b,h2a,h2b,e,Sq.av,Sq.avs,m8,q1,q2,q3,q4]
    rfl
 by_cases h3:240≤b∧b≤244
 ·have e:beginM b=⟨m8 b 7,3,if b=240 then 144 else 128,if b=244 then 143 else 191⟩:=by rw [beginM,if_neg h1,if_neg h2,if_pos h3]
  have h3a:b ≥ 240:=h3.1
  have h3b:=h3.2
  have h1a:b ≥ 194:=by omega
  have h1b:¬ b≤223:=by omega
  have h2a:b ≥ 224:=by omega
  have h2b:¬ b≤239:=by omega
  have q1:¬ b=224:=by omega
  have q2:¬ b=237:=by omega
  by_cases q3:b=240
  ·have q4:¬ b=244:=by omega
   rw [if_pos q3,if_neg q4] at e
   simp (disch:=omega) only [go_sem,h1a,h1b,h2a,h2b,h3a,h3b,e,Sq.av,Sq.avs,m8,q1,q2]
   simp (disch:=omega) only [go_sem,q3]
   rfl
  ·by_cases q4:b=244
   ·rw [if_neg q3,if_pos q4] at e
    simp (disch:=omega) only [go_sem,h1a,h1b,h2a,h2b,h3a,h3b,e,Sq.av,Sq.avs,m8,q1,q2,q3]
    simp (disch:=omega) only [go_sem,q4]
    rfl
   ·rw [if_neg q3,if_neg q4] at e
    simp (disch:=omega) only [go_sem,h1a,h1b,h2a,h2b,h3a,h3b,e,Sq.av,Sq.avs,m8,q1,q2,q3,q4]
    rfl
 ·have e:beginM b=⟨0,0,128,191⟩:=by rw [beginM,if_neg h1,if_neg h2,if_neg h3]
  have q1:¬ b=224:=by omega
  have q2:¬ b=237:=by omega
  have q3:¬ b=240:=by omega
  have q4:¬ b=244:=by omega
  by_cases h1a:b ≥ 194
  ·have h1b:¬ b≤223:=by omega
   have h2a:b ≥ 224:=by omega
   have h2b:¬ b≤239:=by omega
   have h3a:b ≥ 240:=by omega
   have h3b:¬ b≤244:=by omega
   simp (disch:=omega) only [go_sem,h1a,h1b,h2a,h2b,h3a,h3b,e,Sq.av,Sq.avs,q1,q2,q3,q4]
  ·have h2a:¬ b ≥ 224:=by omega
   have h3a:¬ b ≥ 240:=by omega
   simp (disch:=omega) only [go_sem,h1a,h2a,h3a,e,Sq.av,Sq.avs,q1,q2,q3,q4]
end Go.Proofs.YtngdkenddfdhaaaGreatDoor
set_option linter.unusedVariables false
set_option linter.unusedSimpArgs false
set_option maxRecDepth 100000
namespace Go.Proofs.YtngdkenddfdhaaaGreatDoor
open Go Nv Pat
def hintD:Nat→Hint:=fun i=>if i=7 then .own ⟨1,21⟩ else .no
@[go_sem] theorem hintD_at (i:Nat):hintD i=if i=7 then .own ⟨1,21⟩ else .no:=nrfl rfl
def valM (v b:Int):Int:=IntKind.i32.wrap ((BitVec.ofInt 32 (IntKind.i32.wrap (v * 2 ^ min 6 32)) ||| BitVec.ofInt 32 (m8 b 63)).toNat:Int)
def goesOn (q:Sq) (b:Int):Prop:=0<q.missing∧q.low≤b∧b≤q.high
instance (q:Sq) (b:Int):Decidable (goesOn q b):=inferInstanceAs (Decidable (_∧_∧_))
structure Dec where
 out:List Int
 q:Sq
 start:Nat
def more (q:Sq) (b:Int):Sq:=⟨valM q.value b,q.missing - 1,128,191⟩
def stepD (d:Dec) (i:Nat) (b:Int):Dec :=
 if goesOn d.q b then
  ⟨if d.q.missing - 1=0 then d.out++[valM d.q.value b] else d.out,more d.q b,d.start⟩
 else
  let out:=if 0<d.q.missing then d.out++[65533] else d.out
  ⟨if b<128 then out++[b] else if (beginM b).missing=0 then out++[65533] else out,beginM b,i⟩
def decL:List UInt8→Nat→Dec→Dec
 | [],_,d=>d
 | b::l,i,d=>decL l (i+1) (stepD d i (bt b))
def dec0:Dec:=⟨[],⟨0,0,0,0⟩,0⟩
def decM (s:List UInt8):Dec:=decL s 0 dec0
def restM (s:List UInt8):List UInt8:=if (decM s).q.missing=0 then [] else s.drop (decM s).start
theorem begin_miss (b:Int):0≤(beginM b).missing∧(beginM b).missing≤3:=by
 unfold beginM;split
 ·simp
 ·split
  ·simp
  ·split <;> simp
theorem step_ok (d:Dec) (i:Nat) (b:Int) (hm:0≤d.q.missing∧d.q.missing≤3) (hs:d.start≤i) (ho:d.out.length≤2 * i) :
  (0≤(stepD d i b).q.missing∧(stepD d i b).q.missing≤3)∧(stepD d i b).start≤i+1∧(stepD d i b).out.length≤2 * (i+1):=by
 unfold stepD
 split
 ·rename_i h
  obtain ⟨h1,_,_⟩:=h
  refine ⟨⟨by simp only [more];omega,by simp only [more];omega⟩,by first | omega | (dsimp only;omega),?_⟩
  try dsimp only
  split <;> (try simp) <;> omega
 ·refine ⟨begin_miss b,by first | omega | (dsimp only;omega),?_⟩
  try dsimp only
  split <;> split <;> (try split) <;> (try simp) <;> omega
theorem decode31 (s:List UInt8) (hs:s.length≤100000) (σ:Nv.ST):RCall Tryz.prog 32 [.d (.str []),.d (.str s)] σ fun v σ' =>
  ∃ g n τ,n=(decM s).out.length∧v=.tuple [.own σ.length g 0 n,.d (.str (restM s))]∧σ'=σ++.arr g ⟨1,21⟩ (runesD (decM s).out)::τ:=by
 refine fn32.rel hintD (Nat.le_refl _) ?_
 have e0:0+s.length≤9223372036854775807:=by omega
 simp (disch:=omega) only [go_sem,e0]
 refine wL_ind (fun (i:Nat) fr σ'=>i≤s.length∧fr 6=.d (.str s)∧fr 8=.ptr (σ.length+1) 0∧fr 16=.d (.int .i64 s.length)∧fr 17=.d (.int .i64 i) ∧
  ∃ (d:Dec) (g n:Nat) (τ:Nv.ST),decL (s.drop i) i d=decM s∧(0≤d.q.missing∧d.q.missing≤3)∧d.start≤i∧d.out.length≤2 * i∧n=d.out.length∧fr 7=.own σ.length g 0 n∧fr 9=.d (.int .i64 d.start) ∧
   σ'=σ++.arr g ⟨1,21⟩ (runesD d.out)::.box 97 d.q.avs::τ) (fun i=>s.length - i) ?_ 0 ?_
 ·rintro i fr σ' ⟨hi,f6,f8,f16,f17,⟨out,q,start⟩,g,n,τ,hd,hm,hst,hol,hn,f7,f9,rfl⟩ ih
  simp only at hm hst hol hn f9
  by_cases hlt:i<s.length
  ·obtain ⟨b,hb⟩:∃ b,b=s.getD i 0:=⟨_,rfl⟩
   have hdr:s.drop i=b::s.drop (i+1):=by
    rw [hb,List.drop_eq_getElem_cons hlt,List.getD_eq_getElem?_getD,List.getElem?_eq_getElem hlt];rfl
   rw [hdr,decL] at hd
   obtain ⟨k1,k2,k3⟩:=step_ok ⟨out,q,start⟩ i (bt b) hm hst hol
   have hn2:(n+1) * 4≤140737488355328:=by omega
   have hn3:(n+1+1) * 4≤140737488355328:=by omega
   have hta:=take_all (runesD out) n (by rw [runesD_length,hn])
   simp (disch:=omega) only [go_sem,f6,f8,f16,f17,hlt,Sq.avs,← hb,List.append_assoc,List.cons_append,List.nil_append,List.length_append,apR]
   by_cases hg:goesOn q (bt b)
   ·obtain ⟨g1,g2,g3⟩:=hg
    have es:stepD ⟨out,q,start⟩ i (bt b)=⟨if q.missing - 1=0 then out++[valM q.value (bt b)] else out,more q (bt b),start⟩:=if_pos ⟨g1,g2,g3⟩
    rw [es] at hd k1 k2 k3
    simp only [bt] at g2 g3
    have hw:IntKind.i64.wrap (q.missing - 1)=q.missing - 1:=wrap_id (by omega) (by omega)
    simp (disch:=omega) only [go_sem,g1,g2,g3,f8,Sq.avs,hw,List.append_assoc,List.cons_append,List.nil_append,List.length_append,apR]
    by_cases c4:q.missing - 1=0
    ·rw [if_pos c4] at hd k3
     simp (disch:=omega) only [go_sem,c4,f7,f8,hn2,hta,runesD_length,← hn,Nat.zero_add,Nat.le_refl,f17,List.append_assoc,List.cons_append,List.nil_append,List.length_append,apR]
     refine ih (i+1) _ _ (by omega) ⟨by omega,?_,?_,?_,?_,_,g+1,n+1,τ++[.arr 0 ⟨1,21⟩ [.int .i32 (valM q.value (bt b))]],hd,k1,k2,k3,?_,?_,?_,?_⟩
     ·simp (disch:=omega) only [go_sem,f6]
     ·simp (disch:=omega) only [go_sem,f8]
     ·simp (disch:=omega) only [go_sem,f16]
     ·simp (disch:=omega) only [go_sem]
     ·simp [hn]
     ·simp (disch:=omega) only [go_sem]
     ·simp (disch:=omega) only [go_sem,f9]
     ·simp only [Sq.avs,more,c4,runesD,List.map_append,List.append_assoc,List.cons_append];rfl
    ·rw [if_neg c4] at hd k3
     simp (disch:=omega) only [go_sem,c4,f17,f8,List.append_assoc,List.cons_append,List.nil_append,List.length_append,apR]
     refine ih (i+1) _ _ (by omega) ⟨by omega,?_,?_,?_,?_,_,g,n,τ,hd,k1,k2,k3,hn,?_,?_,?_⟩
     ·simp (disch:=omega) only [go_sem,f6]
     ·simp (disch:=omega) only [go_sem,f8]
     ·simp (disch:=omega) only [go_sem,f16]
     ·simp (disch:=omega) only [go_sem]
     ·simp (disch:=omega) only [go_sem,f7]
     ·simp (disch:=omega) only [go_sem,f9]
     ·rfl
   ·have h256:(b.toNat:Int)<256:=by have:=b.toNat_lt;omega
    have es1:stepD ⟨out,q,start⟩ i (bt b)=⟨if bt b<128 then (if 0<q.missing then out++[65533] else out)++[bt b] else if (beginM (bt b)).missing=0 then (if 0<q.missing then out++[65533] else out)++[65533] else (if 0<q.missing then out++[65533] else out),beginM (bt b),i⟩:=if_neg hg
    have hn4:n+1=(out++[65533]).length:=by simp [hn]
    have hta2:=take_all (runesD out++[DV.int .i32 65533]) (n+1) (by simp [runesD_length,hn])
    by_cases c1:0<q.missing
    ·simp only [if_pos c1] at es1
     have es0:=es1
     by_cases c2:q.low≤(b.toNat:Int)
     ·have c3:¬ (b.toNat:Int)≤q.high:=fun h=>hg ⟨c1,c2,h⟩
      simp (disch:=omega) only [go_sem,c1,c2,c3,f8,Sq.avs,hn2,hta,runesD_length,← hn,Nat.zero_add,Nat.le_refl,f7,List.append_assoc,List.cons_append,List.nil_append,List.length_append,apR]
      refine (begin46 (bt b)).at ?_
      simp (disch:=omega) only [go_sem,Sq.av,Sq.avs,f8,bt,List.append_assoc,List.cons_append,List.nil_append,List.length_append,apR]
      by_cases c5:(b.toNat:Int)<128
      ·have es:stepD ⟨out,q,start⟩ i (bt b)=⟨(out++[65533])++[bt b],beginM (bt b),i⟩:=by rw [es0,if_pos (show bt b<128 from c5)]
       rw [es] at hd k1 k2 k3
       simp (disch:=omega) only [go_sem,c5,hn2,hn3,hta,hta2,runesD_length,← hn,Nat.zero_add,Nat.le_refl,f17,f7,List.append_assoc,List.cons_append,List.nil_append,List.length_append,apR]
       refine ih (i+1) _ _ (by omega) ⟨by omega,?_,?_,?_,?_,_,g+1+1,n+1+1,τ++[.arr 0 ⟨1,21⟩ [.int .i32 65533],.arr 0 ⟨1,21⟩ [.int .i32 (bt b)]],hd,k1,k2,k3,?_,?_,?_,?_⟩
       ·simp (disch:=omega) only [go_sem,f6]
       ·simp (disch:=omega) only [go_sem,f8]
       ·simp (disch:=omega) only [go_sem,f16]
       ·simp (disch:=omega) only [go_sem]
       ·simp [hn]
       ·simp (disch:=omega) only [go_sem,f7]
       ·simp (disch:=omega) only [go_sem]
       ·simp only [runesD,List.map_append,List.append_assoc,List.cons_append,List.nil_append];rfl
      ·by_cases c6:(beginM (b.toNat:Int)).missing=0
       ·have es:stepD ⟨out,q,start⟩ i (bt b)=⟨(out++[65533])++[65533],beginM (bt b),i⟩:=by rw [es0,if_neg (show ¬ bt b<128 from c5),if_pos (show (beginM (bt b)).missing=0 from c6)]
        rw [es] at hd k1 k2 k3
        simp (disch:=omega) only [go_sem,c5,c6,f8,Sq.avs,hn2,hn3,hta,hta2,runesD_length,← hn,Nat.zero_add,Nat.le_refl,f17,f7,List.append_assoc,List.cons_append,List.nil_append,List.length_append,apR]
        refine ih (i+1) _ _ (by omega) ⟨by omega,?_,?_,?_,?_,_,g+1+1,n+1+1,τ++[.arr 0 ⟨1,21⟩ [.int .i32 65533],.arr 0 ⟨1,21⟩ [.int .i32 65533]],hd,k1,k2,k3,?_,?_,?_,?_⟩
        ·simp (disch:=omega) only [go_sem,f6]
        ·simp (disch:=omega) only [go_sem,f8]
        ·simp (disch:=omega) only [go_sem,f16]
        ·simp (disch:=omega) only [go_sem]
        ·simp [hn]
        ·simp (disch:=omega) only [go_sem,f7]
        ·simp (disch:=omega) only [go_sem]
        ·simp only [runesD,Sq.avs,bt,c6,List.map_append,List.append_assoc,List.cons_append,List.nil_append];rfl
       ·have es:stepD ⟨out,q,start⟩ i (bt b)=⟨out++[65533],beginM (bt b),i⟩:=by rw [es0,if_neg (show ¬ bt b<128 from c5),if_neg (show ¬ (beginM (bt b)).missing=0 from c6)]
        rw [es] at hd k1 k2 k3
        simp (disch:=omega) only [go_sem,c5,c6,f8,Sq.avs,hn2,hn3,hta,hta2,runesD_length,← hn,Nat.zero_add,Nat.le_refl,f17,f7,List.append_assoc,List.cons_append,List.nil_append,List.length_append,apR]
        refine ih (i+1) _ _ (by omega) ⟨by omega,?_,?_,?_,?_,_,g+1,n+1,τ++[.arr 0 ⟨1,21⟩ [.int .i32 65533]],hd,k1,k2,k3,?_,?_,?_,?_⟩
        ·simp (disch:=omega) only [go_sem,f6]
        ·simp (disch:=omega) only [go_sem,f8]
        ·simp (disch:=omega) only [go_sem,f16]
        ·simp (disch:=omega) only [go_sem]
        ·simp [hn]
        ·simp (disch:=omega) only [go_sem,f7]
        ·simp (disch:=omega) only [go_sem]
        ·simp only [runesD,List.map_append,List.append_assoc,List.cons_append,List.nil_append];rfl
     ·simp (disch:=omega) only [go_sem,c1,c2,f8,Sq.avs,hn2,hta,runesD_length,← hn,Nat.zero_add,Nat.le_refl,f7,List.append_assoc,List.cons_append,List.nil_append,List.length_append,apR]
      refine (begin46 (bt b)).at ?_
      simp (disch:=omega) only [go_sem,Sq.av,Sq.avs,f8,bt,List.append_assoc,List.cons_append,List.nil_append,List.length_append,apR]
      by_cases c5:(b.toNat:Int)<128
      ·have es:stepD ⟨out,q,start⟩ i (bt b)=⟨(out++[65533])++[bt b],beginM (bt b),i⟩:=by rw [es0,if_pos (show bt b<128 from c5)]
       rw [es] at hd k1 k2 k3
       simp (disch:=omega) only [go_sem,c5,hn2,hn3,hta,hta2,runesD_length,← hn,Nat.zero_add,Nat.le_refl,f17,f7,List.append_assoc,List.cons_append,List.nil_append,List.length_append,apR]
       refine ih (i+1) _ _ (by omega) ⟨by omega,?_,?_,?_,?_,_,g+1+1,n+1+1,τ++[.arr 0 ⟨1,21⟩ [.int .i32 65533],.arr 0 ⟨1,21⟩ [.int .i32 (bt b)]],hd,k1,k2,k3,?_,?_,?_,?_⟩
       ·simp (disch:=omega) only [go_sem,f6]
       ·simp (disch:=omega) only [go_sem,f8]
       ·simp (disch:=omega) only [go_sem,f16]
       ·simp (disch:=omega) only [go_sem]
       ·simp [hn]
       ·simp (disch:=omega) only [go_sem,f7]
       ·simp (disch:=omega) only [go_sem]
       ·simp only [runesD,List.map_append,List.append_assoc,List.cons_append,List.nil_append];rfl
      ·by_cases c6:(beginM (b.toNat:Int)).missing=0
       ·have es:stepD ⟨out,q,start⟩ i (bt b)=⟨(out++[65533])++[65533],beginM (bt b),i⟩:=by rw [es0,if_neg (show ¬ bt b<128 from c5),if_pos (show (beginM (bt b)).missing=0 from c6)]
        rw [es] at hd k1 k2 k3
        simp (disch:=omega) only [go_sem,c5,c6,f8,Sq.avs,hn2,hn3,hta,hta2,runesD_length,← hn,Nat.zero_add,Nat.le_refl,f17,f7,List.append_assoc,List.cons_append,List.nil_append,List.length_append,apR]
        refine ih (i+1) _ _ (by omega) ⟨by omega,?_,?_,?_,?_,_,g+1+1,n+1+1,τ++[.arr 0 ⟨1,21⟩ [.int .i32 65533],.arr 0 ⟨1,21⟩ [.int .i32 65533]],hd,k1,k2,k3,?_,?_,?_,?_⟩
        ·simp (disch:=omega) only [go_sem,f6]
        ·simp (disch:=omega) only [go_sem,f8]
        ·simp (disch:=omega) only [go_sem,f16]
        ·simp (disch:=omega) only [go_sem]
        ·simp [hn]
        ·simp (disch:=omega) only [go_sem,f7]
        ·simp (disch:=omega) only [go_sem]
        ·simp only [runesD,Sq.avs,bt,c6,List.map_append,List.append_assoc,List.cons_append,List.nil_append];rfl
       ·have es:stepD ⟨out,q,start⟩ i (bt b)=⟨out++[65533],beginM (bt b),i⟩:=by rw [es0,if_neg (show ¬ bt b<128 from c5),if_neg (show ¬ (beginM (bt b)).missing=0 from c6)]
        rw [es] at hd k1 k2 k3
        simp (disch:=omega) only [go_sem,c5,c6,f8,Sq.avs,hn2,hn3,hta,hta2,runesD_length,← hn,Nat.zero_add,Nat.le_refl,f17,f7,List.append_assoc,List.cons_append,List.nil_append,List.length_append,apR]
        refine ih (i+1) _ _ (by omega) ⟨by omega,?_,?_,?_,?_,_,g+1,n+1,τ++[.arr 0 ⟨1,21⟩ [.int .i32 65533]],hd,k1,k2,k3,?_,?_,?_,?_⟩
        ·simp (disch:=omega) only [go_sem,f6]
        ·simp (disch:=omega) only [go_sem,f8]
        ·simp (disch:=omega) only [go_sem,f16]
        ·simp (disch:=omega) only [go_sem]
        ·simp [hn]
        ·simp (disch:=omega) only [go_sem,f7]
        ·simp (disch:=omega) only [go_sem]
        ·simp only [runesD,List.map_append,List.append_assoc,List.cons_append,List.nil_append];rfl
    ·simp only [if_neg c1] at es1
     have es0:=es1
     simp (disch:=omega) only [go_sem,c1,f8,Sq.avs,f7,List.append_assoc,List.cons_append,List.nil_append,List.length_append,apR]
     refine (begin46 (bt b)).at ?_
     simp (disch:=omega) only [go_sem,Sq.av,Sq.avs,f8,bt,List.append_assoc,List.cons_append,List.nil_append,List.length_append,apR]
     by_cases c5:(b.toNat:Int)<128
     ·have es:stepD ⟨out,q,start⟩ i (bt b)=⟨out++[bt b],beginM (bt b),i⟩:=by rw [es0,if_pos (show bt b<128 from c5)]
      rw [es] at hd k1 k2 k3
      simp (disch:=omega) only [go_sem,c5,hn2,hn3,hta,hta2,runesD_length,← hn,Nat.zero_add,Nat.le_refl,f17,f7,List.append_assoc,List.cons_append,List.nil_append,List.length_append,apR]
      refine ih (i+1) _ _ (by omega) ⟨by omega,?_,?_,?_,?_,_,g+1,n+1,τ++[.arr 0 ⟨1,21⟩ [.int .i32 (bt b)]],hd,k1,k2,k3,?_,?_,?_,?_⟩
      ·simp (disch:=omega) only [go_sem,f6]
      ·simp (disch:=omega) only [go_sem,f8]
      ·simp (disch:=omega) only [go_sem,f16]
      ·simp (disch:=omega) only [go_sem]
      ·simp [hn]
      ·simp (disch:=omega) only [go_sem,f7]
      ·simp (disch:=omega) only [go_sem]
      ·simp only [runesD,List.map_append,List.append_assoc,List.cons_append,List.nil_append];rfl
     ·by_cases c6:(beginM (b.toNat:Int)).missing=0
      ·have es:stepD ⟨out,q,start⟩ i (bt b)=⟨out++[65533],beginM (bt b),i⟩:=by rw [es0,if_neg (show ¬ bt b<128 from c5),if_pos (show (beginM (bt b)).missing=0 from c6)]
       rw [es] at hd k1 k2 k3
       simp (disch:=omega) only [go_sem,c5,c6,f8,Sq.avs,hn2,hn3,hta,hta2,runesD_length,← hn,Nat.zero_add,Nat.le_refl,f17,f7,List.append_assoc,List.cons_append,List.nil_append,List.length_append,apR]
       refine ih (i+1) _ _ (by omega) ⟨by omega,?_,?_,?_,?_,_,g+1,n+1,τ++[.arr 0 ⟨1,21⟩ [.int .i32 65533]],hd,k1,k2,k3,?_,?_,?_,?_⟩
       ·simp (disch:=omega) only [go_sem,f6]
       ·simp (disch:=omega) only [go_sem,f8]
       ·simp (disch:=omega) only [go_sem,f16]
       ·simp (disch:=omega) only [go_sem]
       ·simp [hn]
       ·simp (disch:=omega) only [go_sem,f7]
       ·simp (disch:=omega) only [go_sem]
       ·simp only [runesD,Sq.avs,bt,c6,List.map_append,List.append_assoc,List.cons_append,List.nil_append];rfl
      ·have es:stepD ⟨out,q,start⟩ i (bt b)=⟨out,beginM (bt b),i⟩:=by rw [es0,if_neg (show ¬ bt b<128 from c5),if_neg (show ¬ (beginM (bt b)).missing=0 from c6)]
       rw [es] at hd k1 k2 k3
       simp (disch:=omega) only [go_sem,c5,c6,f8,Sq.avs,hn2,hn3,hta,hta2,runesD_length,← hn,Nat.zero_add,Nat.le_refl,f17,f7,List.append_assoc,List.cons_append,List.nil_append,List.length_append,apR]
       refine ih (i+1) _ _ (by omega) ⟨by omega,?_,?_,?_,?_,_,g,n,τ,hd,k1,k2,k3,?_,?_,?_,?_⟩
       ·simp (disch:=omega) only [go_sem,f6]
       ·simp (disch:=omega) only [go_sem,f8]
       ·simp (disch:=omega) only [go_sem,f16]
       ·simp (disch:=omega) only [go_sem]
       ·simp [hn]
       ·simp (disch:=omega) only [go_sem,f7]
       ·simp (disch:=omega) only [go_sem]
       ·simp only [runesD,List.map_append,List.append_assoc,List.cons_append,List.nil_append];rfl
  ·rw [List.drop_of_length_le (by omega),decL] at hd
   clear ih
   by_cases c1:q.missing=0
   ·have er:restM s=[]:=by rw [restM,← hd,if_pos c1]
    simp (disch:=omega) only [go_sem,f6,f8,f16,f17,f7,hlt,Sq.avs,c1,List.append_assoc,List.cons_append,List.nil_append,List.length_append,apR]
    exact ⟨_,rfl,g,n,_,by rw [← hd,hn],by rw [er],by rw [← hd]⟩
   ·have er:restM s=s.drop start:=by rw [restM,← hd,if_neg c1]
    have hsl:(0:Int)≤start∧(start:Int)≤s.length∧(s.length:Int)≤s.length:=by omega
    have hsl2:start≤s.length:=by omega
    have htk:List.drop start (List.take s.length s)=s.drop start:=by rw [List.take_of_length_le (Nat.le_refl _)]
    simp (disch:=omega) only [go_sem,f6,f8,f16,f17,f7,f9,hlt,Sq.avs,c1,hsl,hsl2,htk,Nat.le_refl,List.append_assoc,List.cons_append,List.nil_append,List.length_append,apR]
    exact ⟨_,rfl,g,n,_,by rw [← hd,hn],by rw [er],by rw [← hd]⟩
 ·refine ⟨by omega,?_,?_,?_,?_,dec0,0,0,[],rfl,by simp [dec0],Nat.le_refl _,Nat.le_refl _,rfl,?_,?_,?_⟩
  ·simp (disch:=omega) only [go_sem]
  ·simp (disch:=omega) only [go_sem,apR]
  ·simp (disch:=omega) only [go_sem]
  ·simp (disch:=omega) only [go_sem]
  ·simp (disch:=omega) only [go_sem]
  ·simp (disch:=omega) only [go_sem,dec0];try rfl
  ·simp (disch:=omega) only [go_sem,apR];rfl
end Go.Proofs.YtngdkenddfdhaaaGreatDoor
set_option linter.unusedVariables false
set_option linter.unusedSimpArgs false
set_option maxRecDepth 100000
namespace Go.Proofs.YtngdkenddfdhaaaGreatDoor
open Go Nv Pat
def finM (s:List UInt8):List Int:=(decM s).out++if restM s=[] then [] else [65533]
def charsM (s:List UInt8):List Int:=(decM s).out++finM (restM s)
theorem decL_ok:∀ (l:List UInt8) (i:Nat) (d:Dec),(0≤d.q.missing∧d.q.missing≤3)→d.start≤i→d.out.length≤2 * i→(decL l i d).out.length≤2 * (i+l.length)
 | [],i,d,_,_,h=>by simpa [decL] using h
 | b::l,i,d,h1,h2,h3=>by
  obtain ⟨k1,k2,k3⟩:=step_ok d i (bt b) h1 h2 h3
  have:=decL_ok l (i+1) _ k1 k2 k3
  rw [decL,List.length_cons];omega
theorem dec_len (s:List UInt8):(decM s).out.length≤2 * s.length:=by
 have:=decL_ok s 0 dec0 (by simp [dec0]) (Nat.le_refl _) (by simp [dec0])
 simpa [decM] using this
theorem rest_len (s:List UInt8):(restM s).length≤s.length:=by unfold restM;split <;> simp
theorem fin_len (s:List UInt8):(finM s).length≤2 * s.length+1:=by
 have:=dec_len s
 unfold finM;split <;> simp <;> omega
theorem finish32 (s:List UInt8) (hs:s.length≤100000) (σ:Nv.ST):RCall Tryz.prog 34 [.d (.str s)] σ fun v σ' =>
  ∃ g n τ,n=(finM s).length∧v=.own σ.length g 0 n∧σ'=σ++.arr g ⟨1,21⟩ (runesD (finM s))::τ:=by
 refine fn34.rel noHint (Nat.le_refl _) ?_
 simp (disch:=omega) only [go_sem]
 refine (decode31 s hs σ).at ?_
 rintro v σ' ⟨g,n,τ,hn,rfl,rfl⟩
 have hl:=dec_len s
 have hn2:(n+1) * 4≤140737488355328:=by omega
 have hta:=take_all (runesD (decM s).out) n (by rw [runesD_length,hn])
 by_cases h:restM s=[]
 ·have e:finM s=(decM s).out:=by rw [finM,if_pos h,List.append_nil]
  simp (disch:=omega) only [go_sem,h]
  exact ⟨_,rfl,g,n,τ,by rw [e,hn],rfl,by rw [e]⟩
 ·have e:finM s=(decM s).out++[65533]:=by rw [finM,if_neg h]
  simp (disch:=omega) only [go_sem,h,hn2,hta,runesD_length,← hn,Nat.zero_add,Nat.le_refl,List.append_assoc,List.cons_append,List.nil_append,List.length_append,apR]
  exact ⟨_,rfl,g+1,n+1,_,by rw [e,hn];simp,rfl,by rw [e];simp only [runesD,List.map_append];rfl⟩
open Classical in
noncomputable def matchB (n:Tree) (s:List UInt8):Bool:=decide (chkE n=0∧Lang n (charsM s))
theorem matchB_iff (n:Tree) (s:List UInt8):matchB n s=true↔chkE n=0∧Lang n (charsM s):=by simp [matchB]
end Go.Proofs.YtngdkenddfdhaaaGreatDoor
set_option linter.unusedVariables false
set_option linter.unusedSimpArgs false
set_option maxRecDepth 100000
namespace Go.Proofs.YtngdkenddfdhaaaGreatDoor
open Go Nv Pat
open Classical in
noncomputable def nfaB (A:Au) (s:List UInt8):Bool:=decide (A.Proper∧acceptM A (charsM s))
theorem nfaB_iff (A:Au) (s:List UInt8):nfaB A s=true↔A.Proper∧acceptM A (charsM s):=by simp [nfaB]
def hintsN:Nat→Hint:=fun i=>if i=21 then .freeze else if i=26 then .freeze else .no
@[go_sem] theorem hintsN_at (i:Nat):hintsN i=if i=21 then .freeze else if i=26 then .freeze else .no:=nrfl rfl
theorem clos_len (A:Au) (l:List Int):(closM A l).length≤A.arcs.length:=by
 unfold closM
 rw [List.length_map]
 exact Nat.le_trans (List.length_filter_le _ _) (by simp)
theorem run_take (A:Au) {t:List Int} {j:Nat} (h:j<t.length):runM A (t.take (j+1))=stepM A (runM A (t.take j)) (t.getD j default):=by
 rw [take_succ' t j h,run_snoc]
theorem run_len (A:Au) (t:List Int):(runM A t).length≤A.arcs.length:=by
 unfold runM
 have:∀ (t:List Int) (l:List Int),l.length≤A.arcs.length→(t.foldl (stepM A) l).length≤A.arcs.length:=by
  intro t
  induction t with
  | nil=>intro l h;exact h
  | cons c t ih=>intro l h;exact ih _ (clos_len A _)
 exact this t _ (clos_len A _)
theorem run_inR {A:Au} (hp:A.Proper) (t:List Int):∀ z,z∈runM A t→inR A.arcs.length z:=by
 intro z hz
 rw [← run_closed hp t] at hz
 exact from_inR hp ((mem_clos hp _ _).1 hz)
theorem match16 (A:Au) (hf:Fit A) (s:List UInt8) (hs:s.length≤10000):PCall Tryz.prog 16 [auA A,.d (.str s)] (.d (.bool (nfaB A s))):=by
 refine fn16.pure hintsN (Nat.le_refl _) (by simp only [go_sem,auA,auF,rowsD]) (by simp only [go_sem]) ?_
 simp (disch:=omega) only [go_sem,auA,auF,rowsD]
 refine (check17 A hf).at ?_
 cases hok:okA A with
 | false =>
  have e:nfaB A s=false:=by
   unfold nfaB
   simp only [decide_eq_false_iff_not]
   rintro ⟨h,_⟩
   rw [okA_proper.2 h] at hok;cases hok
  simp (disch:=omega) only [go_sem,e,Bool.false_eq_true]
 | true =>
  have hp:=okA_proper.1 hok
  simp (disch:=omega) only [go_sem,apR]
  refine (decode31 s (by omega) _).at ?_
  rintro v σ' ⟨g,m,τ,hm,rfl,rfl⟩
  simp (disch:=omega) only [go_sem,apR]
  refine (closure33 A hp hf [A.start] (by simp)).at ?_
  simp (disch:=omega) only [go_sem,apR]
  have hrl:=rest_len s
  refine (finish32 (restM s) (by omega) _).at ?_
  rintro v σ' ⟨g',m',τ',hm',rfl,rfl⟩
  have hl:=dec_len s
  have hl2:=fin_len (restM s)
  have hta:=take_all (runesD (decM s).out) m (by rw [runesD_length,hm])
  have hta':=take_all (runesD (finM (restM s))) m' (by rw [runesD_length,hm'])
  have hmm:(m+m') * 4≤140737488355328:=by omega
  obtain ⟨t,ht⟩:∃ t,t=charsM s:=⟨_,rfl⟩
  have htl:t.length=m+m':=by rw [ht,charsM,List.length_append,hm,hm']
  have hcat:List.take (m+m') (runesD (decM s).out++runesD (finM (restM s)))=runesD t:=by
   rw [ht,charsM,List.take_of_length_le (by rw [List.length_append,runesD_length,runesD_length];omega)]
   simp only [runesD,List.map_append]
  have hcat2:runesD (decM s).out++runesD (finM (restM s))=runesD t:=by
   rw [ht,charsM];simp only [runesD,List.map_append]
  have htt:List.take (m+m') (runesD t)=runesD t:=List.take_of_length_le (by rw [runesD_length];omega)
  have hres:nfaB A s=decide (A.accept∈runM A t):=by
   unfold nfaB
   rw [← ht]
   simp only [acceptM]
   exact decide_eq_decide.2 ⟨fun h=>h.2,fun h=>⟨hp,h⟩⟩
  simp (disch:=omega) only [go_sem,hta,hta',hmm,runesD_length,← hm,← hm',Nat.zero_add,Nat.le_refl,hcat,hcat2,List.append_assoc,List.cons_append,List.nil_append,List.length_append,apR]
  refine ⟨by omega,?_⟩
  refine wL_ind (fun (j:Nat) fr σ=>j≤t.length∧fr 2=.ptr 0 0∧fr 7=.d (intsD (runM A (t.take j)))∧fr 26=.d (.list 1 (runesD t))∧fr 27=.d (.int .i64 t.length)∧fr 28=.d (.int .i64 j) ∧
   ∃ τ,σ=.box 31 [AV.d (.int .i64 A.start),AV.d (.int .i64 A.accept),AV.d (.list 1 ((arcsL A.arcs).map (DV.list 3))),AV.d (.list 1 ((intsL A.emp).map (DV.list 1)))]::τ) (fun j=>t.length - j) ?_ 0 ?_
  ·rintro j fr σ ⟨hj,f2,f7,f26,f27,f28,τ,rfl⟩ ih
   by_cases hlt:j<t.length
   ·have hg:(runesD t).getD j default=.int .i32 (t.getD j default):=by
     simp [runesD,List.getD_eq_getElem?_getD,hlt]
    have hrl2:=run_len A (t.take j)
    have hmost:=hp.most
    simp (disch:=omega) only [go_sem,f2,f7,f26,f27,f28,hlt,hg]
    refine (step35 A hp hf (runM A (t.take j)) (by omega) (run_inR hp _) (t.getD j default)).at ?_
    simp (disch:=omega) only [go_sem,f28]
    refine ih (j+1) _ _ (by omega) ⟨by omega,?_,?_,?_,?_,?_,_,rfl⟩
    ·simp (disch:=omega) only [go_sem,f2]
    ·rw [run_take A hlt];simp (disch:=omega) only [go_sem]
    ·simp (disch:=omega) only [go_sem,f26]
    ·simp (disch:=omega) only [go_sem,f27]
    ·simp (disch:=omega) only [go_sem]
   ·have hje:j=t.length:=by omega
    subst hje
    rw [List.take_length] at f7
    have hrl2:=run_len A t
    have hmost:=hp.most
    simp (disch:=omega) only [go_sem,f2,f7,f26,f27,f28,hlt]
    refine (contains36 (runM A t) A.accept (by omega)).at ?_
    rw [hres]
    simp (disch:=omega) only [go_sem]
  ·refine ⟨by omega,?_,?_,?_,?_,?_,_,rfl⟩
   ·simp (disch:=omega) only [go_sem]
   ·simp (disch:=omega) only [go_sem];rfl
   ·simp (disch:=omega) only [go_sem,htt]
   ·simp (disch:=omega) only [go_sem,htt]
   ·simp (disch:=omega) only [go_sem]
end Go.Proofs.YtngdkenddfdhaaaGreatDoor
