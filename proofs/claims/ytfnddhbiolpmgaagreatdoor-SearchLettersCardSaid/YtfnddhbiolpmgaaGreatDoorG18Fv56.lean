/- Part of a proof about the functions of this seat. -/
import Derived.Test.YtfnddhbiolpmgaaGreatDoorG10Base56
import Derived.Test.YtfnddhbiolpmgaaGreatDoorG13Nfs
import Derived.Lib.ValidLaws
import Derived.Test.YtfnddhbiolpmgaaGreatDoorG17Fl56
import Derived.Test.YtfnddhbiolpmgaaGreatDoorG16Nfm
/- The prepared code of further functions. Written by a program of mine (gen.py) out of what the loaded dump prints. -/

set_option linter.unusedVariables false
set_option maxRecDepth 100000
namespace Go.Proofs.YtfnddhbiolpmgaaGreatDoor
open Go Nv
theorem fn37:FnIs Tryz.prog 37 2 [Go.ResultVar.tmp 4,Go.ResultVar.tmp 5] (.seq (.region [⟨some 4,Go.Op.assign (Go.Operand.const (Go.Value.slice none 0 0)),72,none⟩,
   ⟨some 5,Go.Op.assign (Go.Operand.const (Go.Value.string { data:=#[] })),9,none⟩])
  (.seq (.region [⟨some 12,Go.Op.move (Go.Operand.tmp 0),9,none⟩,
   ⟨some 13,Go.Op.move (Go.Operand.tmp 1),9,none⟩,
   ⟨some 14,Go.Op.binOp Go.BinOp.add 9 (Go.Operand.tmp 12) (Go.Operand.tmp 13) 9,9,none⟩,
   ⟨some 6,Go.Op.assign (Go.Operand.tmp 14),9,none⟩])
  (.seq (.region [⟨some 7,Go.Op.assign (Go.Operand.const (Go.Value.slice none 0 0)),72,none⟩])
  (.seq (.region [⟨some 8,Go.Op.alloc 119,0,none⟩])
  (.seq (.region [⟨some 9,Go.Op.assign (Go.Operand.const (Go.Value.int Go.IntKind.i64 0)),3,none⟩])
  (.seq (.seq (.region [⟨some 15,Go.Op.move (Go.Operand.tmp 6),9,none⟩,
   ⟨some 16,Go.Op.call { callee:=Go.Callee.builtin Go.Builtin.len,args:=#[Go.Operand.tmp 15],argTypes:=#[9] },3,none⟩,
   ⟨some 17,Go.Op.move (Go.Operand.const (Go.Value.int Go.IntKind.i64 0)),3,none⟩])
  (.block 0
   (.loop
    (.seq (.region [⟨some 18,Go.Op.binOp Go.BinOp.lss 3 (Go.Operand.tmp 17) (Go.Operand.tmp 16) 3,4,none⟩])
    (.seq (.cond (Go.Operand.tmp 18)
     .skip
     (.exit 0))
    (.seq (.block 1
     (.seq (.region [⟨some 19,Go.Op.move (Go.Operand.tmp 17),3,none⟩,
      ⟨some 10,Go.Op.assign (Go.Operand.tmp 19),3,none⟩])
     (.seq (.region [⟨some 20,Go.Op.move (Go.Operand.tmp 6),9,none⟩,
      ⟨some 21,Go.Op.move (Go.Operand.tmp 10),3,none⟩,
      ⟨some 22,Go.Op.index 9 (Go.Operand.tmp 20) (Go.Operand.tmp 21),5,none⟩,
      ⟨some 11,Go.Op.assign (Go.Operand.tmp 22),5,none⟩])
     (.seq (.seq (.region [⟨some 23,Go.Op.fieldAddr 119 (Go.Operand.tmp 8) 1,0,none⟩,
      ⟨some 24,Go.Op.load 3 (Go.Operand.tmp 23),3,none⟩,
      ⟨some 25,Go.Op.binOp Go.BinOp.gtr 3 (Go.Operand.tmp 24) (Go.Operand.const (Go.Value.int Go.IntKind.i64 0)) 3,4,none⟩,
      ⟨some 26,Go.Op.move (Go.Operand.tmp 25),4,none⟩,
      ⟨some 27,Go.Op.move (Go.Operand.tmp 11),5,(some (26,true))⟩,
      ⟨some 28,Go.Op.fieldAddr 119 (Go.Operand.tmp 8) 2,0,(some (26,true))⟩,
      ⟨some 29,Go.Op.load 5 (Go.Operand.tmp 28),5,(some (26,true))⟩,
      ⟨some 30,Go.Op.binOp Go.BinOp.geq 5 (Go.Operand.tmp 27) (Go.Operand.tmp 29) 5,4,(some (26,true))⟩,
      ⟨some 31,Go.Op.pick (Go.Operand.tmp 26) (Go.Operand.tmp 30) (Go.Operand.const (Go.Value.bool false)),4,none⟩,
      ⟨some 32,Go.Op.move (Go.Operand.tmp 31),4,none⟩,
      ⟨some 33,Go.Op.move (Go.Operand.tmp 11),5,(some (32,true))⟩,
      ⟨some 34,Go.Op.fieldAddr 119 (Go.Operand.tmp 8) 3,0,(some (32,true))⟩,
      ⟨some 35,Go.Op.load 5 (Go.Operand.tmp 34),5,(some (32,true))⟩,
      ⟨some 36,Go.Op.binOp Go.BinOp.leq 5 (Go.Operand.tmp 33) (Go.Operand.tmp 35) 5,4,(some (32,true))⟩,
      ⟨some 37,Go.Op.pick (Go.Operand.tmp 32) (Go.Operand.tmp 36) (Go.Operand.const (Go.Value.bool false)),4,none⟩])
     (.cond (Go.Operand.tmp 37)
      (.seq (.region [⟨some 38,Go.Op.fieldAddr 119 (Go.Operand.tmp 8) 0,0,none⟩,
       ⟨some 39,Go.Op.load 21 (Go.Operand.tmp 38),21,none⟩,
       ⟨some 40,Go.Op.binOp Go.BinOp.shl 21 (Go.Operand.tmp 39) (Go.Operand.const (Go.Value.int Go.IntKind.u64 6)) 56,21,none⟩,
       ⟨some 41,Go.Op.move (Go.Operand.tmp 11),5,none⟩,
       ⟨some 42,Go.Op.binOp Go.BinOp.and 5 (Go.Operand.tmp 41) (Go.Operand.const (Go.Value.int Go.IntKind.u8 63)) 5,5,none⟩,
       ⟨some 43,Go.Op.convert 5 21 (Go.Operand.tmp 42),21,none⟩,
       ⟨some 44,Go.Op.binOp Go.BinOp.or 21 (Go.Operand.tmp 40) (Go.Operand.tmp 43) 21,21,none⟩,
       ⟨some 45,Go.Op.fieldAddr 119 (Go.Operand.tmp 8) 1,0,none⟩,
       ⟨some 46,Go.Op.load 3 (Go.Operand.tmp 45),3,none⟩,
       ⟨some 47,Go.Op.binOp Go.BinOp.sub 3 (Go.Operand.tmp 46) (Go.Operand.const (Go.Value.int Go.IntKind.i64 1)) 3,3,none⟩,
       ⟨some 48,Go.Op.build 119 #[(0,Go.Operand.tmp 44),(1,Go.Operand.tmp 47),(2,Go.Operand.const (Go.Value.int Go.IntKind.u8 128)),(3,Go.Operand.const (Go.Value.int Go.IntKind.u8 191))],119,none⟩,
       ⟨none,Go.Op.store 119 (Go.Operand.tmp 8) (Go.Operand.tmp 48),0,none⟩])
      (.seq (.seq (.region [⟨some 49,Go.Op.fieldAddr 119 (Go.Operand.tmp 8) 1,0,none⟩,
       ⟨some 50,Go.Op.load 3 (Go.Operand.tmp 49),3,none⟩,
       ⟨some 51,Go.Op.binOp Go.BinOp.eql 3 (Go.Operand.tmp 50) (Go.Operand.const (Go.Value.int Go.IntKind.i64 0)) 3,4,none⟩])
      (.cond (Go.Operand.tmp 51)
       (.region [⟨some 52,Go.Op.move (Go.Operand.tmp 7),72,none⟩,
        ⟨some 53,Go.Op.fieldAddr 119 (Go.Operand.tmp 8) 0,0,none⟩,
        ⟨some 54,Go.Op.load 21 (Go.Operand.tmp 53),21,none⟩,
        ⟨some 55,Go.Op.buildSlice 72 1 #[(0,Go.Operand.tmp 54)],72,none⟩,
        ⟨some 56,Go.Op.call { callee:=Go.Callee.builtin Go.Builtin.append,args:=#[Go.Operand.tmp 52,Go.Operand.tmp 55],argTypes:=#[72,72] },72,none⟩,
        ⟨some 7,Go.Op.assign (Go.Operand.tmp 56),72,none⟩])
       .skip))
      (.exit 1)))
      .skip))
     (.seq (.seq (.region [⟨some 57,Go.Op.fieldAddr 119 (Go.Operand.tmp 8) 1,0,none⟩,
      ⟨some 58,Go.Op.load 3 (Go.Operand.tmp 57),3,none⟩,
      ⟨some 59,Go.Op.binOp Go.BinOp.gtr 3 (Go.Operand.tmp 58) (Go.Operand.const (Go.Value.int Go.IntKind.i64 0)) 3,4,none⟩])
     (.cond (Go.Operand.tmp 59)
      (.region [⟨some 60,Go.Op.move (Go.Operand.tmp 7),72,none⟩,
       ⟨some 61,Go.Op.buildSlice 72 1 #[(0,Go.Operand.const (Go.Value.int Go.IntKind.i32 65533))],72,none⟩,
       ⟨some 62,Go.Op.call { callee:=Go.Callee.builtin Go.Builtin.append,args:=#[Go.Operand.tmp 60,Go.Operand.tmp 61],argTypes:=#[72,72] },72,none⟩,
       ⟨some 7,Go.Op.assign (Go.Operand.tmp 62),72,none⟩])
      .skip))
     (.seq (.region [⟨some 63,Go.Op.move (Go.Operand.tmp 11),5,none⟩,
      ⟨some 64,Go.Op.call { callee:=Go.Callee.value (Go.Operand.func 57),args:=#[Go.Operand.tmp 63],argTypes:=#[5] },119,none⟩,
      ⟨some 65,Go.Op.move (Go.Operand.tmp 10),3,none⟩,
      ⟨none,Go.Op.store 119 (Go.Operand.tmp 8) (Go.Operand.tmp 64),0,none⟩,
      ⟨some 9,Go.Op.assign (Go.Operand.tmp 65),3,none⟩])
     (.block 2
      (.seq (.region [⟨some 67,Go.Op.move (Go.Operand.tmp 11),5,none⟩,
       ⟨some 68,Go.Op.binOp Go.BinOp.lss 5 (Go.Operand.tmp 67) (Go.Operand.const (Go.Value.int Go.IntKind.u8 128)) 5,4,none⟩,
       ⟨some 66,Go.Op.assign (Go.Operand.tmp 68),4,none⟩])
      (.cond (Go.Operand.tmp 66)
       (.region [⟨some 69,Go.Op.move (Go.Operand.tmp 7),72,none⟩,
        ⟨some 70,Go.Op.move (Go.Operand.tmp 11),5,none⟩,
        ⟨some 71,Go.Op.convert 5 21 (Go.Operand.tmp 70),21,none⟩,
        ⟨some 72,Go.Op.buildSlice 72 1 #[(0,Go.Operand.tmp 71)],72,none⟩,
        ⟨some 73,Go.Op.call { callee:=Go.Callee.builtin Go.Builtin.append,args:=#[Go.Operand.tmp 69,Go.Operand.tmp 72],argTypes:=#[72,72] },72,none⟩,
        ⟨some 7,Go.Op.assign (Go.Operand.tmp 73),72,none⟩])
       (.seq (.region [⟨some 75,Go.Op.fieldAddr 119 (Go.Operand.tmp 8) 1,0,none⟩,
        ⟨some 76,Go.Op.load 3 (Go.Operand.tmp 75),3,none⟩,
        ⟨some 77,Go.Op.binOp Go.BinOp.eql 3 (Go.Operand.tmp 76) (Go.Operand.const (Go.Value.int Go.IntKind.i64 0)) 3,4,none⟩,
        ⟨some 74,Go.Op.assign (Go.Operand.tmp 77),4,none⟩])
       (.cond (Go.Operand.tmp 74)
        (.region [⟨some 78,Go.Op.move (Go.Operand.tmp 7),72,none⟩,
         ⟨some 79,Go.Op.buildSlice 72 1 #[(0,Go.Operand.const (Go.Value.int Go.IntKind.i32 65533))],72,none⟩,
         ⟨some 80,Go.Op.call { callee:=Go.Callee.builtin Go.Builtin.append,args:=#[Go.Operand.tmp 78,Go.Operand.tmp 79],argTypes:=#[72,72] },72,none⟩,
         ⟨some 7,Go.Op.assign (Go.Operand.tmp 80),72,none⟩])
        .skip)))))))))))
    (.region [⟨some 81,Go.Op.binOp Go.BinOp.add 3 (Go.Operand.tmp 17) (Go.Operand.const (Go.Value.int Go.IntKind.i64 1)) 3,3,none⟩,
     ⟨some 17,Go.Op.move (Go.Operand.tmp 81),3,none⟩])))))))
  (.seq (.seq (.region [⟨some 82,Go.Op.fieldAddr 119 (Go.Operand.tmp 8) 1,0,none⟩,
   ⟨some 83,Go.Op.load 3 (Go.Operand.tmp 82),3,none⟩,
   ⟨some 84,Go.Op.binOp Go.BinOp.eql 3 (Go.Operand.tmp 83) (Go.Operand.const (Go.Value.int Go.IntKind.i64 0)) 3,4,none⟩])
  (.cond (Go.Operand.tmp 84)
   (.seq (.region [⟨some 85,Go.Op.move (Go.Operand.tmp 7),72,none⟩,
    ⟨some 4,Go.Op.assign (Go.Operand.tmp 85),72,none⟩,
    ⟨some 5,Go.Op.assign (Go.Operand.const (Go.Value.string { data:=#[] })),9,none⟩])
   .ret)
   .skip))
  (.seq (.draw true [⟨⟨some 86,Go.Op.move (Go.Operand.tmp 7),72,none⟩,false,false,false⟩,
   ⟨⟨some 87,Go.Op.move (Go.Operand.tmp 6),9,none⟩,false,false,false⟩,
   ⟨⟨some 88,Go.Op.move (Go.Operand.tmp 9),3,none⟩,false,false,false⟩,
   ⟨⟨some 89,Go.Op.slice 9 (Go.Operand.tmp 87) (some (Go.Operand.tmp 88)) none none,9,none⟩,false,false,false⟩,
   ⟨⟨some 4,Go.Op.assign (Go.Operand.tmp 86),72,none⟩,false,false,false⟩,
   ⟨⟨some 5,Go.Op.assign (Go.Operand.tmp 89),9,none⟩,false,false,false⟩] [[],[],[],[1,2],[0],[0,1,2,3,4]])
  .ret)))))))) :=
 ⟨foll,Tryz.f37,Tryz.func37,by kernel_rfl,by kernel_rfl,by kernel_rfl,by rw [Tryz.ntmps37];decide⟩
theorem fn57:FnIs Tryz.prog 57 1 [Go.ResultVar.cell 2 119] (.seq (.region [⟨some 2,Go.Op.alloc 119,0,none⟩])
  (.seq (.region [⟨some 4,Go.Op.build 119 #[(2,Go.Operand.const (Go.Value.int Go.IntKind.u8 128)),(3,Go.Operand.const (Go.Value.int Go.IntKind.u8 191))],119,none⟩,
   ⟨some 3,Go.Op.alloc 119,0,none⟩,
   ⟨none,Go.Op.store 119 (Go.Operand.tmp 3) (Go.Operand.tmp 4),0,none⟩])
  (.seq (.block 0
   (.seq (.region [⟨some 6,Go.Op.move (Go.Operand.tmp 0),5,none⟩,
    ⟨some 7,Go.Op.binOp Go.BinOp.geq 5 (Go.Operand.tmp 6) (Go.Operand.const (Go.Value.int Go.IntKind.u8 194)) 5,4,none⟩,
    ⟨some 8,Go.Op.move (Go.Operand.tmp 7),4,none⟩,
    ⟨some 9,Go.Op.move (Go.Operand.tmp 0),5,(some (8,true))⟩,
    ⟨some 10,Go.Op.binOp Go.BinOp.leq 5 (Go.Operand.tmp 9) (Go.Operand.const (Go.Value.int Go.IntKind.u8 223)) 5,4,(some (8,true))⟩,
    ⟨some 11,Go.Op.pick (Go.Operand.tmp 8) (Go.Operand.tmp 10) (Go.Operand.const (Go.Value.bool false)),4,none⟩,
    ⟨some 5,Go.Op.assign (Go.Operand.tmp 11),4,none⟩])
   (.cond (Go.Operand.tmp 5)
    (.region [⟨some 12,Go.Op.move (Go.Operand.tmp 0),5,none⟩,
     ⟨some 13,Go.Op.binOp Go.BinOp.and 5 (Go.Operand.tmp 12) (Go.Operand.const (Go.Value.int Go.IntKind.u8 31)) 5,5,none⟩,
     ⟨some 14,Go.Op.convert 5 21 (Go.Operand.tmp 13),21,none⟩,
     ⟨some 15,Go.Op.fieldAddr 119 (Go.Operand.tmp 3) 0,0,none⟩,
     ⟨none,Go.Op.store 21 (Go.Operand.tmp 15) (Go.Operand.tmp 14),0,none⟩,
     ⟨some 16,Go.Op.fieldAddr 119 (Go.Operand.tmp 3) 1,0,none⟩,
     ⟨none,Go.Op.store 3 (Go.Operand.tmp 16) (Go.Operand.const (Go.Value.int Go.IntKind.i64 1)),0,none⟩])
    (.seq (.region [⟨some 18,Go.Op.move (Go.Operand.tmp 0),5,none⟩,
     ⟨some 19,Go.Op.binOp Go.BinOp.geq 5 (Go.Operand.tmp 18) (Go.Operand.const (Go.Value.int Go.IntKind.u8 224)) 5,4,none⟩,
     ⟨some 20,Go.Op.move (Go.Operand.tmp 19),4,none⟩,
     ⟨some 21,Go.Op.move (Go.Operand.tmp 0),5,(some (20,true))⟩,
     ⟨some 22,Go.Op.binOp Go.BinOp.leq 5 (Go.Operand.tmp 21) (Go.Operand.const (Go.Value.int Go.IntKind.u8 239)) 5,4,(some (20,true))⟩,
     ⟨some 23,Go.Op.pick (Go.Operand.tmp 20) (Go.Operand.tmp 22) (Go.Operand.const (Go.Value.bool false)),4,none⟩,
     ⟨some 17,Go.Op.assign (Go.Operand.tmp 23),4,none⟩])
    (.cond (Go.Operand.tmp 17)
     (.region [⟨some 24,Go.Op.move (Go.Operand.tmp 0),5,none⟩,
      ⟨some 25,Go.Op.binOp Go.BinOp.and 5 (Go.Operand.tmp 24) (Go.Operand.const (Go.Value.int Go.IntKind.u8 15)) 5,5,none⟩,
      ⟨some 26,Go.Op.convert 5 21 (Go.Operand.tmp 25),21,none⟩,
      ⟨some 27,Go.Op.fieldAddr 119 (Go.Operand.tmp 3) 0,0,none⟩,
      ⟨none,Go.Op.store 21 (Go.Operand.tmp 27) (Go.Operand.tmp 26),0,none⟩,
      ⟨some 28,Go.Op.fieldAddr 119 (Go.Operand.tmp 3) 1,0,none⟩,
      ⟨none,Go.Op.store 3 (Go.Operand.tmp 28) (Go.Operand.const (Go.Value.int Go.IntKind.i64 2)),0,none⟩])
     (.seq (.region [⟨some 30,Go.Op.move (Go.Operand.tmp 0),5,none⟩,
      ⟨some 31,Go.Op.binOp Go.BinOp.geq 5 (Go.Operand.tmp 30) (Go.Operand.const (Go.Value.int Go.IntKind.u8 240)) 5,4,none⟩,
      ⟨some 32,Go.Op.move (Go.Operand.tmp 31),4,none⟩,
      ⟨some 33,Go.Op.move (Go.Operand.tmp 0),5,(some (32,true))⟩,
      ⟨some 34,Go.Op.binOp Go.BinOp.leq 5 (Go.Operand.tmp 33) (Go.Operand.const (Go.Value.int Go.IntKind.u8 244)) 5,4,(some (32,true))⟩,
      ⟨some 35,Go.Op.pick (Go.Operand.tmp 32) (Go.Operand.tmp 34) (Go.Operand.const (Go.Value.bool false)),4,none⟩,
      ⟨some 29,Go.Op.assign (Go.Operand.tmp 35),4,none⟩])
     (.cond (Go.Operand.tmp 29)
      (.region [⟨some 36,Go.Op.move (Go.Operand.tmp 0),5,none⟩,
       ⟨some 37,Go.Op.binOp Go.BinOp.and 5 (Go.Operand.tmp 36) (Go.Operand.const (Go.Value.int Go.IntKind.u8 7)) 5,5,none⟩,
       ⟨some 38,Go.Op.convert 5 21 (Go.Operand.tmp 37),21,none⟩,
       ⟨some 39,Go.Op.fieldAddr 119 (Go.Operand.tmp 3) 0,0,none⟩,
       ⟨none,Go.Op.store 21 (Go.Operand.tmp 39) (Go.Operand.tmp 38),0,none⟩,
       ⟨some 40,Go.Op.fieldAddr 119 (Go.Operand.tmp 3) 1,0,none⟩,
       ⟨none,Go.Op.store 3 (Go.Operand.tmp 40) (Go.Operand.const (Go.Value.int Go.IntKind.i64 3)),0,none⟩])
      .skip)))))))
  (.seq (.seq (.region [⟨some 41,Go.Op.move (Go.Operand.tmp 0),5,none⟩])
  (.block 1
   (.seq (.region [⟨some 43,Go.Op.binOp Go.BinOp.eql 5 (Go.Operand.tmp 41) (Go.Operand.const (Go.Value.int Go.IntKind.u8 224)) 5,4,none⟩,
    ⟨some 42,Go.Op.assign (Go.Operand.tmp 43),4,none⟩])
   (.cond (Go.Operand.tmp 42)
    (.region [⟨some 44,Go.Op.fieldAddr 119 (Go.Operand.tmp 3) 2,0,none⟩,
     ⟨none,Go.Op.store 5 (Go.Operand.tmp 44) (Go.Operand.const (Go.Value.int Go.IntKind.u8 160)),0,none⟩])
    (.seq (.region [⟨some 46,Go.Op.binOp Go.BinOp.eql 5 (Go.Operand.tmp 41) (Go.Operand.const (Go.Value.int Go.IntKind.u8 237)) 5,4,none⟩,
     ⟨some 45,Go.Op.assign (Go.Operand.tmp 46),4,none⟩])
    (.cond (Go.Operand.tmp 45)
     (.region [⟨some 47,Go.Op.fieldAddr 119 (Go.Operand.tmp 3) 3,0,none⟩,
      ⟨none,Go.Op.store 5 (Go.Operand.tmp 47) (Go.Operand.const (Go.Value.int Go.IntKind.u8 159)),0,none⟩])
     (.seq (.region [⟨some 49,Go.Op.binOp Go.BinOp.eql 5 (Go.Operand.tmp 41) (Go.Operand.const (Go.Value.int Go.IntKind.u8 240)) 5,4,none⟩,
      ⟨some 48,Go.Op.assign (Go.Operand.tmp 49),4,none⟩])
     (.cond (Go.Operand.tmp 48)
      (.region [⟨some 50,Go.Op.fieldAddr 119 (Go.Operand.tmp 3) 2,0,none⟩,
       ⟨none,Go.Op.store 5 (Go.Operand.tmp 50) (Go.Operand.const (Go.Value.int Go.IntKind.u8 144)),0,none⟩])
      (.seq (.region [⟨some 52,Go.Op.binOp Go.BinOp.eql 5 (Go.Operand.tmp 41) (Go.Operand.const (Go.Value.int Go.IntKind.u8 244)) 5,4,none⟩,
       ⟨some 51,Go.Op.assign (Go.Operand.tmp 52),4,none⟩])
      (.cond (Go.Operand.tmp 51)
       (.region [⟨some 53,Go.Op.fieldAddr 119 (Go.Operand.tmp 3) 3,0,none⟩,
        ⟨none,Go.Op.store 5 (Go.Operand.tmp 53) (Go.Operand.const (Go.Value.int Go.IntKind.u8 143)),0,none⟩])
       .skip))))))))))
  (.seq (.region [⟨some 54,Go.Op.load 119 (Go.Operand.tmp 3),119,none⟩,
   ⟨none,Go.Op.store 119 (Go.Operand.tmp 2) (Go.Operand.tmp 54),0,none⟩])
  .ret))))) :=
 ⟨foll,Tryz.f57,Tryz.func57,by kernel_rfl,by kernel_rfl,by kernel_rfl,by rw [Tryz.ntmps57];decide⟩
end Go.Proofs.YtfnddhbiolpmgaaGreatDoor
set_option linter.unusedVariables false
set_option linter.unusedSimpArgs false
set_option maxRecDepth 100000
namespace Go.Proofs.YtfnddhbiolpmgaaGreatDoor
open Go Nv Pat
end Go.Proofs.YtfnddhbiolpmgaaGreatDoor
set_option linter.unusedVariables false
set_option linter.unusedSimpArgs false
set_option maxRecDepth 100000
namespace Go.Proofs.YtfnddhbiolpmgaaGreatDoor
open Go Nv Pat
end Go.Proofs.YtfnddhbiolpmgaaGreatDoor
set_option linter.unusedVariables false
set_option linter.unusedSimpArgs false
set_option maxRecDepth 100000
namespace Go.Proofs.YtfnddhbiolpmgaaGreatDoor
open Go Nv Pat
end Go.Proofs.YtfnddhbiolpmgaaGreatDoor
set_option linter.unusedVariables false
set_option linter.unusedSimpArgs false
set_option maxRecDepth 100000
namespace Go.Proofs.YtfnddhbiolpmgaaGreatDoor
open Go Nv Pat
structure Sq where
 value:Int
 missing:Int
 low:Int
 high:Int
 deriving Inhabited
def Sq.avs (s:Sq):List AV:=[.d (.int .i32 s.value),.d (.int .i64 s.missing),.d (.int .u8 s.low),.d (.int .u8 s.high)]
def Sq.av (s:Sq):AV:=.agg s.avs
def m8 (b m:Int):Int:=((BitVec.ofInt 8 b &&& BitVec.ofInt 8 m).toNat:Int)
def beginM (b:Int):Sq :=
 if 194≤b∧b≤223 then ⟨m8 b 31,1,128,191⟩
 else if 224≤b∧b≤239 then ⟨m8 b 15,2,if b=224 then 160 else 128,if b=237 then 159 else 191⟩
 else if 240≤b∧b≤244 then ⟨m8 b 7,3,if b=240 then 144 else 128,if b=244 then 143 else 191⟩
 else ⟨0,0,128,191⟩
inductive OkSeq:List UInt8→Prop
 | one {b:UInt8}:b.toNat<128→OkSeq [b]
 | two {b c:UInt8}:(beginM (bt b)).missing=1→(beginM (bt b)).low≤bt c→bt c≤(beginM (bt b)).high→OkSeq [b,c]
 | three {b c d:UInt8}:(beginM (bt b)).missing=2→(beginM (bt b)).low≤bt c→bt c≤(beginM (bt b)).high→128≤bt d→bt d≤191→OkSeq [b,c,d]
 | four {b c d e:UInt8}:(beginM (bt b)).missing=3→(beginM (bt b)).low≤bt c→bt c≤(beginM (bt b)).high→128≤bt d→bt d≤191→128≤bt e→bt e≤191→OkSeq [b,c,d,e]
theorem first_begin:∀ b:Fin 256,128≤b.val →
  ((beginM (b.val:Int)).missing=0∧Lib.firstT b.val % 8≠2∧Lib.firstT b.val % 8≠3∧Lib.firstT b.val % 8≠4) ∨
  ((beginM (b.val:Int)).missing+1=(Lib.firstT b.val % 8:Nat)∧(Lib.firstT b.val % 8=2∨Lib.firstT b.val % 8=3∨Lib.firstT b.val % 8=4) ∧
   (beginM (b.val:Int)).low=(Lib.accLo (Lib.firstT b.val / 16):Nat)∧(beginM (b.val:Int)).high=(Lib.accHi (Lib.firstT b.val / 16):Nat)):=by decide +kernel
theorem begin_first (b:UInt8) (h:128≤b.toNat) :
  ((beginM (bt b)).missing=0∧Lib.firstT b.toNat % 8≠2∧Lib.firstT b.toNat % 8≠3∧Lib.firstT b.toNat % 8≠4) ∨
  ((beginM (bt b)).missing+1=(Lib.firstT b.toNat % 8:Nat)∧(Lib.firstT b.toNat % 8=2∨Lib.firstT b.toNat % 8=3∨Lib.firstT b.toNat % 8=4) ∧
   (beginM (bt b)).low=(Lib.accLo (Lib.firstT b.toNat / 16):Nat)∧(beginM (bt b)).high=(Lib.accHi (Lib.firstT b.toNat / 16):Nat)) :=
 first_begin ⟨b.toNat,b.toNat_lt⟩ h
theorem valid_split {s:List UInt8} (h:Lib.validD s=true) (hne:s≠[]):∃ p r,s=p++r∧OkSeq p∧Lib.validD r=true:=by
 cases s with
 | nil=>exact absurd rfl hne
 | cons b t =>
  rcases Nat.lt_or_ge b.toNat 128 with hb | hb
  ·exact ⟨[b],t,rfl,.one hb,by rwa [Lib.validD_cons _ _ hb] at h⟩
  ·rw [Lib.validD_lead _ (by simp) (by simpa using hb)] at h
   simp only [List.getD_cons_zero,List.getD_cons_succ,List.length_cons] at h
   rcases begin_first b hb with ⟨k1,k2,k3,k4⟩ | ⟨k1,k2,k3,k4⟩
   ·simp only [Lib.checkN,k2,k3,k4,if_false] at h;exact absurd h (by simp)
   ·rcases k2 with e | e | e
    ·simp only [e,Lib.checkN,if_true] at h
     split at h
     ·exact absurd h (by simp)
     ·rename_i hk
      split at hk
      ·cases hk
      ·rename_i hc
       cases hk
       match t,hc with
       | [],hc=>simp at hc
       | c::t,hc =>
        simp only [List.getD_cons_zero,List.getD_cons_succ,List.length_cons] at hc
        refine ⟨[b,c],t,rfl,.two (by omega) ?_ ?_,by simpa using h⟩ <;> (unfold bt at *;omega)
    ·simp only [e,Lib.checkN,if_true,show ¬ (3:Nat)=2 by omega,if_false] at h
     split at h
     ·exact absurd h (by simp)
     ·rename_i hk
      split at hk
      ·cases hk
      ·rename_i hc
       cases hk
       match t,hc with
       | [],hc=>simp at hc
       | [c],hc=>simp at hc
       | c::d::t,hc =>
        simp only [List.getD_cons_zero,List.getD_cons_succ,List.length_cons] at hc
        refine ⟨[b,c,d],t,rfl,.three (by omega) ?_ ?_ ?_ ?_,by simpa using h⟩ <;> (unfold bt at *;omega)
    ·simp only [e,Lib.checkN,if_true,show ¬ (4:Nat)=2 by omega,show ¬ (4:Nat)=3 by omega,if_false] at h
     split at h
     ·exact absurd h (by simp)
     ·rename_i hk
      split at hk
      ·cases hk
      ·rename_i hc
       cases hk
       match t,hc with
       | [],hc=>simp at hc
       | [c],hc=>simp at hc
       | [c,d],hc=>simp at hc
       | c::d::f::t,hc =>
        simp only [List.getD_cons_zero,List.getD_cons_succ,List.length_cons] at hc
        refine ⟨[b,c,d,f],t,rfl,.four (by omega) ?_ ?_ ?_ ?_ ?_ ?_,by simpa using h⟩ <;> (unfold bt at *;omega)
theorem valid_ind {P:List UInt8→Prop} (h0:P []) (h1:∀ p r,OkSeq p→Lib.validD r=true→P r→P (p++r)):∀ (n:Nat) (s:List UInt8),s.length≤n→Lib.validD s=true→P s
 | 0,s,hn,_=>by rw [List.eq_nil_of_length_eq_zero (l:=s) (by omega)];exact h0
 | n+1,s,hn,hv=>by
  by_cases hne:s=[]
  ·rw [hne];exact h0
  ·obtain ⟨p,r,rfl,hp,hr⟩:=valid_split hv hne
   have hl:0<p.length:=by cases hp <;> simp
   rw [List.length_append] at hn
   exact h1 p r hp hr (valid_ind h0 h1 n r (by omega) hr)
end Go.Proofs.YtfnddhbiolpmgaaGreatDoor
set_option linter.unusedVariables false
set_option linter.unusedSimpArgs false
set_option maxRecDepth 100000
namespace Go.Proofs.YtfnddhbiolpmgaaGreatDoor
open Go Nv Pat
theorem begin46 (b:Int):PCall Tryz.prog 57 [.d (.int .u8 b)] (beginM b).av:=by
 refine fn57.pure noHint (Nat.le_refl _) (by simp only [go_sem]) (by simp only [go_sem,Sq.av,Sq.avs]) ?_
 simp (disch:=omega) only [go_sem]
 have n224:b<224→¬ b=224∧¬ b=237∧¬ b=240∧¬ b=244:=fun _=>by omega
 by_cases h1:194≤b∧b≤223
 ·have e:beginM b=⟨m8 b 31,1,128,191⟩:=if_pos h1
  have h1a:b ≥ 194:=h1.1
  have h1b:=h1.2
  obtain ⟨q1,q2,q3,q4⟩:=n224 (by omega)
  simp (disch:=omega) only [go_sem,h1a,h1b,q1,q2,q3,q4,e,Sq.av,Sq.avs,m8]
  rfl
 by_cases h2:224≤b∧b≤239
 ·have e:beginM b=⟨m8 b 15,2,if b=224 then 160 else 128,if b=237 then 159 else 191⟩:=by rw [beginM,if_neg h1,if_pos h2]
  have h2a:b ≥ 224:=h2.1
  have h2b:=h2.2
  have h1a:b ≥ 194:=by omega
  have h1b:¬ b≤223:=by omega
  have q3:¬ b=240:=by omega
  have q4:¬ b=244:=by omega
  by_cases q1:b=224
  ·have q2:¬ b=237:=by omega
   rw [if_pos q1,if_neg q2] at e
   simp (disch:=omega) only [go_sem,h1a,h1b,h2a,h2b,e,Sq.av,Sq.avs,m8]
   simp (disch:=omega) only [go_sem,q1]
   rfl
  ·by_cases q2:b=237
   ·rw [if_neg q1,if_pos q2] at e
    simp (disch:=omega) only [go_sem,h1a,h1b,h2a,h2b,e,Sq.av,Sq.avs,m8]
    simp (disch:=omega) only [go_sem,q1]
    simp (disch:=omega) only [go_sem,q2]
    rfl
   ·rw [if_neg q1,if_neg q2] at e
    simp (disch:=omega) only [go_sem,h1a,h1b,h2a,h2b,e,Sq.av,Sq.avs,m8,q1,q2,q3,q4]
    rfl
 by_cases h3:240≤b∧b≤244
 ·have e:beginM b=⟨m8 b 7,3,if b=240 then 144 else 128,if b=244 then 143 else 191⟩:=by rw [beginM,if_neg h1,if_neg h2,if_pos h3]
  have h3a:b ≥ 240:=h3.1
  have h3b:=h3.2
  have h1a:b ≥ 194:=by omega
  have h1b:¬ b≤223:=by omega
  have h2a:b ≥ 224:=by omega
  have h2b:¬ b≤239:=by omega
  have q1:¬ b=224:=by omega
  have q2:¬ b=237:=by omega
  by_cases q3:b=240
  ·have q4:¬ b=244:=by omega
   rw [if_pos q3,if_neg q4] at e
   simp (disch:=omega) only [go_sem,h1a,h1b,h2a,h2b,h3a,h3b,e,Sq.av,Sq.avs,m8,q1,q2]
   simp (disch:=omega) only [go_sem,q3]
   rfl
  ·by_cases q4:b=244
   ·rw [if_neg q3,if_pos q4] at e
    simp (disch:=omega) only [go_sem,h1a,h1b,h2a,h2b,h3a,h3b,e,Sq.av,Sq.avs,m8,q1,q2,q3]
    simp (disch:=omega) only [go_sem,q4]
    rfl
   ·rw [if_neg q3,if_neg q4] at e
    simp (disch:=omega) only [go_sem,h1a,h1b,h2a,h2b,h3a,h3b,e,Sq.av,Sq.avs,m8,q1,q2,q3,q4]
    rfl
 ·have e:beginM b=⟨0,0,128,191⟩:=by rw [beginM,if_neg h1,if_neg h2,if_neg h3]
  have q1:¬ b=224:=by omega
  have q2:¬ b=237:=by omega
  have q3:¬ b=240:=by omega
  have q4:¬ b=244:=by omega
  by_cases h1a:b ≥ 194
  ·have h1b:¬ b≤223:=by omega
   have h2a:b ≥ 224:=by omega
   have h2b:¬ b≤239:=by omega
   have h3a:b ≥ 240:=by omega
   have h3b:¬ b≤244:=by omega
   simp (disch:=omega) only [go_sem,h1a,h1b,h2a,h2b,h3a,h3b,e,Sq.av,Sq.avs,q1,q2,q3,q4]
  ·have h2a:¬ b ≥ 224:=by omega
   have h3a:¬ b ≥ 240:=by omega
   simp (disch:=omega) only [go_sem,h1a,h2a,h3a,e,Sq.av,Sq.avs,q1,q2,q3,q4]
end Go.Proofs.YtfnddhbiolpmgaaGreatDoor
set_option linter.unusedVariables false
set_option linter.unusedSimpArgs false
set_option maxRecDepth 100000
namespace Go.Proofs.YtfnddhbiolpmgaaGreatDoor
open Go Nv Pat
def hintD:Nat→Hint:=fun i=>if i=7 then .own ⟨1,21⟩ else .no
@[go_sem] theorem hintD_at (i:Nat):hintD i=if i=7 then .own ⟨1,21⟩ else .no:=nrfl rfl
def valM (v b:Int):Int:=IntKind.i32.wrap ((BitVec.ofInt 32 (IntKind.i32.wrap (v * 2 ^ min 6 32)) ||| BitVec.ofInt 32 (m8 b 63)).toNat:Int)
def goesOn (q:Sq) (b:Int):Prop:=0<q.missing∧q.low≤b∧b≤q.high
instance (q:Sq) (b:Int):Decidable (goesOn q b):=inferInstanceAs (Decidable (_∧_∧_))
structure Dec where
 out:List Int
 q:Sq
 start:Nat
def more (q:Sq) (b:Int):Sq:=⟨valM q.value b,q.missing - 1,128,191⟩
def stepD (d:Dec) (i:Nat) (b:Int):Dec :=
 if goesOn d.q b then
  ⟨if d.q.missing - 1=0 then d.out++[valM d.q.value b] else d.out,more d.q b,d.start⟩
 else
  let out:=if 0<d.q.missing then d.out++[65533] else d.out
  ⟨if b<128 then out++[b] else if (beginM b).missing=0 then out++[65533] else out,beginM b,i⟩
def decL:List UInt8→Nat→Dec→Dec
 | [],_,d=>d
 | b::l,i,d=>decL l (i+1) (stepD d i (bt b))
def dec0:Dec:=⟨[],⟨0,0,0,0⟩,0⟩
def decM (s:List UInt8):Dec:=decL s 0 dec0
def restM (s:List UInt8):List UInt8:=if (decM s).q.missing=0 then [] else s.drop (decM s).start
theorem begin_miss (b:Int):0≤(beginM b).missing∧(beginM b).missing≤3:=by
 unfold beginM;split
 ·simp
 ·split
  ·simp
  ·split <;> simp
theorem step_ok (d:Dec) (i:Nat) (b:Int) (hm:0≤d.q.missing∧d.q.missing≤3) (hs:d.start≤i) (ho:d.out.length≤2 * i) :
  (0≤(stepD d i b).q.missing∧(stepD d i b).q.missing≤3)∧(stepD d i b).start≤i+1∧(stepD d i b).out.length≤2 * (i+1):=by
 unfold stepD
 split
 ·rename_i h
  obtain ⟨h1,_,_⟩:=h
  refine ⟨⟨by simp only [more];omega,by simp only [more];omega⟩,by first | omega | (dsimp only;omega),?_⟩
  try dsimp only
  split <;> (try simp) <;> omega
 ·refine ⟨begin_miss b,by first | omega | (dsimp only;omega),?_⟩
  try dsimp only
  split <;> split <;> (try split) <;> (try simp) <;> omega
theorem decode31 (s:List UInt8) (hs:s.length≤100000) (σ:Nv.ST):RCall Tryz.prog 37 [.d (.str []),.d (.str s)] σ fun v σ' =>
  ∃ g n τ,n=(decM s).out.length∧v=.tuple [.own σ.length g 0 n,.d (.str (restM s))]∧σ'=σ++.arr g ⟨1,21⟩ (runesD (decM s).out)::τ:=by
 refine fn37.rel hintD (Nat.le_refl _) ?_
 have e0:0+s.length≤9223372036854775807:=by omega
 simp (disch:=omega) only [go_sem,e0]
 refine wL_ind (fun (i:Nat) fr σ'=>i≤s.length∧fr 6=.d (.str s)∧fr 8=.ptr (σ.length+1) 0∧fr 16=.d (.int .i64 s.length)∧fr 17=.d (.int .i64 i) ∧
  ∃ (d:Dec) (g n:Nat) (τ:Nv.ST),decL (s.drop i) i d=decM s∧(0≤d.q.missing∧d.q.missing≤3)∧d.start≤i∧d.out.length≤2 * i∧n=d.out.length∧fr 7=.own σ.length g 0 n∧fr 9=.d (.int .i64 d.start) ∧
   σ'=σ++.arr g ⟨1,21⟩ (runesD d.out)::.box 119 d.q.avs::τ) (fun i=>s.length - i) ?_ 0 ?_
 ·rintro i fr σ' ⟨hi,f6,f8,f16,f17,⟨out,q,start⟩,g,n,τ,hd,hm,hst,hol,hn,f7,f9,rfl⟩ ih
  simp only at hm hst hol hn f9
  by_cases hlt:i<s.length
  ·obtain ⟨b,hb⟩:∃ b,b=s.getD i 0:=⟨_,rfl⟩
   have hdr:s.drop i=b::s.drop (i+1):=by
    rw [hb,List.drop_eq_getElem_cons hlt,List.getD_eq_getElem?_getD,List.getElem?_eq_getElem hlt];rfl
   rw [hdr,decL] at hd
   obtain ⟨k1,k2,k3⟩:=step_ok ⟨out,q,start⟩ i (bt b) hm hst hol
   have hn2:(n+1) * 4≤140737488355328:=by omega
   have hn3:(n+1+1) * 4≤140737488355328:=by omega
   have hta:=take_all (runesD out) n (by rw [runesD_length,hn])
   simp (disch:=omega) only [go_sem,f6,f8,f16,f17,hlt,Sq.avs,← hb,List.append_assoc,List.cons_append,List.nil_append,List.length_append,apR]
   by_cases hg:goesOn q (bt b)
   ·obtain ⟨g1,g2,g3⟩:=hg
    have es:stepD ⟨out,q,start⟩ i (bt b)=⟨if q.missing - 1=0 then out++[valM q.value (bt b)] else out,more q (bt b),start⟩:=if_pos ⟨g1,g2,g3⟩
    rw [es] at hd k1 k2 k3
    simp only [bt] at g2 g3
    have hw:IntKind.i64.wrap (q.missing - 1)=q.missing - 1:=wrap_id (by omega) (by omega)
    simp (disch:=omega) only [go_sem,g1,g2,g3,f8,Sq.avs,hw,List.append_assoc,List.cons_append,List.nil_append,List.length_append,apR]
    by_cases c4:q.missing - 1=0
    ·rw [if_pos c4] at hd k3
     simp (disch:=omega) only [go_sem,c4,f7,f8,hn2,hta,runesD_length,← hn,Nat.zero_add,Nat.le_refl,f17,List.append_assoc,List.cons_append,List.nil_append,List.length_append,apR]
     refine ih (i+1) _ _ (by omega) ⟨by omega,?_,?_,?_,?_,_,g+1,n+1,τ++[.arr 0 ⟨1,21⟩ [.int .i32 (valM q.value (bt b))]],hd,k1,k2,k3,?_,?_,?_,?_⟩
     ·simp (disch:=omega) only [go_sem,f6]
     ·simp (disch:=omega) only [go_sem,f8]
     ·simp (disch:=omega) only [go_sem,f16]
     ·simp (disch:=omega) only [go_sem]
     ·simp [hn]
     ·simp (disch:=omega) only [go_sem]
     ·simp (disch:=omega) only [go_sem,f9]
     ·simp only [Sq.avs,more,c4,runesD,List.map_append,List.append_assoc,List.cons_append];rfl
    ·rw [if_neg c4] at hd k3
     simp (disch:=omega) only [go_sem,c4,f17,f8,List.append_assoc,List.cons_append,List.nil_append,List.length_append,apR]
     refine ih (i+1) _ _ (by omega) ⟨by omega,?_,?_,?_,?_,_,g,n,τ,hd,k1,k2,k3,hn,?_,?_,?_⟩
     ·simp (disch:=omega) only [go_sem,f6]
     ·simp (disch:=omega) only [go_sem,f8]
     ·simp (disch:=omega) only [go_sem,f16]
     ·simp (disch:=omega) only [go_sem]
     ·simp (disch:=omega) only [go_sem,f7]
     ·simp (disch:=omega) only [go_sem,f9]
     ·rfl
   ·have h256:(b.toNat:Int)<256:=by have:=b.toNat_lt;omega
    have es1:stepD ⟨out,q,start⟩ i (bt b)=⟨if bt b<128 then (if 0<q.missing then out++[65533] else out)++[bt b] else if (beginM (bt b)).missing=0 then (if 0<q.missing then out++[65533] else out)++[65533] else (if 0<q.missing then out++[65533] else out),beginM (bt b),i⟩:=if_neg hg
    have hn4:n+1=(out++[65533]).length:=by simp [hn]
    have hta2:=take_all (runesD out++[DV.int .i32 65533]) (n+1) (by simp [runesD_length,hn])
    by_cases c1:0<q.missing
    ·simp only [if_pos c1] at es1
     have es0:=es1
     by_cases c2:q.low≤(b.toNat:Int)
     ·have c3:¬ (b.toNat:Int)≤q.high:=fun h=>hg ⟨c1,c2,h⟩
      simp (disch:=omega) only [go_sem,c1,c2,c3,f8,Sq.avs,hn2,hta,runesD_length,← hn,Nat.zero_add,Nat.le_refl,f7,List.append_assoc,List.cons_append,List.nil_append,List.length_append,apR]
      refine (begin46 (bt b)).at ?_
      simp (disch:=omega) only [go_sem,Sq.av,Sq.avs,f8,bt,List.append_assoc,List.cons_append,List.nil_append,List.length_append,apR]
      by_cases c5:(b.toNat:Int)<128
      ·have es:stepD ⟨out,q,start⟩ i (bt b)=⟨(out++[65533])++[bt b],beginM (bt b),i⟩:=by rw [es0,if_pos (show bt b<128 from c5)]
       rw [es] at hd k1 k2 k3
       simp (disch:=omega) only [go_sem,c5,hn2,hn3,hta,hta2,runesD_length,← hn,Nat.zero_add,Nat.le_refl,f17,f7,List.append_assoc,List.cons_append,List.nil_append,List.length_append,apR]
       refine ih (i+1) _ _ (by omega) ⟨by omega,?_,?_,?_,?_,_,g+1+1,n+1+1,τ++[.arr 0 ⟨1,21⟩ [.int .i32 65533],.arr 0 ⟨1,21⟩ [.int .i32 (bt b)]],hd,k1,k2,k3,?_,?_,?_,?_⟩
       ·simp (disch:=omega) only [go_sem,f6]
       ·simp (disch:=omega) only [go_sem,f8]
       ·simp (disch:=omega) only [go_sem,f16]
       ·simp (disch:=omega) only [go_sem]
       ·simp [hn]
       ·simp (disch:=omega) only [go_sem,f7]
       ·simp (disch:=omega) only [go_sem]
       ·simp only [runesD,List.map_append,List.append_assoc,List.cons_append,List.nil_append];rfl
      ·by_cases c6:(beginM (b.toNat:Int)).missing=0
       ·have es:stepD ⟨out,q,start⟩ i (bt b)=⟨(out++[65533])++[65533],beginM (bt b),i⟩:=by rw [es0,if_neg (show ¬ bt b<128 from c5),if_pos (show (beginM (bt b)).missing=0 from c6)]
        rw [es] at hd k1 k2 k3
        simp (disch:=omega) only [go_sem,c5,c6,f8,Sq.avs,hn2,hn3,hta,hta2,runesD_length,← hn,Nat.zero_add,Nat.le_refl,f17,f7,List.append_assoc,List.cons_append,List.nil_append,List.length_append,apR]
        refine ih (i+1) _ _ (by omega) ⟨by omega,?_,?_,?_,?_,_,g+1+1,n+1+1,τ++[.arr 0 ⟨1,21⟩ [.int .i32 65533],.arr 0 ⟨1,21⟩ [.int .i32 65533]],hd,k1,k2,k3,?_,?_,?_,?_⟩
        ·simp (disch:=omega) only [go_sem,f6]
        ·simp (disch:=omega) only [go_sem,f8]
        ·simp (disch:=omega) only [go_sem,f16]
        ·simp (disch:=omega) only [go_sem]
        ·simp [hn]
        ·simp (disch:=omega) only [go_sem,f7]
        ·simp (disch:=omega) only [go_sem]
        ·simp only [runesD,Sq.avs,bt,c6,List.map_append,List.append_assoc,List.cons_append,List.nil_append];rfl
       ·have es:stepD ⟨out,q,start⟩ i (bt b)=⟨out++[65533],beginM (bt b),i⟩:=by rw [es0,if_neg (show ¬ bt b<128 from c5),if_neg (show ¬ (beginM (bt b)).missing=0 from c6)]
        rw [es] at hd k1 k2 k3
        simp (disch:=omega) only [go_sem,c5,c6,f8,Sq.avs,hn2,hn3,hta,hta2,runesD_length,← hn,Nat.zero_add,Nat.le_refl,f17,f7,List.append_assoc,List.cons_append,List.nil_append,List.length_append,apR]
        refine ih (i+1) _ _ (by omega) ⟨by omega,?_,?_,?_,?_,_,g+1,n+1,τ++[.arr 0 ⟨1,21⟩ [.int .i32 65533]],hd,k1,k2,k3,?_,?_,?_,?_⟩
        ·simp (disch:=omega) only [go_sem,f6]
        ·simp (disch:=omega) only [go_sem,f8]
        ·simp (disch:=omega) only [go_sem,f16]
        ·simp (disch:=omega) only [go_sem]
        ·simp [hn]
        ·simp (disch:=omega) only [go_sem,f7]
        ·simp (disch:=omega) only [go_sem]
        ·simp only [runesD,List.map_append,List.append_assoc,List.cons_append,List.nil_append];rfl
     ·simp (disch:=omega) only [go_sem,c1,c2,f8,Sq.avs,hn2,hta,runesD_length,← hn,Nat.zero_add,Nat.le_refl,f7,List.append_assoc,List.cons_append,List.nil_append,List.length_append,apR]
      refine (begin46 (bt b)).at ?_
      simp (disch:=omega) only [go_sem,Sq.av,Sq.avs,f8,bt,List.append_assoc,List.cons_append,List.nil_append,List.length_append,apR]
      by_cases c5:(b.toNat:Int)<128
      ·have es:stepD ⟨out,q,start⟩ i (bt b)=⟨(out++[65533])++[bt b],beginM (bt b),i⟩:=by rw [es0,if_pos (show bt b<128 from c5)]
       rw [es] at hd k1 k2 k3
       simp (disch:=omega) only [go_sem,c5,hn2,hn3,hta,hta2,runesD_length,← hn,Nat.zero_add,Nat.le_refl,f17,f7,List.append_assoc,List.cons_append,List.nil_append,List.length_append,apR]
       refine ih (i+1) _ _ (by omega) ⟨by omega,?_,?_,?_,?_,_,g+1+1,n+1+1,τ++[.arr 0 ⟨1,21⟩ [.int .i32 65533],.arr 0 ⟨1,21⟩ [.int .i32 (bt b)]],hd,k1,k2,k3,?_,?_,?_,?_⟩
       ·simp (disch:=omega) only [go_sem,f6]
       ·simp (disch:=omega) only [go_sem,f8]
       ·simp (disch:=omega) only [go_sem,f16]
       ·simp (disch:=omega) only [go_sem]
       ·simp [hn]
       ·simp (disch:=omega) only [go_sem,f7]
       ·simp (disch:=omega) only [go_sem]
       ·simp only [runesD,List.map_append,List.append_assoc,List.cons_append,List.nil_append];rfl
      ·by_cases c6:(beginM (b.toNat:Int)).missing=0
       ·have es:stepD ⟨out,q,start⟩ i (bt b)=⟨(out++[65533])++[65533],beginM (bt b),i⟩:=by rw [es0,if_neg (show ¬ bt b<128 from c5),if_pos (show (beginM (bt b)).missing=0 from c6)]
        rw [es] at hd k1 k2 k3
        simp (disch:=omega) only [go_sem,c5,c6,f8,Sq.avs,hn2,hn3,hta,hta2,runesD_length,← hn,Nat.zero_add,Nat.le_refl,f17,f7,List.append_assoc,List.cons_append,List.nil_append,List.length_append,apR]
        refine ih (i+1) _ _ (by omega) ⟨by omega,?_,?_,?_,?_,_,g+1+1,n+1+1,τ++[.arr 0 ⟨1,21⟩ [.int .i32 65533],.arr 0 ⟨1,21⟩ [.int .i32 65533]],hd,k1,k2,k3,?_,?_,?_,?_⟩
        ·simp (disch:=omega) only [go_sem,f6]
        ·simp (disch:=omega) only [go_sem,f8]
        ·simp (disch:=omega) only [go_sem,f16]
        ·simp (disch:=omega) only [go_sem]
        ·simp [hn]
        ·simp (disch:=omega) only [go_sem,f7]
        ·simp (disch:=omega) only [go_sem]
        ·simp only [runesD,Sq.avs,bt,c6,List.map_append,List.append_assoc,List.cons_append,List.nil_append];rfl
       ·have es:stepD ⟨out,q,start⟩ i (bt b)=⟨out++[65533],beginM (bt b),i⟩:=by rw [es0,if_neg (show ¬ bt b<128 from c5),if_neg (show ¬ (beginM (bt b)).missing=0 from c6)]
        rw [es] at hd k1 k2 k3
        simp (disch:=omega) only [go_sem,c5,c6,f8,Sq.avs,hn2,hn3,hta,hta2,runesD_length,← hn,Nat.zero_add,Nat.le_refl,f17,f7,List.append_assoc,List.cons_append,List.nil_append,List.length_append,apR]
        refine ih (i+1) _ _ (by omega) ⟨by omega,?_,?_,?_,?_,_,g+1,n+1,τ++[.arr 0 ⟨1,21⟩ [.int .i32 65533]],hd,k1,k2,k3,?_,?_,?_,?_⟩
        ·simp (disch:=omega) only [go_sem,f6]
        ·simp (disch:=omega) only [go_sem,f8]
        ·simp (disch:=omega) only [go_sem,f16]
        ·simp (disch:=omega) only [go_sem]
        ·simp [hn]
        ·simp (disch:=omega) only [go_sem,f7]
        ·simp (disch:=omega) only [go_sem]
        ·simp only [runesD,List.map_append,List.append_assoc,List.cons_append,List.nil_append];rfl
    ·simp only [if_neg c1] at es1
     have es0:=es1
     simp (disch:=omega) only [go_sem,c1,f8,Sq.avs,f7,List.append_assoc,List.cons_append,List.nil_append,List.length_append,apR]
     refine (begin46 (bt b)).at ?_
     simp (disch:=omega) only [go_sem,Sq.av,Sq.avs,f8,bt,List.append_assoc,List.cons_append,List.nil_append,List.length_append,apR]
     by_cases c5:(b.toNat:Int)<128
     ·have es:stepD ⟨out,q,start⟩ i (bt b)=⟨out++[bt b],beginM (bt b),i⟩:=by rw [es0,if_pos (show bt b<128 from c5)]
      rw [es] at hd k1 k2 k3
      simp (disch:=omega) only [go_sem,c5,hn2,hn3,hta,hta2,runesD_length,← hn,Nat.zero_add,Nat.le_refl,f17,f7,List.append_assoc,List.cons_append,List.nil_append,List.length_append,apR]
      refine ih (i+1) _ _ (by omega) ⟨by omega,?_,?_,?_,?_,_,g+1,n+1,τ++[.arr 0 ⟨1,21⟩ [.int .i32 (bt b)]],hd,k1,k2,k3,?_,?_,?_,?_⟩
      ·simp (disch:=omega) only [go_sem,f6]
      ·simp (disch:=omega) only [go_sem,f8]
      ·simp (disch:=omega) only [go_sem,f16]
      ·simp (disch:=omega) only [go_sem]
      ·simp [hn]
      ·simp (disch:=omega) only [go_sem,f7]
      ·simp (disch:=omega) only [go_sem]
      ·simp only [runesD,List.map_append,List.append_assoc,List.cons_append,List.nil_append];rfl
     ·by_cases c6:(beginM (b.toNat:Int)).missing=0
      ·have es:stepD ⟨out,q,start⟩ i (bt b)=⟨out++[65533],beginM (bt b),i⟩:=by rw [es0,if_neg (show ¬ bt b<128 from c5),if_pos (show (beginM (bt b)).missing=0 from c6)]
       rw [es] at hd k1 k2 k3
       simp (disch:=omega) only [go_sem,c5,c6,f8,Sq.avs,hn2,hn3,hta,hta2,runesD_length,← hn,Nat.zero_add,Nat.le_refl,f17,f7,List.append_assoc,List.cons_append,List.nil_append,List.length_append,apR]
       refine ih (i+1) _ _ (by omega) ⟨by omega,?_,?_,?_,?_,_,g+1,n+1,τ++[.arr 0 ⟨1,21⟩ [.int .i32 65533]],hd,k1,k2,k3,?_,?_,?_,?_⟩
       ·simp (disch:=omega) only [go_sem,f6]
       ·simp (disch:=omega) only [go_sem,f8]
       ·simp (disch:=omega) only [go_sem,f16]
       ·simp (disch:=omega) only [go_sem]
       ·simp [hn]
       ·simp (disch:=omega) only [go_sem,f7]
       ·simp (disch:=omega) only [go_sem]
       ·simp only [runesD,Sq.avs,bt,c6,List.map_append,List.append_assoc,List.cons_append,List.nil_append];rfl
      ·have es:stepD ⟨out,q,start⟩ i (bt b)=⟨out,beginM (bt b),i⟩:=by rw [es0,if_neg (show ¬ bt b<128 from c5),if_neg (show ¬ (beginM (bt b)).missing=0 from c6)]
       rw [es] at hd k1 k2 k3
       simp (disch:=omega) only [go_sem,c5,c6,f8,Sq.avs,hn2,hn3,hta,hta2,runesD_length,← hn,Nat.zero_add,Nat.le_refl,f17,f7,List.append_assoc,List.cons_append,List.nil_append,List.length_append,apR]
       refine ih (i+1) _ _ (by omega) ⟨by omega,?_,?_,?_,?_,_,g,n,τ,hd,k1,k2,k3,?_,?_,?_,?_⟩
       ·simp (disch:=omega) only [go_sem,f6]
       ·simp (disch:=omega) only [go_sem,f8]
       ·simp (disch:=omega) only [go_sem,f16]
       ·simp (disch:=omega) only [go_sem]
       ·simp [hn]
       ·simp (disch:=omega) only [go_sem,f7]
       ·simp (disch:=omega) only [go_sem]
       ·simp only [runesD,List.map_append,List.append_assoc,List.cons_append,List.nil_append];rfl
  ·rw [List.drop_of_length_le (by omega),decL] at hd
   clear ih
   by_cases c1:q.missing=0
   ·have er:restM s=[]:=by rw [restM,← hd,if_pos c1]
    simp (disch:=omega) only [go_sem,f6,f8,f16,f17,f7,hlt,Sq.avs,c1,List.append_assoc,List.cons_append,List.nil_append,List.length_append,apR]
    exact ⟨_,rfl,g,n,_,by rw [← hd,hn],by rw [er],by rw [← hd]⟩
   ·have er:restM s=s.drop start:=by rw [restM,← hd,if_neg c1]
    have hsl:(0:Int)≤start∧(start:Int)≤s.length∧(s.length:Int)≤s.length:=by omega
    have hsl2:start≤s.length:=by omega
    have htk:List.drop start (List.take s.length s)=s.drop start:=by rw [List.take_of_length_le (Nat.le_refl _)]
    simp (disch:=omega) only [go_sem,f6,f8,f16,f17,f7,f9,hlt,Sq.avs,c1,hsl,hsl2,htk,Nat.le_refl,List.append_assoc,List.cons_append,List.nil_append,List.length_append,apR]
    exact ⟨_,rfl,g,n,_,by rw [← hd,hn],by rw [er],by rw [← hd]⟩
 ·refine ⟨by omega,?_,?_,?_,?_,dec0,0,0,[],rfl,by simp [dec0],Nat.le_refl _,Nat.le_refl _,rfl,?_,?_,?_⟩
  ·simp (disch:=omega) only [go_sem]
  ·simp (disch:=omega) only [go_sem,apR]
  ·simp (disch:=omega) only [go_sem]
  ·simp (disch:=omega) only [go_sem]
  ·simp (disch:=omega) only [go_sem]
  ·simp (disch:=omega) only [go_sem,dec0];try rfl
  ·simp (disch:=omega) only [go_sem,apR];rfl
end Go.Proofs.YtfnddhbiolpmgaaGreatDoor
set_option linter.unusedVariables false
set_option linter.unusedSimpArgs false
set_option maxRecDepth 100000
namespace Go.Proofs.YtfnddhbiolpmgaaGreatDoor
open Go Nv Pat
def finM (s:List UInt8):List Int:=(decM s).out++if restM s=[] then [] else [65533]
def charsM (s:List UInt8):List Int:=(decM s).out++finM (restM s)
end Go.Proofs.YtfnddhbiolpmgaaGreatDoor
set_option linter.unusedVariables false
set_option linter.unusedSimpArgs false
set_option maxRecDepth 100000
namespace Go.Proofs.YtfnddhbiolpmgaaGreatDoor
open Go Nv Pat
theorem clos_len (A:Au) (l:List Int):(closM A l).length≤A.arcs.length:=by
 unfold closM
 rw [List.length_map]
 exact Nat.le_trans (List.length_filter_le _ _) (by simp)
theorem run_len (A:Au) (t:List Int):(runM A t).length≤A.arcs.length:=by
 unfold runM
 have:∀ (t:List Int) (l:List Int),l.length≤A.arcs.length→(t.foldl (stepM A) l).length≤A.arcs.length:=by
  intro t
  induction t with
  | nil=>intro l h;exact h
  | cons c t ih=>intro l h;exact ih _ (clos_len A _)
 exact this t _ (clos_len A _)
end Go.Proofs.YtfnddhbiolpmgaaGreatDoor
set_option linter.unusedVariables false
set_option linter.unusedSimpArgs false
set_option maxRecDepth 100000
namespace Go.Proofs.YtfnddhbiolpmgaaGreatDoor
open Go Nv Pat
theorem proper_mem:∀ (s:List (Int × Int)) (p:Option Int),properFrom p s=true→∀ r,r∈s→rgB r=true
 | [],_,_,r,hr=>by cases hr
 | x::s,none,h,r,hr=>by
  simp only [properFrom,Bool.and_eq_true] at h
  rcases List.mem_cons.1 hr with rfl | hr
  ·exact h.1
  ·exact proper_mem s _ h.2 r hr
 | x::s,some q,h,r,hr=>by
  simp only [properFrom,Bool.and_eq_true] at h
  rcases List.mem_cons.1 hr with rfl | hr
  ·exact h.1.1
  ·exact proper_mem s _ h.2 r hr
theorem rgB_ok {r:Int × Int} (h:rgB r=true):scalar r.1∧scalar r.2∧r.1≤r.2:=by
 unfold rgB at h
 simp only [Bool.and_eq_true,decide_eq_true_eq] at h
 exact ⟨(charB_iff2 _).1 h.1.1.1,(charB_iff2 _).1 h.1.1.2,h.1.2⟩
theorem chk_set {k:Int} {s:List (Int × Int)} {l:List Tree} {a b:Int} (h:chk (.mk k s l a b)=0) (hk:k=2):∀ r,r∈s→rgB r=true:=by
 obtain ⟨h1,h2,h3⟩:=chk_ok h
 subst hk
 unfold badB at h2
 simp only [Bool.or_eq_false_iff,Bool.not_eq_false'] at h2
 have hp:=h2.1.1
 unfold partsB at hp
 rw [if_neg (by omega),if_pos rfl] at hp
 simp only [Bool.and_eq_true] at hp
 exact proper_mem s none hp.2
theorem catA_mem:∀ (xs:List Tree) (o:Nat),(∀ x,x∈xs→WF x)→∀ l,l∈catA (xs.map fun x o=>rowsA x o) o→∃ (x:Tree) (o':Nat),x∈xs∧o≤o'∧o'+sz x≤o+(xs.map sz).sum∧l∈rowsA x o'
 | [],o,_,l,h=>by simp [catA] at h
 | x::xs,o,hw,l,h=>by
  simp only [List.map_cons,catA,List.mem_append] at h
  have hx:=rowsA_len (hw x (by simp)) o
  rcases h with h | h
  ·exact ⟨x,o,by simp,Nat.le_refl _,by simp only [List.map_cons,List.sum_cons];omega,h⟩
  ·rw [hx] at h
   obtain ⟨y,o',h1,h2,h3,h4⟩:=catA_mem xs _ (fun y hy=>hw y (by simp [hy])) l h
   exact ⟨y,o',by simp [h1],by omega,by simp only [List.map_cons,List.sum_cons];omega,h4⟩
theorem rows_ok:∀ n:Tree,chk n=0→∀ (o:Nat) l,l∈rowsA n o→∀ x,x∈l→scalar x.1∧scalar x.2.1∧x.1≤x.2.1∧0≤x.2.2∧x.2.2<((o+sz n:Nat):Int):=by
 intro n
 induction n using Tree.ind with
 | h k s sub a b ih =>
  intro hc o l hl x hx
  obtain ⟨h1,h2,h3,h4⟩:=chk_kinds hc
  have hwf:=chk_wf _ hc
  have h2s:=sz_two hwf
  by_cases hk:k=2
  ·rw [rowsA,if_pos hk] at hl
   simp only [List.mem_cons,List.not_mem_nil,or_false] at hl
   rcases hl with rfl | rfl
   ·obtain ⟨r,hr,rfl⟩:=List.mem_map.1 hx
    obtain ⟨q1,q2,q3⟩:=rgB_ok (chk_set hc hk r hr)
    exact ⟨q1,q2,q3,by dsimp only;omega,by dsimp only;omega⟩
   ·cases hx
  ·rw [rowsA_items k s sub a b o hk (fun h5=>by obtain ⟨y,rfl,_⟩:=h3 h5;simp)] at hl
   rw [sz_eq hwf]
   simp only [List.mem_cons,List.mem_append,List.not_mem_nil,or_false] at hl
   have hit:∀ y,y∈items (.mk k s sub a b)→y∈sub:=by
    intro y hy
    by_cases h5:k=5
    ·obtain ⟨z,rfl,_⟩:=h3 h5
     simp only [items,h5,if_true,List.headD_cons] at hy
     rw [(List.mem_replicate.1 hy).2];simp
    ·simpa [items,h5] using hy
   rcases hl with rfl | hl | rfl
   ·cases hx
   ·obtain ⟨y,o',q1,q2,q3,q4⟩:=catA_mem _ _ (items_wf hwf) l hl
    obtain ⟨r1,r2,r3,r4,r5⟩:=ih y (hit y q1) (h4 y (hit y q1)) o' l q4 x hx
    exact ⟨r1,r2,r3,r4,by omega⟩
   ·cases hx
theorem st0_is:st0.Is [] (fun _ _=>False):=⟨rfl,rfl,fun r z=>by simp [Mem,st0]⟩
structure Built (n:Tree) (A:Au):Prop where
 arcs:A.arcs=rowsA n 0
 len:A.emp.length=sz n
 emp:∀ r z,z∈A.emp.getD r []↔∃ t:Nat,z=t∧Ed n 0 r t
 start:A.start=0
 accept:A.accept=(sz n:Int) - 1
theorem build_is {n:Tree} (hn:WF n):Built n (buildM n):=by
 obtain ⟨h1,h2⟩:=part_spec hn st0 [] _ st0_is
 simp only [List.nil_append,List.length_nil,Nat.zero_add,false_or] at h1 h2
 refine ⟨h1.a,?_,fun r z=>?_,rfl,?_⟩
 ·simp only [buildM,List.length_map]
  rw [h1.e,rowsA_len hn]
 ·rw [← h1.m r z]
  unfold Mem
  simp only [buildM]
  rw [List.getD_eq_getElem?_getD,List.getD_eq_getElem?_getD,List.getElem?_map]
  cases (partB n st0).1.E[r]? with
  | none=>simp
  | some l=>simp [sortI]
 ·simp only [buildM];omega
theorem built_proper {n:Tree} {A:Au} (hb:Built n A) (hc:chk n=0) (hs:sz n≤3000):A.Proper:=by
 have hwf:=chk_wf n hc
 have h2:=sz_two hwf
 have hl:A.arcs.length=sz n:=by rw [hb.arcs,rowsA_len hwf]
 refine ⟨by omega,by omega,by rw [hb.len,hl],?_,?_,fun l hl' x hx=>?_,fun l hl' z hz=>?_⟩
 ·rw [hl,hb.start];exact ⟨Int.le_refl _,by omega⟩
 ·rw [hl,hb.accept];exact ⟨by omega,by omega⟩
 ·rw [hb.arcs] at hl'
  obtain ⟨q1,q2,q3,q4,q5⟩:=rows_ok n hc 0 l hl' x hx
  rw [hl]
  exact ⟨q1,q2,q3,q4,by simpa using q5⟩
 ·obtain ⟨r,hr,rfl⟩:=List.mem_iff_getElem.1 hl'
  obtain ⟨t,rfl,he⟩:=(hb.emp r z).1 (by rw [List.getD_eq_getElem?_getD,List.getElem?_eq_getElem hr];exact hz)
  have:=ed_region hwf 0 r t he
  rw [hl];exact ⟨by omega,by omega⟩
theorem built_accept {n:Tree} {A:Au} (hb:Built n A) (hc:chk n=0) (hs:sz n≤3000) (w:List Int):acceptM A w↔Lang n w:=by
 have hwf:=chk_wf n hc
 have h2:=sz_two hwf
 have hp:=built_proper hb hc hs
 rw [accept_iff hp w,hb.start,hb.accept]
 have e:((sz n:Int) - 1).toNat=sz n - 1:=by omega
 rw [e]
 have hE:∀ x t,EpA A x t↔Ed n 0 x t:=fun x t=>by
  unfold EpA
  rw [hb.emp]
  constructor
  ·rintro ⟨t',h,he⟩
   have:t=t':=by omega
   rw [this];exact he
  ·exact fun he=>⟨t,rfl,he⟩
 refine reads_all hwf (fun r h0 h1=>⟨fun t=>hE r t,fun c t=>?_⟩) (fun t h=>?_) (fun c t h=>?_) w
 ·unfold ArA;rw [hb.arcs,Nat.sub_zero]
 ·have:=ed_region hwf 0 _ t ((hE _ t).1 h)
  omega
 ·unfold ArA at h
  rw [hb.arcs] at h
  obtain ⟨lo,hi,hm,_⟩:=h
  rw [rowsA_last hwf] at hm;cases hm
end Go.Proofs.YtfnddhbiolpmgaaGreatDoor
set_option linter.unusedVariables false
set_option linter.unusedSimpArgs false
set_option maxRecDepth 100000
namespace Go.Proofs.YtfnddhbiolpmgaaGreatDoor
open Go Nv Pat
theorem rows_short:∀ n:Tree,chk n=0→Thin n→∀ (o:Nat) l,l∈rowsA n o→l.length≤1000000:=by
 intro n
 induction n using Tree.ind with
 | h k s sub a b ih =>
  intro hc ht o l hl
  obtain ⟨h1,h2,h3,h4⟩:=chk_kinds hc
  have hwf:=chk_wf _ hc
  simp only [Thin] at ht
  by_cases hk:k=2
  ·rw [rowsA,if_pos hk] at hl
   simp only [List.mem_cons,List.not_mem_nil,or_false] at hl
   rcases hl with rfl | rfl
   ·rw [List.length_map];exact ht.1
   ·simp
  ·rw [rowsA_items k s sub a b o hk (fun h5=>by obtain ⟨y,rfl,_⟩:=h3 h5;simp)] at hl
   simp only [List.mem_cons,List.mem_append,List.not_mem_nil,or_false] at hl
   have hit:∀ y,y∈items (.mk k s sub a b)→y∈sub:=by
    intro y hy
    by_cases h5:k=5
    ·obtain ⟨z,rfl,_⟩:=h3 h5
     simp only [items,h5,if_true,List.headD_cons] at hy
     rw [(List.mem_replicate.1 hy).2];simp
    ·simpa [items,h5] using hy
   rcases hl with rfl | hl | rfl
   ·simp
   ·obtain ⟨y,o',q1,_,_,q4⟩:=catA_mem _ _ (items_wf hwf) l hl
    exact ih y (hit y q1) (h4 y (hit y q1)) (thinL_mem ht.2 (hit y q1)) o' l q4
   ·simp
theorem build_fit {n:Tree} (hc:chk n=0) (ht:Thin n) (hs:sz n≤3000):Fit (buildM n):=by
 have hwf:=chk_wf n hc
 have hb:=build_is hwf
 have hl:(buildM n).arcs.length=sz n:=by rw [hb.arcs,rowsA_len hwf]
 have hO0:Okb st0:=⟨rfl,fun f=>by simp [st0],fun f z hz=>by simp [st0] at hz⟩
 have hOk:Okb (partB n st0).1:=(part_ok hwf st0 hO0).1
 have hpl:=(part_len hwf hO0).1
 refine ⟨by omega,by rw [hb.len];omega,fun l hl'=>?_,fun l hl'=>?_⟩
 ·rw [hb.arcs] at hl'
  have:=rows_short n hc ht 0 l hl'
  omega
 ·simp only [buildM,List.mem_map] at hl'
  obtain ⟨l0,h0,rfl⟩:=hl'
  obtain ⟨r,hr,rfl⟩:=List.mem_iff_getElem.1 h0
  have:=hOk.row r
  rw [List.getD_eq_getElem?_getD,List.getElem?_eq_getElem hr] at this
  rw [sortI_len]
  have h00:st0.A.length=0:=rfl
  simp only [Option.getD_some] at this
  omega
end Go.Proofs.YtfnddhbiolpmgaaGreatDoor
