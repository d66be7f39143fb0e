/- Part of a proof about the functions of this seat. -/
import Derived.Test.YtngdkenddfdhaaaGreatDoorG09Base32
import Derived.Shelf.Sort.Plain
import Derived.Shelf.Lays2
import Derived.Shelf.LaysM
import Derived.KernelRfl
import Derived.Test.YtngdkenddfdhaaaGreatDoorProg
import Derived.Test.YtngdkenddfdhaaaGreatDoorG11O32
import Derived.Shelf.Slices.CompactI
import Derived.Test.YtngdkenddfdhaaaGreatDoorG08NvO
import Derived.Test.YtngdkenddfdhaaaGreatDoorG16Gc32
import Derived.Test.YtngdkenddfdhaaaGreatDoorG13Fd32
/- The prepared code of further functions. Written by a program of mine (gen.py) out of what the loaded dump prints. -/

set_option linter.unusedVariables false
set_option maxRecDepth 100000
namespace Go.Proofs.YtngdkenddfdhaaaGreatDoor
open Go Nv
theorem fn26:FnIs Tryz.prog 26 1 [] (.seq (.region [⟨some 3,Go.Op.move (Go.Operand.tmp 0),51,none⟩,
   ⟨some 4,Go.Op.call { callee:=Go.Callee.builtin Go.Builtin.len,args:=#[Go.Operand.tmp 3],argTypes:=#[51] },3,none⟩,
   ⟨some 2,Go.Op.assign (Go.Operand.tmp 4),3,none⟩])
  (.region [⟨some 5,Go.Op.move (Go.Operand.tmp 0),51,none⟩,
   ⟨some 6,Go.Op.move (Go.Operand.tmp 2),3,none⟩,
   ⟨some 7,Go.Op.move (Go.Operand.tmp 2),3,none⟩,
   ⟨some 8,Go.Op.convert 3 86 (Go.Operand.tmp 7),86,none⟩,
   ⟨some 9,Go.Op.call { callee:=Go.Callee.value (Go.Operand.func 52),args:=#[Go.Operand.tmp 8],argTypes:=#[86] },3,none⟩,
   ⟨some 10,Go.Op.call { callee:=Go.Callee.value (Go.Operand.func 51),args:=#[Go.Operand.tmp 5,Go.Operand.const (Go.Value.int Go.IntKind.i64 0),Go.Operand.tmp 6,Go.Operand.tmp 9],argTypes:=#[51,3,3,3] },0,none⟩])) :=
 ⟨foll,Tryz.f26,Tryz.func26,by kernel_rfl,by kernel_rfl,by kernel_rfl,by rw [Tryz.ntmps26];decide⟩
theorem fn51:FnIs Tryz.prog 51 4 [] (.seq (.region [⟨some 8,Go.Op.assign (Go.Operand.const (Go.Value.bool true)),4,none⟩])
  (.seq (.region [⟨some 9,Go.Op.assign (Go.Operand.const (Go.Value.bool true)),4,none⟩])
  (.block 0
   (.loop
    (.block 1
     (.seq (.region [⟨some 19,Go.Op.move (Go.Operand.tmp 2),3,none⟩,
      ⟨some 20,Go.Op.move (Go.Operand.tmp 1),3,none⟩,
      ⟨some 21,Go.Op.binOp Go.BinOp.sub 3 (Go.Operand.tmp 19) (Go.Operand.tmp 20) 3,3,none⟩,
      ⟨some 10,Go.Op.assign (Go.Operand.tmp 21),3,none⟩])
     (.seq (.seq (.region [⟨some 22,Go.Op.move (Go.Operand.tmp 10),3,none⟩,
      ⟨some 23,Go.Op.binOp Go.BinOp.leq 3 (Go.Operand.tmp 22) (Go.Operand.const (Go.Value.int Go.IntKind.i64 12)) 3,4,none⟩])
     (.cond (Go.Operand.tmp 23)
      (.seq (.region [⟨some 24,Go.Op.move (Go.Operand.tmp 0),51,none⟩,
       ⟨some 25,Go.Op.move (Go.Operand.tmp 1),3,none⟩,
       ⟨some 26,Go.Op.move (Go.Operand.tmp 2),3,none⟩,
       ⟨some 27,Go.Op.call { callee:=Go.Callee.value (Go.Operand.func 67),args:=#[Go.Operand.tmp 24,Go.Operand.tmp 25,Go.Operand.tmp 26],argTypes:=#[51,3,3] },0,none⟩])
      .ret)
      .skip))
     (.seq (.seq (.region [⟨some 28,Go.Op.move (Go.Operand.tmp 3),3,none⟩,
      ⟨some 29,Go.Op.binOp Go.BinOp.eql 3 (Go.Operand.tmp 28) (Go.Operand.const (Go.Value.int Go.IntKind.i64 0)) 3,4,none⟩])
     (.cond (Go.Operand.tmp 29)
      (.seq (.region [⟨some 30,Go.Op.move (Go.Operand.tmp 0),51,none⟩,
       ⟨some 31,Go.Op.move (Go.Operand.tmp 1),3,none⟩,
       ⟨some 32,Go.Op.move (Go.Operand.tmp 2),3,none⟩,
       ⟨some 33,Go.Op.call { callee:=Go.Callee.value (Go.Operand.func 68),args:=#[Go.Operand.tmp 30,Go.Operand.tmp 31,Go.Operand.tmp 32],argTypes:=#[51,3,3] },0,none⟩])
      .ret)
      .skip))
     (.seq (.seq (.region [⟨some 34,Go.Op.move (Go.Operand.tmp 8),4,none⟩,
      ⟨some 35,Go.Op.unOp Go.UnOp.not 4 (Go.Operand.tmp 34),4,none⟩])
     (.cond (Go.Operand.tmp 35)
      (.seq (.region [⟨some 36,Go.Op.move (Go.Operand.tmp 0),51,none⟩,
       ⟨some 37,Go.Op.move (Go.Operand.tmp 1),3,none⟩,
       ⟨some 38,Go.Op.move (Go.Operand.tmp 2),3,none⟩,
       ⟨some 39,Go.Op.call { callee:=Go.Callee.value (Go.Operand.func 69),args:=#[Go.Operand.tmp 36,Go.Operand.tmp 37,Go.Operand.tmp 38],argTypes:=#[51,3,3] },0,none⟩])
      (.region [⟨some 40,Go.Op.move (Go.Operand.tmp 3),3,none⟩,
       ⟨some 41,Go.Op.binOp Go.BinOp.sub 3 (Go.Operand.tmp 40) (Go.Operand.const (Go.Value.int Go.IntKind.i64 1)) 3,3,none⟩,
       ⟨some 3,Go.Op.assign (Go.Operand.tmp 41),3,none⟩]))
      .skip))
     (.seq (.region [⟨some 43,Go.Op.move (Go.Operand.tmp 0),51,none⟩,
      ⟨some 44,Go.Op.move (Go.Operand.tmp 1),3,none⟩,
      ⟨some 45,Go.Op.move (Go.Operand.tmp 2),3,none⟩,
      ⟨some 46,Go.Op.call { callee:=Go.Callee.value (Go.Operand.func 70),args:=#[Go.Operand.tmp 43,Go.Operand.tmp 44,Go.Operand.tmp 45],argTypes:=#[51,3,3] },107,none⟩,
      ⟨some 42,Go.Op.move (Go.Operand.tmp 46),107,none⟩,
      ⟨some 47,Go.Op.extract (Go.Operand.tmp 42) 0,3,none⟩,
      ⟨some 48,Go.Op.extract (Go.Operand.tmp 42) 1,106,none⟩,
      ⟨some 11,Go.Op.assign (Go.Operand.tmp 47),3,none⟩,
      ⟨some 12,Go.Op.assign (Go.Operand.tmp 48),106,none⟩])
     (.seq (.seq (.region [⟨some 49,Go.Op.move (Go.Operand.tmp 12),106,none⟩,
      ⟨some 50,Go.Op.binOp Go.BinOp.eql 106 (Go.Operand.tmp 49) (Go.Operand.const (Go.Value.int Go.IntKind.i64 2)) 106,4,none⟩])
     (.cond (Go.Operand.tmp 50)
      (.seq (.region [⟨some 51,Go.Op.move (Go.Operand.tmp 0),51,none⟩,
       ⟨some 52,Go.Op.move (Go.Operand.tmp 1),3,none⟩,
       ⟨some 53,Go.Op.move (Go.Operand.tmp 2),3,none⟩,
       ⟨some 54,Go.Op.call { callee:=Go.Callee.value (Go.Operand.func 71),args:=#[Go.Operand.tmp 51,Go.Operand.tmp 52,Go.Operand.tmp 53],argTypes:=#[51,3,3] },0,none⟩])
      (.seq (.region [⟨some 55,Go.Op.move (Go.Operand.tmp 2),3,none⟩,
       ⟨some 56,Go.Op.binOp Go.BinOp.sub 3 (Go.Operand.tmp 55) (Go.Operand.const (Go.Value.int Go.IntKind.i64 1)) 3,3,none⟩,
       ⟨some 57,Go.Op.move (Go.Operand.tmp 11),3,none⟩,
       ⟨some 58,Go.Op.move (Go.Operand.tmp 1),3,none⟩,
       ⟨some 59,Go.Op.binOp Go.BinOp.sub 3 (Go.Operand.tmp 57) (Go.Operand.tmp 58) 3,3,none⟩,
       ⟨some 60,Go.Op.binOp Go.BinOp.sub 3 (Go.Operand.tmp 56) (Go.Operand.tmp 59) 3,3,none⟩,
       ⟨some 11,Go.Op.assign (Go.Operand.tmp 60),3,none⟩])
      (.region [⟨some 12,Go.Op.assign (Go.Operand.const (Go.Value.int Go.IntKind.i64 1)),106,none⟩])))
      .skip))
     (.seq (.seq (.region [⟨some 61,Go.Op.move (Go.Operand.tmp 8),4,none⟩,
      ⟨some 62,Go.Op.move (Go.Operand.tmp 61),4,none⟩,
      ⟨some 63,Go.Op.move (Go.Operand.tmp 9),4,(some (62,true))⟩,
      ⟨some 64,Go.Op.pick (Go.Operand.tmp 62) (Go.Operand.tmp 63) (Go.Operand.const (Go.Value.bool false)),4,none⟩,
      ⟨some 65,Go.Op.move (Go.Operand.tmp 64),4,none⟩,
      ⟨some 66,Go.Op.move (Go.Operand.tmp 12),106,(some (65,true))⟩,
      ⟨some 67,Go.Op.binOp Go.BinOp.eql 106 (Go.Operand.tmp 66) (Go.Operand.const (Go.Value.int Go.IntKind.i64 1)) 106,4,(some (65,true))⟩,
      ⟨some 68,Go.Op.pick (Go.Operand.tmp 65) (Go.Operand.tmp 67) (Go.Operand.const (Go.Value.bool false)),4,none⟩])
     (.cond (Go.Operand.tmp 68)
      (.seq (.region [⟨some 69,Go.Op.move (Go.Operand.tmp 0),51,none⟩,
       ⟨some 70,Go.Op.move (Go.Operand.tmp 1),3,none⟩,
       ⟨some 71,Go.Op.move (Go.Operand.tmp 2),3,none⟩,
       ⟨some 72,Go.Op.call { callee:=Go.Callee.value (Go.Operand.func 72),args:=#[Go.Operand.tmp 69,Go.Operand.tmp 70,Go.Operand.tmp 71],argTypes:=#[51,3,3] },4,none⟩])
      (.cond (Go.Operand.tmp 72)
       .ret
       .skip))
      .skip))
     (.seq (.seq (.draw true [⟨⟨some 73,Go.Op.move (Go.Operand.tmp 1),3,none⟩,false,false,false⟩,
      ⟨⟨some 74,Go.Op.binOp Go.BinOp.gtr 3 (Go.Operand.tmp 73) (Go.Operand.const (Go.Value.int Go.IntKind.i64 0)) 3,4,none⟩,false,false,false⟩,
      ⟨⟨some 75,Go.Op.move (Go.Operand.tmp 74),4,none⟩,false,false,false⟩,
      ⟨⟨some 76,Go.Op.move (Go.Operand.tmp 0),51,(some (75,true))⟩,false,false,false⟩,
      ⟨⟨some 77,Go.Op.move (Go.Operand.tmp 1),3,(some (75,true))⟩,false,false,false⟩,
      ⟨⟨some 78,Go.Op.binOp Go.BinOp.sub 3 (Go.Operand.tmp 77) (Go.Operand.const (Go.Value.int Go.IntKind.i64 1)) 3,3,(some (75,true))⟩,false,false,false⟩,
      ⟨⟨some 79,Go.Op.indexAddr 51 (Go.Operand.tmp 76) (Go.Operand.tmp 78),0,(some (75,true))⟩,false,false,false⟩,
      ⟨⟨some 80,Go.Op.load 3 (Go.Operand.tmp 79),3,(some (75,true))⟩,false,false,false⟩,
      ⟨⟨some 81,Go.Op.move (Go.Operand.tmp 0),51,(some (75,true))⟩,false,false,false⟩,
      ⟨⟨some 82,Go.Op.move (Go.Operand.tmp 11),3,(some (75,true))⟩,false,false,false⟩,
      ⟨⟨some 83,Go.Op.indexAddr 51 (Go.Operand.tmp 81) (Go.Operand.tmp 82),0,(some (75,true))⟩,false,false,false⟩,
      ⟨⟨some 84,Go.Op.load 3 (Go.Operand.tmp 83),3,(some (75,true))⟩,false,false,false⟩,
      ⟨⟨some 85,Go.Op.call { callee:=Go.Callee.value (Go.Operand.func 73),args:=#[Go.Operand.tmp 80,Go.Operand.tmp 84],argTypes:=#[3,3] },4,(some (75,true))⟩,false,false,false⟩,
      ⟨⟨some 86,Go.Op.unOp Go.UnOp.not 4 (Go.Operand.tmp 85),4,(some (75,true))⟩,false,false,false⟩,
      ⟨⟨some 87,Go.Op.pick (Go.Operand.tmp 75) (Go.Operand.tmp 86) (Go.Operand.const (Go.Value.bool false)),4,none⟩,false,false,false⟩] [[],[0],[0,1],[0,1,2],[0,1,2],[0,1,2,4],[0,1,2,3,4,5],[0,1,2,3,4,5,6],[0,1,2],[0,1,2],[0,1,2,8,9],[0,1,2,8,9,10],[0,1,2,3,4,5,6,7,8,9,10,11],[0,1,2,3,4,5,6,7,8,9,10,11,12],[0,1,2,3,4,5,6,7,8,9,10,11,12,13]])
     (.cond (Go.Operand.tmp 87)
      (.seq (.region [⟨some 88,Go.Op.move (Go.Operand.tmp 0),51,none⟩,
       ⟨some 89,Go.Op.move (Go.Operand.tmp 1),3,none⟩,
       ⟨some 90,Go.Op.move (Go.Operand.tmp 2),3,none⟩,
       ⟨some 91,Go.Op.move (Go.Operand.tmp 11),3,none⟩,
       ⟨some 92,Go.Op.call { callee:=Go.Callee.value (Go.Operand.func 74),args:=#[Go.Operand.tmp 88,Go.Operand.tmp 89,Go.Operand.tmp 90,Go.Operand.tmp 91],argTypes:=#[51,3,3,3] },3,none⟩,
       ⟨some 13,Go.Op.assign (Go.Operand.tmp 92),3,none⟩])
      (.seq (.region [⟨some 93,Go.Op.move (Go.Operand.tmp 13),3,none⟩,
       ⟨some 1,Go.Op.assign (Go.Operand.tmp 93),3,none⟩])
      (.exit 1)))
      .skip))
     (.seq (.region [⟨some 95,Go.Op.move (Go.Operand.tmp 0),51,none⟩,
      ⟨some 96,Go.Op.move (Go.Operand.tmp 1),3,none⟩,
      ⟨some 97,Go.Op.move (Go.Operand.tmp 2),3,none⟩,
      ⟨some 98,Go.Op.move (Go.Operand.tmp 11),3,none⟩,
      ⟨some 99,Go.Op.call { callee:=Go.Callee.value (Go.Operand.func 75),args:=#[Go.Operand.tmp 95,Go.Operand.tmp 96,Go.Operand.tmp 97,Go.Operand.tmp 98],argTypes:=#[51,3,3,3] },112,none⟩,
      ⟨some 94,Go.Op.move (Go.Operand.tmp 99),112,none⟩,
      ⟨some 100,Go.Op.extract (Go.Operand.tmp 94) 0,3,none⟩,
      ⟨some 101,Go.Op.extract (Go.Operand.tmp 94) 1,4,none⟩,
      ⟨some 14,Go.Op.assign (Go.Operand.tmp 100),3,none⟩,
      ⟨some 15,Go.Op.assign (Go.Operand.tmp 101),4,none⟩])
     (.seq (.region [⟨some 102,Go.Op.move (Go.Operand.tmp 15),4,none⟩,
      ⟨some 9,Go.Op.assign (Go.Operand.tmp 102),4,none⟩])
     (.seq (.region [⟨some 103,Go.Op.move (Go.Operand.tmp 14),3,none⟩,
      ⟨some 104,Go.Op.move (Go.Operand.tmp 1),3,none⟩,
      ⟨some 105,Go.Op.binOp Go.BinOp.sub 3 (Go.Operand.tmp 103) (Go.Operand.tmp 104) 3,3,none⟩,
      ⟨some 106,Go.Op.move (Go.Operand.tmp 2),3,none⟩,
      ⟨some 107,Go.Op.move (Go.Operand.tmp 14),3,none⟩,
      ⟨some 108,Go.Op.binOp Go.BinOp.sub 3 (Go.Operand.tmp 106) (Go.Operand.tmp 107) 3,3,none⟩,
      ⟨some 16,Go.Op.assign (Go.Operand.tmp 105),3,none⟩,
      ⟨some 17,Go.Op.assign (Go.Operand.tmp 108),3,none⟩])
     (.seq (.region [⟨some 109,Go.Op.move (Go.Operand.tmp 10),3,none⟩,
      ⟨some 110,Go.Op.binOp Go.BinOp.quo 3 (Go.Operand.tmp 109) (Go.Operand.const (Go.Value.int Go.IntKind.i64 8)) 3,3,none⟩,
      ⟨some 18,Go.Op.assign (Go.Operand.tmp 110),3,none⟩])
     (.seq (.region [⟨some 111,Go.Op.move (Go.Operand.tmp 16),3,none⟩,
      ⟨some 112,Go.Op.move (Go.Operand.tmp 17),3,none⟩,
      ⟨some 113,Go.Op.binOp Go.BinOp.lss 3 (Go.Operand.tmp 111) (Go.Operand.tmp 112) 3,4,none⟩])
     (.cond (Go.Operand.tmp 113)
      (.seq (.region [⟨some 114,Go.Op.move (Go.Operand.tmp 16),3,none⟩,
       ⟨some 115,Go.Op.move (Go.Operand.tmp 18),3,none⟩,
       ⟨some 116,Go.Op.binOp Go.BinOp.geq 3 (Go.Operand.tmp 114) (Go.Operand.tmp 115) 3,4,none⟩,
       ⟨some 8,Go.Op.assign (Go.Operand.tmp 116),4,none⟩])
      (.seq (.region [⟨some 117,Go.Op.move (Go.Operand.tmp 0),51,none⟩,
       ⟨some 118,Go.Op.move (Go.Operand.tmp 1),3,none⟩,
       ⟨some 119,Go.Op.move (Go.Operand.tmp 14),3,none⟩,
       ⟨some 120,Go.Op.move (Go.Operand.tmp 3),3,none⟩,
       ⟨some 121,Go.Op.call { callee:=Go.Callee.value (Go.Operand.func 51),args:=#[Go.Operand.tmp 117,Go.Operand.tmp 118,Go.Operand.tmp 119,Go.Operand.tmp 120],argTypes:=#[51,3,3,3] },0,none⟩])
      (.region [⟨some 122,Go.Op.move (Go.Operand.tmp 14),3,none⟩,
       ⟨some 123,Go.Op.binOp Go.BinOp.add 3 (Go.Operand.tmp 122) (Go.Operand.const (Go.Value.int Go.IntKind.i64 1)) 3,3,none⟩,
       ⟨some 1,Go.Op.assign (Go.Operand.tmp 123),3,none⟩])))
      (.seq (.region [⟨some 124,Go.Op.move (Go.Operand.tmp 17),3,none⟩,
       ⟨some 125,Go.Op.move (Go.Operand.tmp 18),3,none⟩,
       ⟨some 126,Go.Op.binOp Go.BinOp.geq 3 (Go.Operand.tmp 124) (Go.Operand.tmp 125) 3,4,none⟩,
       ⟨some 8,Go.Op.assign (Go.Operand.tmp 126),4,none⟩])
      (.seq (.region [⟨some 127,Go.Op.move (Go.Operand.tmp 0),51,none⟩,
       ⟨some 128,Go.Op.move (Go.Operand.tmp 14),3,none⟩,
       ⟨some 129,Go.Op.binOp Go.BinOp.add 3 (Go.Operand.tmp 128) (Go.Operand.const (Go.Value.int Go.IntKind.i64 1)) 3,3,none⟩,
       ⟨some 130,Go.Op.move (Go.Operand.tmp 2),3,none⟩,
       ⟨some 131,Go.Op.move (Go.Operand.tmp 3),3,none⟩,
       ⟨some 132,Go.Op.call { callee:=Go.Callee.value (Go.Operand.func 51),args:=#[Go.Operand.tmp 127,Go.Operand.tmp 129,Go.Operand.tmp 130,Go.Operand.tmp 131],argTypes:=#[51,3,3,3] },0,none⟩])
      (.region [⟨some 133,Go.Op.move (Go.Operand.tmp 14),3,none⟩,
       ⟨some 2,Go.Op.assign (Go.Operand.tmp 133),3,none⟩])))))))))))))))))))))) :=
 ⟨foll,Tryz.f51,Tryz.func51,by kernel_rfl,by kernel_rfl,by kernel_rfl,by rw [Tryz.ntmps51];decide⟩
theorem fn52:FnIs Tryz.prog 52 1 [Go.ResultVar.tmp 2] (.seq (.region [⟨some 2,Go.Op.assign (Go.Operand.const (Go.Value.int Go.IntKind.i64 0)),3,none⟩])
  (.seq (.cond (Go.Operand.const (Go.Value.bool false))
   (.seq (.region [⟨some 3,Go.Op.move (Go.Operand.tmp 0),86,none⟩,
    ⟨some 4,Go.Op.convert 86 115 (Go.Operand.tmp 3),115,none⟩,
    ⟨some 5,Go.Op.call { callee:=Go.Callee.value (Go.Operand.func 76),args:=#[Go.Operand.tmp 4],argTypes:=#[115] },3,none⟩,
    ⟨some 2,Go.Op.assign (Go.Operand.tmp 5),3,none⟩])
   .ret)
   .skip)
  (.seq (.region [⟨some 6,Go.Op.move (Go.Operand.tmp 0),86,none⟩,
   ⟨some 7,Go.Op.call { callee:=Go.Callee.value (Go.Operand.func 77),args:=#[Go.Operand.tmp 6],argTypes:=#[117] },3,none⟩,
   ⟨some 2,Go.Op.assign (Go.Operand.tmp 7),3,none⟩])
  .ret))) :=
 ⟨foll,Tryz.f52,Tryz.func52,by kernel_rfl,by kernel_rfl,by kernel_rfl,by rw [Tryz.ntmps52];decide⟩
theorem fn67:FnIs Tryz.prog 67 3 [] (.seq (.region [⟨some 8,Go.Op.move (Go.Operand.tmp 1),3,none⟩,
   ⟨some 9,Go.Op.binOp Go.BinOp.add 3 (Go.Operand.tmp 8) (Go.Operand.const (Go.Value.int Go.IntKind.i64 1)) 3,3,none⟩,
   ⟨some 6,Go.Op.assign (Go.Operand.tmp 9),3,none⟩])
  (.block 0
   (.loop
    (.seq (.seq (.region [⟨some 10,Go.Op.move (Go.Operand.tmp 6),3,none⟩,
     ⟨some 11,Go.Op.move (Go.Operand.tmp 2),3,none⟩,
     ⟨some 12,Go.Op.binOp Go.BinOp.lss 3 (Go.Operand.tmp 10) (Go.Operand.tmp 11) 3,4,none⟩])
    (.cond (Go.Operand.tmp 12)
     .skip
     (.exit 0)))
    (.seq (.block 1
     (.seq (.region [⟨some 15,Go.Op.move (Go.Operand.tmp 6),3,none⟩,
      ⟨some 7,Go.Op.assign (Go.Operand.tmp 15),3,none⟩])
     (.block 2
      (.loop
       (.seq (.seq (.draw true [⟨⟨some 16,Go.Op.move (Go.Operand.tmp 7),3,none⟩,false,false,false⟩,
        ⟨⟨some 17,Go.Op.move (Go.Operand.tmp 1),3,none⟩,false,false,false⟩,
        ⟨⟨some 18,Go.Op.binOp Go.BinOp.gtr 3 (Go.Operand.tmp 16) (Go.Operand.tmp 17) 3,4,none⟩,false,false,false⟩,
        ⟨⟨some 19,Go.Op.move (Go.Operand.tmp 18),4,none⟩,false,false,false⟩,
        ⟨⟨some 20,Go.Op.move (Go.Operand.tmp 0),51,(some (19,true))⟩,false,false,false⟩,
        ⟨⟨some 21,Go.Op.move (Go.Operand.tmp 7),3,(some (19,true))⟩,false,false,false⟩,
        ⟨⟨some 22,Go.Op.indexAddr 51 (Go.Operand.tmp 20) (Go.Operand.tmp 21),0,(some (19,true))⟩,false,false,false⟩,
        ⟨⟨some 23,Go.Op.load 3 (Go.Operand.tmp 22),3,(some (19,true))⟩,false,false,false⟩,
        ⟨⟨some 24,Go.Op.move (Go.Operand.tmp 0),51,(some (19,true))⟩,false,false,false⟩,
        ⟨⟨some 25,Go.Op.move (Go.Operand.tmp 7),3,(some (19,true))⟩,false,false,false⟩,
        ⟨⟨some 26,Go.Op.binOp Go.BinOp.sub 3 (Go.Operand.tmp 25) (Go.Operand.const (Go.Value.int Go.IntKind.i64 1)) 3,3,(some (19,true))⟩,false,false,false⟩,
        ⟨⟨some 27,Go.Op.indexAddr 51 (Go.Operand.tmp 24) (Go.Operand.tmp 26),0,(some (19,true))⟩,false,false,false⟩,
        ⟨⟨some 28,Go.Op.load 3 (Go.Operand.tmp 27),3,(some (19,true))⟩,false,false,false⟩,
        ⟨⟨some 29,Go.Op.call { callee:=Go.Callee.value (Go.Operand.func 73),args:=#[Go.Operand.tmp 23,Go.Operand.tmp 28],argTypes:=#[3,3] },4,(some (19,true))⟩,false,false,false⟩,
        ⟨⟨some 30,Go.Op.pick (Go.Operand.tmp 19) (Go.Operand.tmp 29) (Go.Operand.const (Go.Value.bool false)),4,none⟩,false,false,false⟩] [[],[],[0,1],[0,1,2],[0,1,2,3],[0,1,2,3],[0,1,2,3,4,5],[0,1,2,3,4,5,6],[0,1,2,3],[0,1,2,3],[0,1,2,3,9],[0,1,2,3,8,9,10],[0,1,2,3,8,9,10,11],[0,1,2,3,4,5,6,7,8,9,10,11,12],[0,1,2,3,4,5,6,7,8,9,10,11,12,13]])
       (.cond (Go.Operand.tmp 30)
        .skip
        (.exit 2)))
       (.seq (.block 3
        (.draw true [⟨⟨some 33,Go.Op.move (Go.Operand.tmp 0),51,none⟩,false,false,false⟩,
         ⟨⟨some 34,Go.Op.move (Go.Operand.tmp 7),3,none⟩,false,false,false⟩,
         ⟨⟨some 35,Go.Op.move (Go.Operand.tmp 0),51,none⟩,false,false,true⟩,
         ⟨⟨some 36,Go.Op.move (Go.Operand.tmp 7),3,none⟩,false,false,true⟩,
         ⟨⟨some 37,Go.Op.binOp Go.BinOp.sub 3 (Go.Operand.tmp 36) (Go.Operand.const (Go.Value.int Go.IntKind.i64 1)) 3,3,none⟩,false,false,true⟩,
         ⟨⟨some 38,Go.Op.move (Go.Operand.tmp 0),51,none⟩,false,false,false⟩,
         ⟨⟨some 39,Go.Op.move (Go.Operand.tmp 7),3,none⟩,false,false,false⟩,
         ⟨⟨some 40,Go.Op.binOp Go.BinOp.sub 3 (Go.Operand.tmp 39) (Go.Operand.const (Go.Value.int Go.IntKind.i64 1)) 3,3,none⟩,false,false,false⟩,
         ⟨⟨some 41,Go.Op.indexAddr 51 (Go.Operand.tmp 38) (Go.Operand.tmp 40),0,none⟩,false,false,false⟩,
         ⟨⟨some 42,Go.Op.load 3 (Go.Operand.tmp 41),3,none⟩,false,false,false⟩,
         ⟨⟨some 43,Go.Op.move (Go.Operand.tmp 0),51,none⟩,false,false,false⟩,
         ⟨⟨some 44,Go.Op.move (Go.Operand.tmp 7),3,none⟩,false,false,false⟩,
         ⟨⟨some 45,Go.Op.indexAddr 51 (Go.Operand.tmp 43) (Go.Operand.tmp 44),0,none⟩,false,false,false⟩,
         ⟨⟨some 46,Go.Op.load 3 (Go.Operand.tmp 45),3,none⟩,false,false,false⟩,
         ⟨⟨some 47,Go.Op.indexAddr 51 (Go.Operand.tmp 33) (Go.Operand.tmp 34),0,none⟩,false,false,false⟩,
         ⟨⟨none,Go.Op.store 3 (Go.Operand.tmp 47) (Go.Operand.tmp 42),0,none⟩,true,false,false⟩,
         ⟨⟨some 48,Go.Op.indexAddr 51 (Go.Operand.tmp 35) (Go.Operand.tmp 37),0,none⟩,false,false,false⟩,
         ⟨⟨none,Go.Op.store 3 (Go.Operand.tmp 48) (Go.Operand.tmp 46),0,none⟩,true,false,false⟩] [[],[],[],[],[3],[],[],[6],[5,6,7],[5,6,7,8],[],[],[10,11],[10,11,12],[0,1,5,6,7,8,9,10,11,12,13],[0,1,5,6,7,8,9,10,11,12,13,14],[0,1,2,3,4,5,6,7,8,9,10,11,12,13,14,15],[0,1,2,3,4,5,6,7,8,9,10,11,12,13,14,15,16]]))
       (.region [⟨some 31,Go.Op.move (Go.Operand.tmp 7),3,none⟩,
        ⟨some 32,Go.Op.binOp Go.BinOp.sub 3 (Go.Operand.tmp 31) (Go.Operand.const (Go.Value.int Go.IntKind.i64 1)) 3,3,none⟩,
        ⟨some 7,Go.Op.assign (Go.Operand.tmp 32),3,none⟩])))))))
    (.region [⟨some 13,Go.Op.move (Go.Operand.tmp 6),3,none⟩,
     ⟨some 14,Go.Op.binOp Go.BinOp.add 3 (Go.Operand.tmp 13) (Go.Operand.const (Go.Value.int Go.IntKind.i64 1)) 3,3,none⟩,
     ⟨some 6,Go.Op.assign (Go.Operand.tmp 14),3,none⟩])))))) :=
 ⟨foll,Tryz.f67,Tryz.func67,by kernel_rfl,by kernel_rfl,by kernel_rfl,by rw [Tryz.ntmps67];decide⟩
theorem fn77:FnIs Tryz.prog 77 1 [Go.ResultVar.tmp 2] (.seq (.region [⟨some 2,Go.Op.assign (Go.Operand.const (Go.Value.int Go.IntKind.i64 0)),3,none⟩])
  (.seq (.seq (.region [⟨some 3,Go.Op.move (Go.Operand.tmp 0),117,none⟩,
   ⟨some 4,Go.Op.binOp Go.BinOp.geq 117 (Go.Operand.tmp 3) (Go.Operand.const (Go.Value.int Go.IntKind.u64 4294967296)) 117,4,none⟩])
  (.cond (Go.Operand.tmp 4)
   (.seq (.region [⟨some 5,Go.Op.move (Go.Operand.tmp 0),117,none⟩,
    ⟨some 6,Go.Op.binOp Go.BinOp.shr 117 (Go.Operand.tmp 5) (Go.Operand.const (Go.Value.int Go.IntKind.u64 32)) 86,117,none⟩,
    ⟨some 0,Go.Op.assign (Go.Operand.tmp 6),117,none⟩])
   (.region [⟨some 2,Go.Op.assign (Go.Operand.const (Go.Value.int Go.IntKind.i64 32)),3,none⟩]))
   .skip))
  (.seq (.seq (.region [⟨some 7,Go.Op.move (Go.Operand.tmp 0),117,none⟩,
   ⟨some 8,Go.Op.binOp Go.BinOp.geq 117 (Go.Operand.tmp 7) (Go.Operand.const (Go.Value.int Go.IntKind.u64 65536)) 117,4,none⟩])
  (.cond (Go.Operand.tmp 8)
   (.seq (.region [⟨some 9,Go.Op.move (Go.Operand.tmp 0),117,none⟩,
    ⟨some 10,Go.Op.binOp Go.BinOp.shr 117 (Go.Operand.tmp 9) (Go.Operand.const (Go.Value.int Go.IntKind.u64 16)) 86,117,none⟩,
    ⟨some 0,Go.Op.assign (Go.Operand.tmp 10),117,none⟩])
   (.region [⟨some 11,Go.Op.move (Go.Operand.tmp 2),3,none⟩,
    ⟨some 12,Go.Op.binOp Go.BinOp.add 3 (Go.Operand.tmp 11) (Go.Operand.const (Go.Value.int Go.IntKind.i64 16)) 3,3,none⟩,
    ⟨some 2,Go.Op.assign (Go.Operand.tmp 12),3,none⟩]))
   .skip))
  (.seq (.seq (.region [⟨some 13,Go.Op.move (Go.Operand.tmp 0),117,none⟩,
   ⟨some 14,Go.Op.binOp Go.BinOp.geq 117 (Go.Operand.tmp 13) (Go.Operand.const (Go.Value.int Go.IntKind.u64 256)) 117,4,none⟩])
  (.cond (Go.Operand.tmp 14)
   (.seq (.region [⟨some 15,Go.Op.move (Go.Operand.tmp 0),117,none⟩,
    ⟨some 16,Go.Op.binOp Go.BinOp.shr 117 (Go.Operand.tmp 15) (Go.Operand.const (Go.Value.int Go.IntKind.u64 8)) 86,117,none⟩,
    ⟨some 0,Go.Op.assign (Go.Operand.tmp 16),117,none⟩])
   (.region [⟨some 17,Go.Op.move (Go.Operand.tmp 2),3,none⟩,
    ⟨some 18,Go.Op.binOp Go.BinOp.add 3 (Go.Operand.tmp 17) (Go.Operand.const (Go.Value.int Go.IntKind.i64 8)) 3,3,none⟩,
    ⟨some 2,Go.Op.assign (Go.Operand.tmp 18),3,none⟩]))
   .skip))
  (.seq (.region [⟨some 19,Go.Op.move (Go.Operand.tmp 2),3,none⟩,
   ⟨some 20,Go.Op.move (Go.Operand.tmp 0),117,none⟩,
   ⟨some 21,Go.Op.convert 117 5 (Go.Operand.tmp 20),5,none⟩,
   ⟨some 22,Go.Op.index 9 (Go.Operand.const (Go.Value.string { data:=#[0,1,2,2,3,3,3,3,4,4,4,4,4,4,4,4,5,5,5,5,5,5,5,5,5,5,5,5,5,5,5,5,6,6,6,6,6,6,6,6,6,6,6,6,6,6,6,6,6,6,6,6,6,6,6,6,6,6,6,6,6,6,6,6,7,7,7,7,7,7,7,7,7,7,7,7,7,7,7,7,7,7,7,7,7,7,7,7,7,7,7,7,7,7,7,7,7,7,7,7,7,7,7,7,7,7,7,7,7,7,7,7,7,7,7,7,7,7,7,7,7,7,7,7,7,7,7,7,8,8,8,8,8,8,8,8,8,8,8,8,8,8,8,8,8,8,8,8,8,8,8,8,8,8,8,8,8,8,8,8,8,8,8,8,8,8,8,8,8,8,8,8,8,8,8,8,8,8,8,8,8,8,8,8,8,8,8,8,8,8,8,8,8,8,8,8,8,8,8,8,8,8,8,8,8,8,8,8,8,8,8,8,8,8,8,8,8,8,8,8,8,8,8,8,8,8,8,8,8,8,8,8,8,8,8,8,8,8,8,8,8,8,8,8,8,8,8,8,8,8,8,8,8,8,8,8] })) (Go.Operand.tmp 21),5,none⟩,
   ⟨some 23,Go.Op.convert 5 3 (Go.Operand.tmp 22),3,none⟩,
   ⟨some 24,Go.Op.binOp Go.BinOp.add 3 (Go.Operand.tmp 19) (Go.Operand.tmp 23) 3,3,none⟩,
   ⟨some 2,Go.Op.assign (Go.Operand.tmp 24),3,none⟩])
  .ret))))) :=
 ⟨foll,Tryz.f77,Tryz.func77,by kernel_rfl,by kernel_rfl,by kernel_rfl,by rw [Tryz.ntmps77];decide⟩
end Go.Proofs.YtngdkenddfdhaaaGreatDoor
/- The laying of slices.Sort for numbers in this program. -/





set_option linter.unusedVariables false
set_option maxRecDepth 100000
namespace Go.Proofs.YtngdkenddfdhaaaGreatDoor
open Go.Shelf
def Tryz.lays189_ren:Go.Shelf.Ren:=⟨fun | 189=>26 | 125=>52 | 257=>51 | 128=>76 | 129=>77 | 294=>67 | 295=>68 | 296=>69 | 297=>70 | 298=>71 | 299=>72 | 216=>73 | 300=>74 | 301=>75 | 328=>82 | 329=>83 | 330=>84 | 331=>85 | 332=>86 | 215=>87 | 343=>91 | n=>n,fun | 28=>51 | 3=>3 | 46=>86 | 0=>0 | 51=>115 | 53=>117 | 4=>4 | 183=>107 | 182=>106 | 131=>112 | 5=>5 | 9=>9 | 218=>119 | 222=>123 | 228=>126 | 229=>49 | n=>n,fun | n=>n⟩
theorem Tryz.lays189:Go.Proofs.Lays.n189 Tryz.prog Tryz.lays189_ren where
 mixed:=by kernel_rfl
 f125:=Tryz.func52.trans (congrArg some (by kernel_rfl))
 f128:=Tryz.func76.trans (congrArg some (by kernel_rfl))
 f129:=Tryz.func77.trans (congrArg some (by kernel_rfl))
 f189:=Tryz.func26.trans (congrArg some (by kernel_rfl))
 f215:=Tryz.func87.trans (congrArg some (by kernel_rfl))
 f216:=Tryz.func73.trans (congrArg some (by kernel_rfl))
 f257:=Tryz.func51.trans (congrArg some (by kernel_rfl))
 f294:=Tryz.func67.trans (congrArg some (by kernel_rfl))
 f295:=Tryz.func68.trans (congrArg some (by kernel_rfl))
 f296:=Tryz.func69.trans (congrArg some (by kernel_rfl))
 f297:=Tryz.func70.trans (congrArg some (by kernel_rfl))
 f298:=Tryz.func71.trans (congrArg some (by kernel_rfl))
 f299:=Tryz.func72.trans (congrArg some (by kernel_rfl))
 f300:=Tryz.func74.trans (congrArg some (by kernel_rfl))
 f301:=Tryz.func75.trans (congrArg some (by kernel_rfl))
 f328:=Tryz.func82.trans (congrArg some (by kernel_rfl))
 f329:=Tryz.func83.trans (congrArg some (by kernel_rfl))
 f330:=Tryz.func84.trans (congrArg some (by kernel_rfl))
 f331:=Tryz.func85.trans (congrArg some (by kernel_rfl))
 f332:=Tryz.func86.trans (congrArg some (by kernel_rfl))
 f343:=Tryz.func91.trans (congrArg some (by kernel_rfl))
 t0:=Tryz.underlying0
 a0:=Tryz.isAgg0
 z0:=Tryz.sizeOf0
 v0:=Tryz.zeroValue0
 t3:=Tryz.underlying3
 a3:=Tryz.isAgg3
 z3:=Tryz.sizeOf3
 v3:=Tryz.zeroValue3
 t4:=Tryz.underlying4
 a4:=Tryz.isAgg4
 z4:=Tryz.sizeOf4
 v4:=Tryz.zeroValue4
 t5:=Tryz.underlying5
 a5:=Tryz.isAgg5
 z5:=Tryz.sizeOf5
 v5:=Tryz.zeroValue5
 t9:=Tryz.underlying9
 a9:=Tryz.isAgg9
 z9:=Tryz.sizeOf9
 v9:=Tryz.zeroValue9
 t28:=Tryz.underlying51
 a28:=Tryz.isAgg51
 z28:=Tryz.sizeOf51
 v28:=Tryz.zeroValue51
 t46:=Tryz.underlying86
 a46:=Tryz.isAgg86
 z46:=Tryz.sizeOf86
 v46:=Tryz.zeroValue86
 t51:=Tryz.underlying115
 a51:=Tryz.isAgg115
 z51:=Tryz.sizeOf115
 v51:=Tryz.zeroValue115
 t53:=Tryz.underlying117
 a53:=Tryz.isAgg117
 z53:=Tryz.sizeOf117
 v53:=Tryz.zeroValue117
 t131:=Tryz.underlying112
 a131:=Tryz.isAgg112
 z131:=Tryz.sizeOf112
 v131:=Tryz.zeroValue112
 t182:=Tryz.underlying106
 a182:=Tryz.isAgg106
 z182:=Tryz.sizeOf106
 v182:=Tryz.zeroValue106
 t183:=Tryz.underlying107
 a183:=Tryz.isAgg107
 z183:=Tryz.sizeOf107
 v183:=Tryz.zeroValue107
 t218:=Tryz.underlying119
 a218:=Tryz.isAgg119
 z218:=Tryz.sizeOf119
 v218:=Tryz.zeroValue119
 t222:=Tryz.underlying123
 a222:=Tryz.isAgg123
 z222:=Tryz.sizeOf123
 v222:=Tryz.zeroValue123
 t228:=Tryz.underlying126
 a228:=Tryz.isAgg126
 z228:=Tryz.sizeOf126
 v228:=Tryz.zeroValue126
 t229:=Tryz.underlying49
 a229:=Tryz.isAgg49
 z229:=Tryz.sizeOf49
 v229:=Tryz.zeroValue49
end Go.Proofs.YtngdkenddfdhaaaGreatDoor
/- A slice of the call's own,written anew in place by a function of the library. -/

set_option linter.unusedVariables false
set_option linter.unusedSimpArgs false
namespace Nv
open Go Go.RowKit
section
variable {P:Program} {ρ ρ':RHO} {σ σ':ST} {I I':Nat→Prop} {w w':World}
theorem own_anew (hr:RS P ρ I w σ) {b g B:Nat} {e:ET} {xs ys:List DV} (hsb:σ[b]? = some (.arr g e xs)) (hB:(ρ b).blk=some B) (hl:ys.length=xs.length) (hyu:∀ y,y∈ys→Uni e y) {us':Array Value}
  (hE:Ext w w') (hold:∀ c,c<w.heap.size→c≠B→w'.heap[c]? = w.heap[c]?) (hB':w'.heap[B]? = some (.cells us' e.t (0,0))) (hsz:(ρ b).base+(ρ b).cap * e≤us'.size)
  (hc:∀ j c,(flat ys)[j]? = some c→VD I w c (us'.getD ((ρ b).base+j) undef)) :
  ∃ ρ',Step ρ I w σ ρ' I w' (stSet σ b (.arr g e ys))∧RS P ρ' I w' (stSet σ b (.arr g e ys)):=by
 obtain ⟨us,q1,q2,q3,q4,q5⟩:=hr.arr hsb hB
 have hcmp:Compat (.arr g e xs) (ρ b) (.arr g e ys) (ρ b):=.inl ⟨rfl,rfl,rfl,hl⟩
 have hp:∀ B',(ρ b).blk=some B'→B'=B∨w.heap.size≤B':=fun B' h=>by rw [hB] at h;cases h;exact .inl rfl
 have hstep:=step_upd (w':=w') hr hsb hB trivial (ρ b) hcmp hE hold hp
 refine ⟨_,hstep,rs_upd hr hsb hB trivial (ρ b) hcmp hE hold hp ?_⟩
 exact .arr hB hB' hsz (by rw [hl];exact q3) hyu (fun j c hj=>hstep.vd hr (hc j c hj))
end
end Nv
/- Own slices of numbers,sorted or compacted in place by the library. -/



set_option linter.unusedVariables false
set_option linter.unusedSimpArgs false
namespace Nv
open Go Go.RowKit Go.Proofs Go.Sort
section
variable {P:Program} {ρ ρ':RHO} {σ σ':ST} {I I':Nat→Prop} {w w':World}
def numsD (l:List Int):List DV:=l.map (DV.int .i64)
theorem numsD_length (l:List Int):(numsD l).length=l.length:=by simp [numsD]
theorem flat_nums (l:List Int):flat (numsD l)=numsD l:=by
 induction l with
 | nil=>rfl
 | cons x l ih=>show [_]++flat (numsD l)=_;rw [ih];rfl
theorem nums_get {l:List Int} {j:Nat} (h:j<l.length):(numsD l)[j]? = some (.int .i64 (l.getD j 0)):=by
 simp [numsD,List.getD_eq_getElem?_getD,h]
theorem arr_get {d:Array Int} {l:List Int} (hd:d.toList=l) {j:Nat} (h:j<l.length):d[j]! = l.getD j 0:=by
 subst hd
 have hlt:j<d.size:=by simpa using h
 rw [getElem!_pos d _ hlt,List.getD_eq_getElem?_getD,Array.getElem?_toList,Array.getElem?_eq_getElem hlt];rfl
theorem nums_holds (hr:RS P ρ I w σ) {b g B t:Nat} {l:List Int} (hsb:σ[b]? = some (.arr g ⟨1,t⟩ (numsD l))) (hB:(ρ b).blk=some B) :
  Holds (Value.int .i64) w B (ρ b).base l.toArray∧B<w.heap.size:=by
 obtain ⟨us,q1,q2,q3,q4,q5⟩:=hr.arr hsb hB
 have hBlt:B<w.heap.size:=by
  rcases Nat.lt_or_ge B w.heap.size with h' | h'
  ·exact h'
  ·rw [Array.getElem?_eq_none h'] at q1;cases q1
 refine ⟨fun j hj=>?_,hBlt⟩
 have hj':j<l.length:=by simpa using hj
 have hc:=(q5 j _ (by rw [flat_nums];exact nums_get hj')).int_inv
 have hlt:(ρ b).base+j<us.size:=by
  rw [numsD_length] at q3;simp only [Nat.mul_one] at q2;omega
 refine ⟨?_,by simp [World.frozen?,q1]⟩
 rw [arr_get (l:=l) (by simp) hj']
 rw [Array.getD_eq_getD_getElem?,Array.getElem?_eq_getElem hlt,Option.getD_some] at hc
 simp [World.cell?,q1,Array.getElem?_eq_getElem hlt,hc]
theorem nums_anew (hr:RS P ρ I w σ) {b g B t:Nat} {l m:List Int} (hsb:σ[b]? = some (.arr g ⟨1,t⟩ (numsD l))) (hB:(ρ b).blk=some B) (hl:m.length=l.length) (d:Array Int) (hd:d.toList=m) (n:Nat) (os:Array Obj) :
  ∃ ρ',Step ρ I w σ ρ' I (grow (putRow (Value.int .i64) (Sort.ahead w n) B (ρ b).base d) os) (stSet σ b (.arr g ⟨1,t⟩ (numsD m))) ∧
   RS P ρ' I (grow (putRow (Value.int .i64) (Sort.ahead w n) B (ρ b).base d) os) (stSet σ b (.arr g ⟨1,t⟩ (numsD m))):=by
 obtain ⟨us,q1,q2,q3,q4,q5⟩:=hr.arr hsb hB
 have hBlt:=(nums_holds hr hsb hB).2
 have hdz:d.size=m.length:=by rw [← hd];simp
 rw [numsD_length] at q3
 simp only [Nat.mul_one] at q2
 obtain ⟨us',hus'⟩:∃ us',us'=putCells (Value.int .i64) (ρ b).base d us:=⟨_,rfl⟩
 have husz:us'.size=us.size:=by rw [hus'];simp [putCells]
 have hBl:B<(putRow (Value.int .i64) (Sort.ahead w n) B (ρ b).base d).heap.size:=by simpa [Sort.ahead,putRow,mapBlock] using hBlt
 have hheapB:(grow (putRow (Value.int .i64) (Sort.ahead w n) B (ρ b).base d) os).heap[B]? = some (.cells us' t (0,0)):=by
  simp only [grow]
  rw [Array.getElem?_append,if_pos hBl]
  simp [putRow,mapBlock,Sort.ahead,Array.getElem?_modify,q1,onCells,hus']
 refine own_anew (ys:=numsD m) hr hsb hB (by rw [numsD_length,numsD_length,hl]) (fun y hy=>?_) (Ext.of (by simp [grow,putRow,mapBlock,Sort.ahead]) ⟨rfl,rfl,rfl⟩) (fun c hc hcB=>?_) hheapB (by rw [husz];simpa using q2) (fun j c hj=>?_)
 ·obtain ⟨r,_,rfl⟩:=List.mem_map.1 hy
  exact ⟨rfl,fun c hc=>by simp only [DV.cells,List.mem_cons,List.not_mem_nil,or_false] at hc;subst hc;rfl⟩
 ·have hcl:c<(putRow (Value.int .i64) (Sort.ahead w n) B (ρ b).base d).heap.size:=by simpa [Sort.ahead,putRow,mapBlock] using hc
  simp only [grow]
  rw [Array.getElem?_append,if_pos hcl]
  simp [putRow,mapBlock,Sort.ahead,Array.getElem?_modify,show ¬ B=c from fun h=>hcB h.symm]
 ·have hjl:j<m.length:=by
   rcases Nat.lt_or_ge j m.length with h | h
   ·exact h
   ·rw [flat_nums,List.getElem?_eq_none (by rw [numsD_length];exact h)] at hj;cases hj
  rw [flat_nums,nums_get hjl] at hj
  cases hj
  have hlt:(ρ b).base+j<us.size:=by omega
  have hval:us'.getD ((ρ b).base+j) undef=.int .i64 (m.getD j 0):=by
   rw [hus',putCells,Array.getD_eq_getD_getElem?,Array.getElem?_mapIdx,Array.getElem?_eq_getElem hlt]
   simp only [Option.map_some,Option.getD_some,hdz]
   rw [if_pos ⟨by omega,by omega⟩,show (ρ b).base+j - (ρ b).base=j by omega,arr_get hd hjl]
  rw [hval]
  exact .int _ _
theorem one_arg {a:AV} {vs:Array Value} (hv:VL ρ σ I w [a] vs):∃ v,vs=#[v]∧V ρ σ I w a v:=by
 have hsz:vs.size=1:=by have:=hv.1;simpa using this.symm
 obtain ⟨l⟩:=vs
 match l,hsz with
 | [a],_=>exact ⟨a,rfl,hv.2 0 _ rfl⟩
theorem sort_nums {r:Shelf.Ren} (L:Proofs.Lays.n189 P r) (s:List Int) (b g t:Nat) (σ:ST) (hst:stGet σ b=.arr g ⟨1,t⟩ (numsD s)) (h0:0<s.length) (hsz:s.length<4611686018427387904) :
  RCall P (r.f 189) [.own b g 0 s.length] σ fun v σ'=>v=.tuple []∧σ'=stSet σ b (.arr g ⟨1,t⟩ (numsD (s.mergeSort fun x y=>decide (x≤y)))):=by
 intro ρ I w vs hr hvs
 have hsb:=stGet_some hst (by simp)
 obtain ⟨v,rfl,hv⟩:=one_arg hvs
 clear hvs
 generalize hn:s.length=n0 at hv
 cases hv with
 | ownNil k1 k2=>omega
 | ownOld k1 k2=>rw [hsb] at k1;cases k1;exact absurd (k2 _ _ _ rfl) (by omega)
 | own k1 k2 k3 k4 =>
  rw [hsb] at k1;cases k1
  subst hn
  rename_i B cap
  simp only [Nat.zero_mul,Nat.add_zero]
  obtain ⟨hH,hBlt⟩:=nums_holds hr hsb k2
  refine (Any.slices_Sort_int L B (ρ b).base cap s w hH hBlt hsz).mono ?_
  rintro e w' ⟨rfl,n,os,rfl⟩
  obtain ⟨ρ',h1,h2⟩:=nums_anew (m:=s.mergeSort fun x y=>decide (x≤y)) hr hsb k2 (by simp) _ rfl n os
  exact ⟨ρ',I,_,.ret (.tuple []),h1,h2,.tuple rfl (fun j c hj=>by simp at hj),⟨_,rfl,rfl,rfl⟩⟩
end
end Nv
/- Results that lie in blocks of the call's own,and become data at its end. -/

set_option linter.unusedVariables false
set_option linter.unusedSimpArgs false
namespace Nv
open Go
section
variable {P:Program}
def Thaws (P:Program) (a b:AV) (σ τ:ST):Prop:=∀ ρ I w v,RS P ρ I w σ→V ρ σ I w a v→∃ ρ' I',Step ρ I w σ ρ' I' w τ∧RS P ρ' I' w τ∧V ρ' τ I' w b v
theorem Thaws.refl (a:AV) (σ:ST):Thaws P a a σ σ:=fun ρ I w v hr hv=>⟨ρ,I,Step.refl _ _ _ _,hr,hv⟩
theorem Thaws.deep {q:Nat} {a b:AV} {σ τ:ST} (h:(rDeep q a σ).holds fun v τ'=>v=b∧τ'=τ):Thaws P a b σ τ:=by
 intro ρ I w v hr hv
 obtain ⟨u,av,w',ρ',I',σ',h1,h2,h3,h4,h5,h6⟩:=rDeep_sound (P:=P) hr q a v hv (s:=pure v) rfl _ h
 simp only [Sem.run_pure,Result.ok.injEq] at h1
 obtain ⟨rfl,rfl⟩:=h1
 subst h5 h6
 exact ⟨ρ',I',h2,h3,h4⟩
inductive ThawsL (P:Program):List AV→List AV→ST→ST→Prop
 | nil (σ:ST):ThawsL P [] [] σ σ
 | cons {a b:AV} {l m:List AV} {σ σ1 τ:ST}:Thaws P a b σ σ1→ThawsL P l m σ1 τ→ThawsL P (a::l) (b::m) σ τ
theorem ThawsL.length {l m:List AV} {σ τ:ST} (h:ThawsL P l m σ τ):m.length=l.length:=by
 induction h with
 | nil=>rfl
 | cons _ _ ih=>simp [ih]
theorem ThawsL.sound {l m:List AV} {σ τ:ST} (h:ThawsL P l m σ τ):∀ (ρ:RHO) (I:Nat→Prop) (w:World) (u:Nat→Value),RS P ρ I w σ→(∀ j c,l[j]? = some c→V ρ σ I w c (u j)) →
  ∃ ρ' I',Step ρ I w σ ρ' I' w τ∧RS P ρ' I' w τ∧∀ j c,m[j]? = some c→V ρ' τ I' w c (u j):=by
 induction h with
 | nil σ=>intro ρ I w u hr _;exact ⟨ρ,I,Step.refl _ _ _ _,hr,fun j c hj=>by simp at hj⟩
 | cons h1 h2 ih =>
  intro ρ I w u hr hv
  obtain ⟨ρ1,I1,s1,r1,v1⟩:=h1 ρ I w (u 0) hr (hv 0 _ rfl)
  obtain ⟨ρ2,I2,s2,r2,v2⟩:=ih ρ1 I1 w (fun j=>u (j+1)) r1 (fun j c hj=>s1.v hr (hv (j+1) c (by simpa using hj)))
  refine ⟨ρ2,I2,s1.trans s2,r2,fun j c hj=>?_⟩
  cases j with
  | zero=>simp at hj;subst hj;exact s2.v r1 v1
  | succ j=>exact v2 j c (by simpa using hj)
theorem Thaws.agg {l m:List AV} {σ τ:ST} (h:ThawsL P l m σ τ):Thaws P (.agg l) (.agg m) σ τ:=by
 intro ρ I w v hr hv
 cases hv with | agg h1 h2 =>
 obtain ⟨ρ',I',s,r,k⟩:=h.sound ρ I w _ hr h2
 exact ⟨ρ',I',s,r,.agg (by rw [h.length,h1]) k⟩
theorem Thaws.tuple {l m:List AV} {σ τ:ST} (h:ThawsL P l m σ τ):Thaws P (.tuple l) (.tuple m) σ τ:=by
 intro ρ I w v hr hv
 cases hv with | tuple h1 h2 =>
 obtain ⟨ρ',I',s,r,k⟩:=h.sound ρ I w _ hr h2
 exact ⟨ρ',I',s,r,.tuple (by rw [h.length,h1]) k⟩
theorem PCall.of_thaw {f:FuncId} {args:List AV} {r:AV} (ha:AV.pure.pures args=true) (hp:r.pure=true) (h:ACall P f args [] fun oc σ'=>∃ a τ,oc=.ret a∧Thaws P a r σ' τ):PCall P f args r:=by
 refine PCall.of_nil ha hp fun ρ I w vs hr hv=>?_
 refine (h ρ I w vs hr hv).mono ?_
 rintro e w' ⟨ρ',I',σ',oc,h1,h2,h3,a,τ,rfl,ht⟩
 cases e <;> simp only at h3
 obtain ⟨ρ2,I2,s2,r2,v2⟩:=ht ρ' I' w' _ h2 h3
 exact ⟨ρ2,I2,τ,.ret r,h1.trans s2,r2,v2,rfl⟩
theorem FnIs.thaw {f np:Nat} {rs:List ResultVar} {pc:PC} (hf:FnIs P f np rs pc) (hint:Nat→Hint) {args:List AV} {r:AV} (hn:args.length≤np) (ha:AV.pure.pures args=true) (hp:r.pure=true)
  (hh:wW P hint pc (endA P rs fun oc σ'=>∃ a τ,oc=.ret a∧Thaws P a r σ' τ) ⟨⟩ ⟨⟩ (initFr args) []):PCall P f args r:=PCall.of_thaw ha hp (hf.go hint hn hh)
end
end Nv
set_option linter.unusedVariables false
set_option linter.unusedSimpArgs false
set_option maxRecDepth 100000
namespace Go.Proofs.YtngdkenddfdhaaaGreatDoor
open Go Nv Pat
theorem len77z:PCall Tryz.prog 77 [.d (.int .u64 0)] (.d (.int .i64 0)):=by
 refine fn77.pure noHint (Nat.le_refl _) (by simp only [go_sem]) (by simp only [go_sem]) ?_
 have e1:ofVal (Value.string Lib.len8tab)=.d (.str Lib.len8tab.data.toList):=rfl
 have e2:(0:Int)<(Lib.len8tab.data.toList.length:Int):=by
  have:Lib.len8tab.data.toList.length=256:=by rfl
  omega
 have e3:((Lib.len8tab.data.toList.getD 0 0).toNat:Int)=0:=by rfl
 simp (disch:=omega) only [go_sem,e1,e2,e3]
theorem len52z:PCall Tryz.prog 52 [.d (.int .u64 0)] (.d (.int .i64 0)):=by
 refine fn52.pure noHint (Nat.le_refl _) (by simp only [go_sem]) (by simp only [go_sem]) ?_
 simp (disch:=omega) only [go_sem]
 refine len77z.at ?_
 simp (disch:=omega) only [go_sem]
theorem ins67z:PCall Tryz.prog 67 [.d (.list 1 []),.d (.int .i64 0),.d (.int .i64 0)] (.tuple []):=by
 refine fn67.pure noHint (Nat.le_refl _) (by simp only [go_sem]) (by simp only [go_sem]) ?_
 simp (disch:=omega) only [go_sem]
 refine wL_step ?_
 simp (disch:=omega) only [go_sem]
theorem pdq51z (n:Int):PCall Tryz.prog 51 [.d (.list 1 []),.d (.int .i64 0),.d (.int .i64 0),.d (.int .i64 n)] (.tuple []):=by
 refine fn51.pure noHint (Nat.le_refl _) (by simp only [go_sem]) (by simp only [go_sem]) ?_
 simp (disch:=omega) only [go_sem]
 refine wL_step ?_
 simp (disch:=omega) only [go_sem]
 refine ins67z.at ?_
 simp (disch:=omega) only [go_sem]
theorem sort26z:PCall Tryz.prog 26 [.d (.list 1 [])] (.tuple []):=by
 refine fn26.pure noHint (Nat.le_refl _) (by simp only [go_sem]) (by simp only [go_sem]) ?_
 simp (disch:=omega) only [go_sem]
 refine len52z.at ?_
 simp (disch:=omega) only [go_sem]
 refine (pdq51z 0).at ?_
 simp (disch:=omega) only [go_sem]
theorem sort26n:PCall Tryz.prog 26 [.d .nilslice] (.tuple []):=by
 refine PCall.wk (args':=[.d (.list 1 [])]) sort26z rfl fun i hi=>?_
 match i,hi with
 | 0,_=>exact .nil 1
def sortI (l:List Int):List Int:=l.mergeSort fun x y=>decide (x≤y)
theorem sortI_nil:sortI []=[]:=by simp [sortI]
theorem sortI_len (l:List Int):(sortI l).length=l.length:=by simp [sortI]
theorem sort26c {σ:Nv.ST} {c:AV} {l:List Int} (hc:Cell σ ⟨1,3⟩ c (l.map intD)) (hl:l.length≤1000000) :
  RCall Tryz.prog 26 [c] σ fun v σ'=>v=.tuple []∧σ'.length=σ.length∧Cell σ' ⟨1,3⟩ c ((sortI l).map intD)∧∀ k,blkOf c≠some k→stGet σ' k=stGet σ k:=by
 rcases hc with ⟨rfl,h2⟩ | ⟨b,g,n,hn,rfl,hb⟩
 ·have he:l=[]:=by simpa using h2
  subst he
  exact ACall.mono (sort26n σ) fun oc s h=>by
   obtain ⟨rfl,rfl⟩:=h
   exact ⟨_,rfl,rfl,rfl,.inl ⟨rfl,by rw [sortI_nil];rfl⟩,fun _ _=>rfl⟩
 ·rw [List.length_map] at hn
  have hbl:=lt_of_get hb (by simp)
  by_cases h0:0<l.length
  ·have hs:=sort_nums Tryz.lays189 l b g 3 σ hb h0 (by omega)
   subst hn
   refine ACall.mono hs fun oc s h=>?_
   obtain ⟨r,rfl,h1,rfl⟩:=h
   refine ⟨r,rfl,h1,stSet_len _ _ _,.inr ⟨b,g,_,by simp [sortI_len],rfl,by rw [stGet_set_eq hbl];rfl⟩,fun k hk=>?_⟩
   rw [stGet_set_ne (fun e=>hk (by rw [e];rfl))]
  ·have he:l=[]:=List.length_eq_zero_iff.1 (by omega)
   subst he
   rw [sortI_nil]
   obtain rfl:n=0:=hn
   have hlent:([AV.own b g 0 0].map (lent σ))=[.d (.list 1 [])]:=by
    simp (disch:=omega) only [go_sem,hb]
   have hc:PCall Tryz.prog 26 ([AV.own b g 0 0].map (lent σ)) (.tuple []):=by rw [hlent];exact sort26z
   refine ACall.mono (PCall.lend (K:=fun oc s=>oc=.ret (.tuple [])∧s=σ) hc (by rw [hlent];rfl) rfl ⟨rfl,rfl⟩) fun oc s h=>?_
   obtain ⟨rfl,rfl⟩:=h
   exact ⟨_,rfl,rfl,rfl,.inr ⟨b,g,0,rfl,rfl,hb⟩,fun _ _=>rfl⟩
end Go.Proofs.YtngdkenddfdhaaaGreatDoor
/- The language of the automaton of a tree. Plain: no program. -/

set_option linter.unusedVariables false
set_option linter.unusedSimpArgs false
namespace Pat
inductive Walk (Ep:Nat→Nat→Prop) (Ar:Nat→Int→Nat→Prop):Nat→List Int→Nat→Nat→Prop
 | nil (x:Nat):Walk Ep Ar 0 [] x x
 | eps {k:Nat} {w:List Int} {x y z:Nat}:Ep x y→Walk Ep Ar k w y z→Walk Ep Ar (k+1) w x z
 | arc {k:Nat} {c:Int} {w:List Int} {x y z:Nat}:Ar x c y→Walk Ep Ar k w y z→Walk Ep Ar (k+1) (c::w) x z
variable {Ep:Nat→Nat→Prop} {Ar:Nat→Int→Nat→Prop}
theorem Walk.trans {k l:Nat} {u v:List Int} {x y z:Nat} (h:Walk Ep Ar k u x y) (h':Walk Ep Ar l v y z):Walk Ep Ar (k+l) (u++v) x z:=by
 induction h with
 | nil x=>simpa using h'
 | eps h1 h2 ih=>rw [Nat.add_right_comm];exact .eps h1 (ih h')
 | arc h1 h2 ih=>rw [Nat.add_right_comm];exact .arc h1 (ih h')
def ArcIn (rows:List (List Arc)) (r:Nat) (c:Int) (t:Nat):Prop:=∃ lo hi,(lo,hi,(t:Int))∈rows.getD r []∧lo≤c∧c≤hi
theorem fst_pos (xs:List Tree) (o i:Nat):o≤fst xs o i:=by unfold fst;omega
theorem ed_region {n:Tree} (hn:WF n):∀ o r t,Ed n o r t→(o≤r∧r+1<o+sz n)∧o≤t∧t<o+sz n:=by
 induction hn with
 | @mk k set sub a b h1 h2 h3 h4 ih =>
  have hw:WF (.mk k set sub a b):=.mk h1 h2 h3 h4
  intro o r t hE
  have hs:=sz_eq hw
  have hiw:=items_wf hw
  have hi2:∀ x,x∈items (.mk k set sub a b)→2≤sz x:=fun x hx=>sz_two (hiw x hx)
  have hih:∀ x,x∈items (.mk k set sub a b)→∀ o r t,Ed x o r t→(o≤r∧r+1<o+sz x)∧o≤t∧t<o+sz x:=by
   intro x hx
   by_cases h5:k=5
   ·obtain ⟨y,rfl,_⟩:=h3 h5
    simp only [items,h5,if_true,List.headD_cons] at hx
    rw [(List.mem_replicate.1 hx).2]
    exact ih y (by simp)
   ·simp only [items,h5,if_false] at hx
    exact ih x hx
  have hm5:k=5→b<0→0<(items (.mk k set sub a b)).length:=by
   intro h5 hb
   obtain ⟨y,rfl,ha,_⟩:=h3 h5
   simp only [items,h5,if_true,List.length_replicate,copies,if_pos hb]
   omega
  revert hE hs hiw hi2 hih hm5
  generalize hxs:items (.mk k set sub a b)=xs
  intro hE hs hiw hi2 hih hm5
  have hT:fst xs (o+1) xs.length+1=o+sz (.mk k set sub a b):=by rw [fst_all];omega
  have hF:∀ i,fst xs (o+1) i≤fst xs (o+1) xs.length:=fun i=>by
   rcases Nat.le_total i xs.length with h | h
   ·exact fst_mono xs _ h
   ·have e:fst xs (o+1) i=fst xs (o+1) xs.length:=by unfold fst;rw [List.take_of_length_le h,List.take_of_length_le (Nat.le_refl _)]
    omega
  have hO:=fst_pos xs (o+1)
  have hP:∀ i,i≤xs.length→o≤pt xs (o+1) o i∧pt xs (o+1) o i<fst xs (o+1) xs.length:=by
   intro i hi
   refine ⟨?_,pt_lt hi2 (o+1) o (by omega) i hi⟩
   unfold pt
   split
   ·exact Nat.le_refl _
   ·unfold lst;have:=hO (i - 1+1);omega
  have hL:∀ i,i<xs.length→o≤lst xs (o+1) i∧lst xs (o+1) i<fst xs (o+1) xs.length:=by
   intro i hi
   refine ⟨?_,lst_lt hi2 (o+1) hi⟩
   unfold lst;have:=hO (i+1);omega
  rcases (ed_iff _ _ _ _).1 hE with hE | ⟨i,x,hx,hE⟩
  ·have hOT:=hO xs.length
   have fin:∀ r t,(o≤r∧r<fst xs (o+1) xs.length)→(o≤t∧t≤fst xs (o+1) xs.length)→(o≤r∧r+1<o+sz (.mk k set sub a b))∧o≤t∧t<o+sz (.mk k set sub a b):=fun r t h h'=>by omega
   have tF:∀ i,o≤fst xs (o+1) i∧fst xs (o+1) i≤fst xs (o+1) xs.length:=fun i=>⟨by have:=hO i;omega,hF i⟩
   rw [Own,hxs] at hE
   by_cases k2:k=2
   ·rw [if_pos k2] at hE;exact hE.elim
   rw [if_neg k2] at hE
   by_cases k3:k=3
   ·rw [if_pos k3] at hE
    rcases hE with ⟨i,hi,rfl,rfl⟩ | ⟨rfl,rfl⟩
    ·exact fin _ _ (hP i (by omega)) (tF i)
    ·exact fin _ _ (hP _ (Nat.le_refl _)) (tF _)
   rw [if_neg k3] at hE
   by_cases k4:k=4
   ·rw [if_pos k4] at hE
    obtain ⟨i,hi,⟨rfl,rfl⟩ | ⟨rfl,rfl⟩⟩:=hE
    ·exact fin _ _ ⟨Nat.le_refl _,by omega⟩ (tF i)
    ·exact fin _ _ (hL i hi) (tF _)
   rw [if_neg k4] at hE
   by_cases k5:k=5
   ·rw [if_pos k5] at hE
    rcases hE with ⟨i,hi,rfl,rfl⟩ | ⟨i,_,hi,rfl,rfl⟩ | ⟨hb,rfl,rfl⟩
    ·exact fin _ _ (hP i (by omega)) (tF i)
    ·exact fin _ _ (hP i hi) (tF _)
    ·exact fin _ _ (hP _ (Nat.le_refl _)) (tF _)
   rw [if_neg k5] at hE
   obtain ⟨rfl,rfl⟩:=hE
   exact fin _ _ ⟨Nat.le_refl _,by omega⟩ (tF _)
  ·rw [hxs] at hx hE
   have hlt:=(List.getElem?_eq_some_iff.1 hx).1
   have hxm:=List.mem_of_getElem? hx
   have:=hih x hxm _ _ _ hE
   have h1:=fst_succ xs (o+1) i hx
   have h2:=hF (i+1)
   have h3:=hO i
   omega
theorem rowsA_last {n:Tree} (hn:WF n) (o:Nat):(rowsA n o).getD (sz n - 1) []=[]:=by
 have hl:=rowsA_len hn o
 have h2:=sz_two hn
 cases hn with
 | @mk k set sub a b h1 h2' h3 h4 =>
  have hw:WF (.mk k set sub a b):=.mk h1 h2' h3 h4
  by_cases k2:k=2
  ·subst k2
   obtain rfl:=h2' (.inr rfl)
   simp [rowsA,sz,szs]
  ·rw [rowsA_items k set sub a b o k2 (fun h5=>by obtain ⟨x,rfl,_⟩:=h3 h5;simp)] at hl ⊢
   simp only [List.length_cons,List.length_append,List.length_nil] at hl
   rw [← hl,List.getD_eq_getElem?_getD,Nat.add_sub_cancel,List.getElem?_cons,if_neg (by omega),Nat.add_sub_cancel,List.getElem?_append_right (by omega)]
   simp
theorem catA_get:∀ (xs:List Tree),(∀ x,x∈xs→WF x)→∀ (o i:Nat) (x:Tree) (j:Nat),xs[i]? = some x→j<sz x→(catA (xs.map fun x o=>rowsA x o) o)[fst xs o i - o+j]? = (rowsA x (fst xs o i))[j]?
 | [],_,o,i,x,j,h,_=>by simp at h
 | y::xs,hw,o,i,x,j,h,hj=>by
  have hy:=rowsA_len (hw y (by simp)) o
  simp only [List.map_cons,catA]
  cases i with
  | zero =>
   simp only [List.getElem?_cons_zero,Option.some.injEq] at h;subst h
   rw [fst_zero,Nat.sub_self,Nat.zero_add,List.getElem?_append_left (by omega)]
  | succ i =>
   have hf:=fst_pos xs (o+sz y) i
   rw [fst_cons,List.getElem?_append_right (by omega)]
   have:=catA_get xs (fun z hz=>hw z (by simp [hz])) (o+sz y) i x j (by simpa using h) hj
   rw [hy,← this]
   congr 1;omega
def Emb (Ep:Nat→Nat→Prop) (Ar:Nat→Int→Nat→Prop) (n:Tree) (o:Nat):Prop :=
 ∀ r,o≤r→r+1<o+sz n→(∀ t,Ep r t↔Ed n o r t)∧∀ c t,Ar r c t↔ArcIn (rowsA n o) (r - o) c t
theorem lst_fst {xs:List Tree} {o i:Nat} {x:Tree} (h:xs[i]? = some x) (h2:2≤sz x):lst xs o i+1=fst xs o i+sz x:=by
 unfold lst;rw [fst_succ xs o i h];omega
theorem own_src {n:Tree} {o r t:Nat} (h:Own n o r t):r=o∨∃ i,i<(items n).length∧r=lst (items n) (o+1) i:=by
 have hp:∀ i,i≤(items n).length→pt (items n) (o+1) o i=o∨∃ j,j<(items n).length∧pt (items n) (o+1) o i=lst (items n) (o+1) j:=by
  intro i hi
  unfold pt
  split
  ·exact .inl rfl
  ·exact .inr ⟨i - 1,by omega,rfl⟩
 cases n with
 | mk k set sub a b =>
  rw [Own] at h
  by_cases k2:k=2
  ·rw [if_pos k2] at h;exact h.elim
  rw [if_neg k2] at h
  by_cases k3:k=3
  ·rw [if_pos k3] at h
   rcases h with ⟨i,hi,rfl,_⟩ | ⟨rfl,_⟩
   ·exact hp i (by omega)
   ·exact hp _ (Nat.le_refl _)
  rw [if_neg k3] at h
  by_cases k4:k=4
  ·rw [if_pos k4] at h
   obtain ⟨i,hi,⟨rfl,_⟩ | ⟨rfl,_⟩⟩:=h
   ·exact .inl rfl
   ·exact .inr ⟨i,hi,rfl⟩
  rw [if_neg k4] at h
  by_cases k5:k=5
  ·rw [if_pos k5] at h
   rcases h with ⟨i,hi,rfl,_⟩ | ⟨i,_,hi,rfl,_⟩ | ⟨_,rfl,_⟩
   ·exact hp i (by omega)
   ·exact hp i hi
   ·exact hp _ (Nat.le_refl _)
  rw [if_neg k5] at h
  exact .inl h.1
theorem fst_lt {xs:List Tree} (h2:∀ x,x∈xs→2≤sz x) (o:Nat) {i j:Nat} (hij:i<j) (hi:i<xs.length):lst xs o i<fst xs o j:=by
 have h1:=lst_fst (o:=o) (List.getElem?_eq_getElem hi) (h2 _ (List.getElem_mem hi))
 have h3:=fst_succ xs o i (List.getElem?_eq_getElem hi)
 have h4:=fst_mono xs o (show i+1≤j by omega)
 have:=h2 _ (List.getElem_mem hi)
 omega
theorem Emb.item {n:Tree} (hn:WF n) {o:Nat} (he:Emb Ep Ar n o) {i:Nat} {x:Tree} (hx:(items n)[i]? = some x):Emb Ep Ar x (fst (items n) (o+1) i):=by
 intro r hr1 hr2
 have hiw:=items_wf hn
 have hi2:∀ x,x∈items n→2≤sz x:=fun x hx=>sz_two (hiw x hx)
 have hlt:=(List.getElem?_eq_some_iff.1 hx).1
 have hs:=sz_eq hn
 have hxw:=hiw x (List.mem_of_getElem? hx)
 have hx2:=sz_two hxw
 have hall:=fst_all (items n) (o+1)
 have hsucc:=fst_succ (items n) (o+1) i hx
 have hle:=fst_mono (items n) (o+1) (show i+1≤(items n).length by omega)
 have hpos:=fst_pos (items n) (o+1) i
 obtain ⟨e1,e2⟩:=he r (by omega) (by omega)
 refine ⟨fun t=>(e1 t).trans ?_,fun c t=>(e2 c t).trans ?_⟩
 ·rw [ed_iff]
  constructor
  ·rintro (h | ⟨j,y,hy,h⟩)
   ·exfalso
    rcases own_src h with rfl | ⟨j,hj,rfl⟩
    ·omega
    ·rcases Nat.lt_trichotomy j i with h | h | h
     ·have:=fst_lt hi2 (o+1) h hj;omega
     ·subst h;have:=lst_fst (o:=o+1) hx hx2;omega
     ·have h5:=lst_fst (o:=o+1) (List.getElem?_eq_getElem hj) (hi2 _ (List.getElem_mem hj))
      have h6:=fst_mono (items n) (o+1) (show i+1≤j by omega)
      have:=hi2 _ (List.getElem_mem hj)
      omega
   ·have hjl:=(List.getElem?_eq_some_iff.1 hy).1
    have hyw:=hiw y (List.mem_of_getElem? hy)
    have hreg:=(ed_region hyw _ _ _ h).1
    rcases Nat.lt_trichotomy j i with h6 | h6 | h6
    ·have h5:=fst_succ (items n) (o+1) j hy
     have h7:=fst_mono (items n) (o+1) (show j+1≤i by omega)
     omega
    ·subst h6;rw [hx] at hy;cases hy;exact h
    ·have h7:=fst_mono (items n) (o+1) (show i+1≤j by omega)
     omega
  ·intro h;exact .inr ⟨i,x,hx,h⟩
 ·have hk2:∃ k set sub a b,n=.mk k set sub a b∧k≠2∧(k=5→sub≠[]):=by
   cases hn with
   | @mk k set sub a b h1 h2 h3 h4 =>
    refine ⟨k,set,sub,a,b,rfl,fun k2=>?_,fun h5=>by obtain ⟨x,rfl,_⟩:=h3 h5;simp⟩
    subst k2
    obtain rfl:=h2 (.inr rfl)
    simp [items] at hx
  obtain ⟨k,set,sub,a,b,rfl,k2,k5⟩:=hk2
  have hrow:(rowsA (.mk k set sub a b) o).getD (r - o) []=(rowsA x (fst (items (.mk k set sub a b)) (o+1) i)).getD (r - fst (items (.mk k set sub a b)) (o+1) i) []:=by
   have hcl:=catA_len (items (.mk k set sub a b)) (o+1) fun y hy o=>rowsA_len (hiw y hy) o
   rw [rowsA_items k set sub a b o k2 k5,List.getD_eq_getElem?_getD,List.getD_eq_getElem?_getD,show r - o=(r - (o+1))+1 by omega,List.getElem?_cons_succ,List.getElem?_append_left (by omega)]
   have:=catA_get _ hiw (o+1) i x (r - fst (items (.mk k set sub a b)) (o+1) i) hx (by omega)
   rw [show fst (items (.mk k set sub a b)) (o+1) i - (o+1)+(r - fst (items (.mk k set sub a b)) (o+1) i)=r - (o+1) by omega] at this
   rw [this]
  unfold ArcIn
  rw [hrow]
end Pat
/- The language of the automaton of a tree: it is the tree's. Plain: no program. -/

set_option linter.unusedVariables false
set_option linter.unusedSimpArgs false
namespace Pat
variable {Ep:Nat→Nat→Prop} {Ar:Nat→Int→Nat→Prop}
theorem pt_zero (xs:List Tree) (o s:Nat):pt xs o s 0=s:=by simp [pt]
theorem pt_succ (xs:List Tree) (o s i:Nat):pt xs o s (i+1)=lst xs o i:=by simp [pt]
theorem pt_inj {xs:List Tree} (h2:∀ x,x∈xs→2≤sz x) {o s:Nat} (hs:s<o) {i j:Nat} (hi:i≤xs.length) (hj:j≤xs.length) (h:pt xs o s i=pt xs o s j):i=j:=by
 have lt:∀ {i j:Nat},i<j→j≤xs.length→pt xs o s i<pt xs o s j:=by
  intro i j hij hj
  obtain ⟨j,rfl⟩:∃ k,j=k+1:=⟨j - 1,by omega⟩
  rw [pt_succ]
  have h1:=lst_fst (o:=o) (List.getElem?_eq_getElem (show j<xs.length by omega)) (h2 _ (List.getElem_mem (show j<xs.length by omega)))
  have h3:=h2 _ (List.getElem_mem (show j<xs.length by omega))
  cases i with
  | zero=>rw [pt_zero];have:=fst_pos xs o j;omega
  | succ i =>
   rw [pt_succ]
   have:=fst_lt h2 o (show i<j by omega) (by omega)
   omega
 rcases Nat.lt_trichotomy i j with h' | h' | h'
 ·have:=lt h' hj;omega
 ·exact h'
 ·have:=lt h' hi;omega
structure Frame (Ep:Nat→Nat→Prop) (Ar:Nat→Int→Nat→Prop) (xs:List Tree) (o T:Nat):Prop where
 two:∀ x,x∈xs→2≤sz x
 T:T=fst xs (o+1) xs.length
 noAr:∀ i,i≤xs.length→∀ c t,¬ Ar (pt xs (o+1) o i) c t
 sub:∀ i x,xs[i]? = some x→Emb Ep Ar x (fst xs (o+1) i)
theorem row_none {n:Tree} (hn:WF n) {o:Nat} (he:Emb Ep Ar n o) (hk:∀ k s l a b,n=.mk k s l a b→k≠2∧(k=5→l≠[])):∀ i,i≤(items n).length→∀ c t,¬ Ar (pt (items n) (o+1) o i) c t:=by
 intro i hi c t h
 have hiw:=items_wf hn
 have hi2:∀ x,x∈items n→2≤sz x:=fun x hx=>sz_two (hiw x hx)
 have hs:=sz_eq hn
 have hall:=fst_all (items n) (o+1)
 have hlt:=pt_lt hi2 (o+1) o (by omega) i hi
 have hge:o≤pt (items n) (o+1) o i:=by
  cases i with
  | zero=>rw [pt_zero];exact Nat.le_refl _
  | succ i=>rw [pt_succ];have:=lst_fst (o:=o+1) (List.getElem?_eq_getElem (show i<(items n).length by omega)) (hi2 _ (List.getElem_mem (show i<(items n).length by omega)));have:=fst_pos (items n) (o+1) i;have:=hi2 _ (List.getElem_mem (show i<(items n).length by omega));omega
 obtain ⟨_,e2⟩:=he _ hge (by omega)
 have h:=(e2 c t).1 h
 obtain ⟨k,set,sub,a,b,rfl⟩:∃ k set sub a b,n=.mk k set sub a b:=by cases n;exact ⟨_,_,_,_,_,rfl⟩
 obtain ⟨k2,k5⟩:=hk _ _ _ _ _ rfl
 obtain ⟨lo,hi',hm,_⟩:=h
 rw [rowsA_items k set sub a b o k2 k5] at hm
 cases i with
 | zero=>rw [pt_zero,Nat.sub_self] at hm;simp at hm
 | succ i =>
  have hil:i<(items (.mk k set sub a b)).length:=by omega
  rw [pt_succ] at hm hlt hge
  have h1:=lst_fst (o:=o+1) (List.getElem?_eq_getElem hil) (hi2 _ (List.getElem_mem hil))
  have h3:=hi2 _ (List.getElem_mem hil)
  have hp:=fst_pos (items (.mk k set sub a b)) (o+1) i
  have hcl:=catA_len (items (.mk k set sub a b)) (o+1) fun y hy o=>rowsA_len (hiw y hy) o
  have hg:=catA_get _ hiw (o+1) i _ (sz (items (.mk k set sub a b))[i] - 1) (List.getElem?_eq_getElem hil) (by omega)
  have hl:=rowsA_last (hiw _ (List.getElem_mem hil)) (fst (items (.mk k set sub a b)) (o+1) i)
  rw [List.getD_eq_getElem?_getD,show lst (items (.mk k set sub a b)) (o+1) i - o=(lst (items (.mk k set sub a b)) (o+1) i - (o+1))+1 by omega,List.getElem?_cons_succ,List.getElem?_append_left (by omega),
   show lst (items (.mk k set sub a b)) (o+1) i - (o+1)=fst (items (.mk k set sub a b)) (o+1) i - (o+1)+(sz (items (.mk k set sub a b))[i] - 1) by omega,hg,← List.getD_eq_getElem?_getD,hl] at hm
  cases hm
def Reads (Ep:Nat→Nat→Prop) (Ar:Nat→Int→Nat→Prop) (n:Tree):Prop:=∀ o,Emb Ep Ar n o →
 (∀ k w y,Walk Ep Ar k w o y→(y<o∨o+sz n≤y+1)→∃ k' u v,k'≤k∧w=u++v∧Lang n u∧Walk Ep Ar k' v (o+sz n - 1) y) ∧
 (∀ u,Lang n u→∃ k,Walk Ep Ar k u o (o+sz n - 1))
theorem walk_first {k:Nat} {w:List Int} {x y:Nat} (h:Walk Ep Ar k w x y) (hne:x≠y) (ha:∀ c t,¬ Ar x c t):∃ k' t,k=k'+1∧Ep x t∧Walk Ep Ar k' w t y:=by
 cases h with
 | nil=>exact absurd rfl hne
 | eps h1 h2=>exact ⟨_,_,rfl,h1,h2⟩
 | arc h1 h2=>exact absurd h1 (ha _ _)
theorem Frame.pass {xs:List Tree} {o T:Nat} (F:Frame Ep Ar xs o T) {i:Nat} {x:Tree} (hx:xs[i]? = some x) (hr:Reads Ep Ar x) {k:Nat} {w:List Int} {y:Nat}
  (h:Walk Ep Ar k w (fst xs (o+1) i) y) (hy:y<o∨T≤y):∃ k' u v,k'≤k∧w=u++v∧Lang x u∧Walk Ep Ar k' v (pt xs (o+1) o (i+1)) y:=by
 have h2:=F.two x (List.mem_of_getElem? hx)
 have hlt:=(List.getElem?_eq_some_iff.1 hx).1
 have h1:=lst_fst (o:=o+1) hx h2
 have h3:=fst_mono xs (o+1) (show i+1≤xs.length by omega)
 have h4:=fst_succ xs (o+1) i hx
 have h5:=fst_pos xs (o+1) i
 obtain ⟨k',u,v,e1,e2,e3,e4⟩:=(hr _ (F.sub i x hx)).1 k w y h (by rw [F.T] at hy;omega)
 refine ⟨k',u,v,e1,e2,e3,?_⟩
 rw [pt_succ,show lst xs (o+1) i=fst xs (o+1) i+sz x - 1 by omega]
 exact e4
theorem Frame.run {xs:List Tree} {o T:Nat} (F:Frame Ep Ar xs o T) {i:Nat} {x:Tree} (hx:xs[i]? = some x) (hr:Reads Ep Ar x) {u:List Int} (hu:Lang x u):∃ k,Walk Ep Ar k u (fst xs (o+1) i) (pt xs (o+1) o (i+1)):=by
 have h2:=F.two x (List.mem_of_getElem? hx)
 have h1:=lst_fst (o:=o+1) hx h2
 obtain ⟨k,h⟩:=(hr _ (F.sub i x hx)).2 u hu
 refine ⟨k,?_⟩
 rw [pt_succ,show lst xs (o+1) i=fst xs (o+1) i+sz x - 1 by omega]
 exact h
end Pat
