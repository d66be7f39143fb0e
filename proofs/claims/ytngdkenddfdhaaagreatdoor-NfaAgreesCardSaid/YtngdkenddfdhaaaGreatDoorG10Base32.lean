/- Facts on the types of this seat's program,and the prepared code of its functions. Written by a program of mine (gen.py) out of what the loaded dump prints. -/
import Derived.Test.YtngdkenddfdhaaaGreatDoorProg
import Derived.Test.YtngdkenddfdhaaaGreatDoorG09NvP
import Derived.KernelRfl
set_option linter.unusedVariables false
set_option maxRecDepth 100000
namespace Go.Proofs.YtngdkenddfdhaaaGreatDoor
open Go Nv
attribute [go_sem] Tryz.underlying0 Tryz.underlying1 Tryz.underlying2 Tryz.underlying3 Tryz.underlying4 Tryz.underlying5 Tryz.underlying6 Tryz.underlying7 Tryz.underlying8 Tryz.underlying9 Tryz.underlying10 Tryz.underlying11 Tryz.underlying12 Tryz.underlying13 Tryz.underlying14 Tryz.underlying15 Tryz.underlying16 Tryz.underlying17 Tryz.underlying18 Tryz.underlying19 Tryz.underlying20 Tryz.underlying21 Tryz.underlying22 Tryz.underlying23 Tryz.underlying24 Tryz.underlying25 Tryz.underlying26 Tryz.underlying27 Tryz.underlying28 Tryz.underlying29 Tryz.underlying30 Tryz.underlying31 Tryz.underlying32 Tryz.underlying33 Tryz.underlying34 Tryz.underlying35 Tryz.underlying36 Tryz.underlying37 Tryz.underlying38 Tryz.underlying39 Tryz.underlying40 Tryz.underlying41 Tryz.underlying42 Tryz.underlying43 Tryz.underlying44 Tryz.underlying45 Tryz.underlying46 Tryz.underlying47 Tryz.underlying48 Tryz.underlying49 Tryz.underlying50 Tryz.underlying51 Tryz.underlying52 Tryz.underlying53 Tryz.underlying54 Tryz.underlying55 Tryz.underlying56 Tryz.underlying57 Tryz.underlying58 Tryz.underlying59 Tryz.underlying60 Tryz.underlying61 Tryz.underlying62 Tryz.underlying63 Tryz.underlying64 Tryz.underlying65 Tryz.underlying66 Tryz.underlying67 Tryz.underlying68 Tryz.underlying69 Tryz.underlying70 Tryz.underlying71 Tryz.underlying72 Tryz.underlying73 Tryz.underlying74 Tryz.underlying75 Tryz.underlying76 Tryz.underlying77 Tryz.underlying78 Tryz.underlying79 Tryz.underlying80 Tryz.underlying81 Tryz.underlying82 Tryz.underlying83 Tryz.underlying84 Tryz.underlying85 Tryz.underlying86 Tryz.underlying87 Tryz.underlying88 Tryz.underlying89 Tryz.underlying90 Tryz.underlying91 Tryz.underlying92 Tryz.underlying93 Tryz.underlying94 Tryz.underlying95 Tryz.underlying96 Tryz.underlying97 Tryz.underlying98 Tryz.underlying99 Tryz.underlying100 Tryz.underlying101 Tryz.underlying102 Tryz.underlying103 Tryz.underlying104 Tryz.underlying105 Tryz.underlying106 Tryz.underlying107 Tryz.underlying108 Tryz.underlying109 Tryz.underlying110 Tryz.underlying111 Tryz.underlying112 Tryz.underlying113 Tryz.underlying114 Tryz.underlying115 Tryz.underlying116 Tryz.underlying117 Tryz.underlying118 Tryz.underlying119 Tryz.underlying120 Tryz.underlying121 Tryz.underlying122 Tryz.underlying123 Tryz.underlying124 Tryz.underlying125 Tryz.underlying126 Tryz.underlying127 Tryz.underlying128 Tryz.underlying129 Tryz.underlying130 Tryz.underlying131 Tryz.underlying132 Tryz.underlying133 Tryz.underlying134 Tryz.underlying135 Tryz.underlying136 Tryz.underlying137 Tryz.underlying138 Tryz.underlying139 Tryz.underlying140 Tryz.underlying141 Tryz.underlying142 Tryz.underlying143 Tryz.underlying144 Tryz.underlying145 Tryz.underlying146 Tryz.underlying147 Tryz.underlying148 Tryz.underlying149 Tryz.underlying150 Tryz.underlying151 Tryz.underlying152 Tryz.underlying153 Tryz.underlying154 Tryz.underlying155 Tryz.underlying156 Tryz.underlying157 Tryz.underlying158 Tryz.underlying159 Tryz.underlying160 Tryz.underlying161 Tryz.underlying162 Tryz.underlying163
@[go_sem] theorem c3:Tryz.prog.cellsOf 3=1:=nrfl (by kernel_rfl)
@[go_sem] theorem by3:Tryz.prog.bytesOf 3=8:=nrfl (by kernel_rfl)
@[go_sem] theorem z3:zeroA Tryz.prog 3=(.d (.int .i64 0)):=nrfl (by kernel_rfl)
@[go_sem] theorem c4:Tryz.prog.cellsOf 4=1:=nrfl (by kernel_rfl)
@[go_sem] theorem by4:Tryz.prog.bytesOf 4=1:=nrfl (by kernel_rfl)
@[go_sem] theorem z4:zeroA Tryz.prog 4=(.d (.bool false)):=nrfl (by kernel_rfl)
@[go_sem] theorem c5:Tryz.prog.cellsOf 5=1:=nrfl (by kernel_rfl)
@[go_sem] theorem c21:Tryz.prog.cellsOf 21=1:=nrfl (by kernel_rfl)
@[go_sem] theorem by21:Tryz.prog.bytesOf 21=4:=nrfl (by kernel_rfl)
@[go_sem] theorem z21:zeroA Tryz.prog 21=(.d (.int .i32 0)):=nrfl (by kernel_rfl)
@[go_sem] theorem c22:Tryz.prog.cellsOf 22=1:=nrfl (by kernel_rfl)
@[go_sem] theorem c23:Tryz.prog.cellsOf 23=1:=nrfl (by kernel_rfl)
@[go_sem] theorem c25:Tryz.prog.cellsOf 25=5:=nrfl (by kernel_rfl)
@[go_sem] theorem by25:Tryz.prog.bytesOf 25=72:=nrfl (by kernel_rfl)
@[go_sem] theorem z25:zeroA Tryz.prog 25=(.agg [(.d (.int .i64 0)),(.d .nilslice),(.d .nilslice),(.d (.int .i64 0)),(.d (.int .i64 0))]):=nrfl (by kernel_rfl)
@[go_sem] theorem sp25:structPlaces Tryz.prog 25=some [(0,1),(1,1),(2,1),(3,1),(4,1)]:=nrfl (by kernel_rfl)
@[go_sem] theorem fo25_0:fieldOff Tryz.prog 25 0=some (0,3):=by kernel_rfl
@[go_sem] theorem fo25_1:fieldOff Tryz.prog 25 1=some (1,22):=by kernel_rfl
@[go_sem] theorem fo25_2:fieldOff Tryz.prog 25 2=some (2,23):=by kernel_rfl
@[go_sem] theorem fo25_3:fieldOff Tryz.prog 25 3=some (3,3):=by kernel_rfl
@[go_sem] theorem fo25_4:fieldOff Tryz.prog 25 4=some (4,3):=by kernel_rfl
@[go_sem] theorem c28:Tryz.prog.cellsOf 28=1:=nrfl (by kernel_rfl)
@[go_sem] theorem c29:Tryz.prog.cellsOf 29=1:=nrfl (by kernel_rfl)
@[go_sem] theorem c31:Tryz.prog.cellsOf 31=4:=nrfl (by kernel_rfl)
@[go_sem] theorem z31:zeroA Tryz.prog 31=(.agg [(.d (.int .i64 0)),(.d (.int .i64 0)),(.d .nilslice),(.d .nilslice)]):=nrfl (by kernel_rfl)
@[go_sem] theorem sp31:structPlaces Tryz.prog 31=some [(0,1),(1,1),(2,1),(3,1)]:=nrfl (by kernel_rfl)
@[go_sem] theorem fo31_0:fieldOff Tryz.prog 31 0=some (0,3):=by kernel_rfl
@[go_sem] theorem fo31_1:fieldOff Tryz.prog 31 1=some (1,3):=by kernel_rfl
@[go_sem] theorem fo31_2:fieldOff Tryz.prog 31 2=some (2,28):=by kernel_rfl
@[go_sem] theorem fo31_3:fieldOff Tryz.prog 31 3=some (3,29):=by kernel_rfl
@[go_sem] theorem c32:Tryz.prog.cellsOf 32=1:=nrfl (by kernel_rfl)
@[go_sem] theorem z32:zeroA Tryz.prog 32=(.d (.int .i64 0)):=nrfl (by kernel_rfl)
@[go_sem] theorem z48:zeroA Tryz.prog 48=(.agg [(.d .nilslice),(.d .nilslice)]):=nrfl (by kernel_rfl)
@[go_sem] theorem sp48:structPlaces Tryz.prog 48=some [(0,1),(1,1)]:=nrfl (by kernel_rfl)
@[go_sem] theorem fo48_0:fieldOff Tryz.prog 48 0=some (0,28):=by kernel_rfl
@[go_sem] theorem fo48_1:fieldOff Tryz.prog 48 1=some (1,29):=by kernel_rfl
@[go_sem] theorem c51:Tryz.prog.cellsOf 51=1:=nrfl (by kernel_rfl)
@[go_sem] theorem by51:Tryz.prog.bytesOf 51=24:=nrfl (by kernel_rfl)
@[go_sem] theorem z51:zeroA Tryz.prog 51=(.d .nilslice):=nrfl (by kernel_rfl)
@[go_sem] theorem c55:Tryz.prog.cellsOf 55=1:=nrfl (by kernel_rfl)
@[go_sem] theorem by55:Tryz.prog.bytesOf 55=24:=nrfl (by kernel_rfl)
@[go_sem] theorem z55:zeroA Tryz.prog 55=(.d .nilslice):=nrfl (by kernel_rfl)
@[go_sem] theorem c57:Tryz.prog.cellsOf 57=2:=nrfl (by kernel_rfl)
@[go_sem] theorem by57:Tryz.prog.bytesOf 57=8:=nrfl (by kernel_rfl)
@[go_sem] theorem z57:zeroA Tryz.prog 57=(.agg [(.d (.int .i32 0)),(.d (.int .i32 0))]):=nrfl (by kernel_rfl)
@[go_sem] theorem sp57:structPlaces Tryz.prog 57=some [(0,1),(1,1)]:=nrfl (by kernel_rfl)
@[go_sem] theorem fo57_0:fieldOff Tryz.prog 57 0=some (0,21):=by kernel_rfl
@[go_sem] theorem fo57_1:fieldOff Tryz.prog 57 1=some (1,21):=by kernel_rfl
@[go_sem] theorem c59:Tryz.prog.cellsOf 59=3:=nrfl (by kernel_rfl)
@[go_sem] theorem by59:Tryz.prog.bytesOf 59=16:=nrfl (by kernel_rfl)
@[go_sem] theorem z59:zeroA Tryz.prog 59=(.agg [(.d (.int .i32 0)),(.d (.int .i32 0)),(.d (.int .i64 0))]):=nrfl (by kernel_rfl)
@[go_sem] theorem sp59:structPlaces Tryz.prog 59=some [(0,2),(2,1)]:=nrfl (by kernel_rfl)
@[go_sem] theorem fo59_0:fieldOff Tryz.prog 59 0=some (0,57):=by kernel_rfl
@[go_sem] theorem fo59_1:fieldOff Tryz.prog 59 1=some (2,3):=by kernel_rfl
@[go_sem] theorem c62:Tryz.prog.cellsOf 62=1:=nrfl (by kernel_rfl)
@[go_sem] theorem c71:Tryz.prog.cellsOf 71=1:=nrfl (by kernel_rfl)
@[go_sem] theorem z71:zeroA Tryz.prog 71=(.d .nilslice):=nrfl (by kernel_rfl)
@[go_sem] theorem z74:zeroA Tryz.prog 74=(.agg []):=nrfl (by kernel_rfl)
@[go_sem] theorem sp74:structPlaces Tryz.prog 74=some []:=nrfl (by kernel_rfl)
@[go_sem] theorem z78:zeroA Tryz.prog 78=(.agg [(.d .nilslice),(.d (.int .i64 0))]):=nrfl (by kernel_rfl)
@[go_sem] theorem sp78:structPlaces Tryz.prog 78=some [(0,1),(1,1)]:=nrfl (by kernel_rfl)
@[go_sem] theorem fo78_0:fieldOff Tryz.prog 78 0=some (0,62):=by kernel_rfl
@[go_sem] theorem fo78_1:fieldOff Tryz.prog 78 1=some (1,3):=by kernel_rfl
@[go_sem] theorem c97:Tryz.prog.cellsOf 97=4:=nrfl (by kernel_rfl)
@[go_sem] theorem z97:zeroA Tryz.prog 97=(.agg [(.d (.int .i32 0)),(.d (.int .i64 0)),(.d (.int .u8 0)),(.d (.int .u8 0))]):=nrfl (by kernel_rfl)
@[go_sem] theorem sp97:structPlaces Tryz.prog 97=some [(0,1),(1,1),(2,1),(3,1)]:=nrfl (by kernel_rfl)
@[go_sem] theorem fo97_0:fieldOff Tryz.prog 97 0=some (0,21):=by kernel_rfl
@[go_sem] theorem fo97_1:fieldOff Tryz.prog 97 1=some (1,3):=by kernel_rfl
@[go_sem] theorem fo97_2:fieldOff Tryz.prog 97 2=some (2,5):=by kernel_rfl
@[go_sem] theorem fo97_3:fieldOff Tryz.prog 97 3=some (3,5):=by kernel_rfl
theorem foll:Tryz.prog.follows .mixedOrders=true:=by kernel_rfl
@[go_sem] theorem pf7:plainFn Tryz.prog 7=true:=nrfl (by kernel_rfl)
@[go_sem] theorem pf8:plainFn Tryz.prog 8=true:=nrfl (by kernel_rfl)
@[go_sem] theorem pf9:plainFn Tryz.prog 9=true:=nrfl (by kernel_rfl)
@[go_sem] theorem pf12:plainFn Tryz.prog 12=true:=nrfl (by kernel_rfl)
@[go_sem] theorem pf14:plainFn Tryz.prog 14=true:=nrfl (by kernel_rfl)
@[go_sem] theorem pf15:plainFn Tryz.prog 15=true:=nrfl (by kernel_rfl)
@[go_sem] theorem pf16:plainFn Tryz.prog 16=true:=nrfl (by kernel_rfl)
@[go_sem] theorem pf17:plainFn Tryz.prog 17=true:=nrfl (by kernel_rfl)
@[go_sem] theorem pf18:plainFn Tryz.prog 18=true:=nrfl (by kernel_rfl)
@[go_sem] theorem pf19:plainFn Tryz.prog 19=true:=nrfl (by kernel_rfl)
@[go_sem] theorem pf20:plainFn Tryz.prog 20=true:=nrfl (by kernel_rfl)
@[go_sem] theorem pf21:plainFn Tryz.prog 21=true:=nrfl (by kernel_rfl)
@[go_sem] theorem pf22:plainFn Tryz.prog 22=true:=nrfl (by kernel_rfl)
@[go_sem] theorem pf23:plainFn Tryz.prog 23=true:=nrfl (by kernel_rfl)
@[go_sem] theorem pf24:plainFn Tryz.prog 24=true:=nrfl (by kernel_rfl)
@[go_sem] theorem pf25:plainFn Tryz.prog 25=true:=nrfl (by kernel_rfl)
@[go_sem] theorem pf26:plainFn Tryz.prog 26=true:=nrfl (by kernel_rfl)
@[go_sem] theorem pf29:plainFn Tryz.prog 29=true:=nrfl (by kernel_rfl)
@[go_sem] theorem pf30:plainFn Tryz.prog 30=true:=nrfl (by kernel_rfl)
@[go_sem] theorem pf31:plainFn Tryz.prog 31=true:=nrfl (by kernel_rfl)
@[go_sem] theorem pf32:plainFn Tryz.prog 32=true:=nrfl (by kernel_rfl)
@[go_sem] theorem pf33:plainFn Tryz.prog 33=true:=nrfl (by kernel_rfl)
@[go_sem] theorem pf34:plainFn Tryz.prog 34=true:=nrfl (by kernel_rfl)
@[go_sem] theorem pf35:plainFn Tryz.prog 35=true:=nrfl (by kernel_rfl)
@[go_sem] theorem pf36:plainFn Tryz.prog 36=true:=nrfl (by kernel_rfl)
@[go_sem] theorem pf37:plainFn Tryz.prog 37=true:=nrfl (by kernel_rfl)
@[go_sem] theorem pf38:plainFn Tryz.prog 38=true:=nrfl (by kernel_rfl)
@[go_sem] theorem pf39:plainFn Tryz.prog 39=true:=nrfl (by kernel_rfl)
@[go_sem] theorem pf40:plainFn Tryz.prog 40=true:=nrfl (by kernel_rfl)
@[go_sem] theorem pf41:plainFn Tryz.prog 41=true:=nrfl (by kernel_rfl)
@[go_sem] theorem pf43:plainFn Tryz.prog 43=true:=nrfl (by kernel_rfl)
@[go_sem] theorem pf44:plainFn Tryz.prog 44=true:=nrfl (by kernel_rfl)
@[go_sem] theorem pf45:plainFn Tryz.prog 45=true:=nrfl (by kernel_rfl)
@[go_sem] theorem pf46:plainFn Tryz.prog 46=true:=nrfl (by kernel_rfl)
@[go_sem] theorem pf47:plainFn Tryz.prog 47=true:=nrfl (by kernel_rfl)
@[go_sem] theorem pf48:plainFn Tryz.prog 48=true:=nrfl (by kernel_rfl)
@[go_sem] theorem pf49:plainFn Tryz.prog 49=true:=nrfl (by kernel_rfl)
@[go_sem] theorem pf50:plainFn Tryz.prog 50=true:=nrfl (by kernel_rfl)
@[go_sem] theorem pf51:plainFn Tryz.prog 51=true:=nrfl (by kernel_rfl)
@[go_sem] theorem pf52:plainFn Tryz.prog 52=true:=nrfl (by kernel_rfl)
@[go_sem] theorem pf55:plainFn Tryz.prog 55=true:=nrfl (by kernel_rfl)
@[go_sem] theorem pf57:plainFn Tryz.prog 57=true:=nrfl (by kernel_rfl)
@[go_sem] theorem pf58:plainFn Tryz.prog 58=true:=nrfl (by kernel_rfl)
@[go_sem] theorem pf59:plainFn Tryz.prog 59=true:=nrfl (by kernel_rfl)
@[go_sem] theorem pf60:plainFn Tryz.prog 60=true:=nrfl (by kernel_rfl)
@[go_sem] theorem pf61:plainFn Tryz.prog 61=true:=nrfl (by kernel_rfl)
@[go_sem] theorem pf62:plainFn Tryz.prog 62=true:=nrfl (by kernel_rfl)
@[go_sem] theorem pf63:plainFn Tryz.prog 63=true:=nrfl (by kernel_rfl)
@[go_sem] theorem pf64:plainFn Tryz.prog 64=true:=nrfl (by kernel_rfl)
@[go_sem] theorem pf65:plainFn Tryz.prog 65=true:=nrfl (by kernel_rfl)
@[go_sem] theorem pf66:plainFn Tryz.prog 66=true:=nrfl (by kernel_rfl)
@[go_sem] theorem pf67:plainFn Tryz.prog 67=true:=nrfl (by kernel_rfl)
@[go_sem] theorem pf77:plainFn Tryz.prog 77=true:=nrfl (by kernel_rfl)
@[go_sem] theorem pf78:plainFn Tryz.prog 78=true:=nrfl (by kernel_rfl)
@[go_sem] theorem pf79:plainFn Tryz.prog 79=true:=nrfl (by kernel_rfl)
@[go_sem] theorem pf80:plainFn Tryz.prog 80=true:=nrfl (by kernel_rfl)
@[go_sem] theorem pf81:plainFn Tryz.prog 81=true:=nrfl (by kernel_rfl)
@[go_sem] theorem pf88:plainFn Tryz.prog 88=true:=nrfl (by kernel_rfl)
@[go_sem] theorem pf89:plainFn Tryz.prog 89=true:=nrfl (by kernel_rfl)
@[go_sem] theorem pf90:plainFn Tryz.prog 90=true:=nrfl (by kernel_rfl)
@[go_sem] theorem pf92:plainFn Tryz.prog 92=true:=nrfl (by kernel_rfl)
@[go_sem] theorem pf93:plainFn Tryz.prog 93=true:=nrfl (by kernel_rfl)
@[go_sem] theorem pf94:plainFn Tryz.prog 94=true:=nrfl (by kernel_rfl)
@[go_sem] theorem pf95:plainFn Tryz.prog 95=true:=nrfl (by kernel_rfl)
@[go_sem] theorem pf96:plainFn Tryz.prog 96=true:=nrfl (by kernel_rfl)
@[go_sem] theorem pf97:plainFn Tryz.prog 97=true:=nrfl (by kernel_rfl)
@[go_sem] theorem pf98:plainFn Tryz.prog 98=true:=nrfl (by kernel_rfl)
@[go_sem] theorem pf99:plainFn Tryz.prog 99=true:=nrfl (by kernel_rfl)
@[go_sem] theorem pf101:plainFn Tryz.prog 101=true:=nrfl (by kernel_rfl)
theorem fn19:FnIs Tryz.prog 19 1 [Go.ResultVar.tmp 2] (.seq (.region [⟨some 1,Go.Op.box 25 (Go.Operand.tmp 0),0,none⟩,
   ⟨some 2,Go.Op.assign (Go.Operand.const (Go.Value.bool false)),4,none⟩])
  (.seq (.region [⟨some 3,Go.Op.load 25 (Go.Operand.tmp 1),25,none⟩,
   ⟨some 4,Go.Op.call { callee:=Go.Callee.value (Go.Operand.func 29),args:=#[Go.Operand.tmp 3,Go.Operand.const (Go.Value.int Go.IntKind.i64 300)],argTypes:=#[25,3] },3,none⟩,
   ⟨some 5,Go.Op.binOp Go.BinOp.gtr 3 (Go.Operand.tmp 4) (Go.Operand.const (Go.Value.int Go.IntKind.i64 200)) 3,4,none⟩,
   ⟨some 6,Go.Op.move (Go.Operand.tmp 5),4,none⟩,
   ⟨some 7,Go.Op.load 25 (Go.Operand.tmp 1),25,(some (6,false))⟩,
   ⟨some 8,Go.Op.call { callee:=Go.Callee.value (Go.Operand.func 40),args:=#[Go.Operand.tmp 7],argTypes:=#[25] },4,(some (6,false))⟩,
   ⟨some 9,Go.Op.pick (Go.Operand.tmp 6) (Go.Operand.const (Go.Value.bool true)) (Go.Operand.tmp 8),4,none⟩,
   ⟨some 2,Go.Op.assign (Go.Operand.tmp 9),4,none⟩])
  .ret)) :=
 ⟨foll,Tryz.f19,Tryz.func19,by kernel_rfl,by kernel_rfl,by kernel_rfl,by rw [Tryz.ntmps19];decide⟩
theorem fn23:FnIs Tryz.prog 23 1 [Go.ResultVar.tmp 2] (.seq (.region [⟨some 1,Go.Op.box 25 (Go.Operand.tmp 0),0,none⟩,
   ⟨some 2,Go.Op.assign (Go.Operand.const (Go.Value.int Go.IntKind.i64 0)),32,none⟩])
  (.seq (.seq (.region [⟨some 3,Go.Op.load 25 (Go.Operand.tmp 1),25,none⟩,
   ⟨some 4,Go.Op.call { callee:=Go.Callee.value (Go.Operand.func 45),args:=#[Go.Operand.tmp 3,Go.Operand.const (Go.Value.int Go.IntKind.i64 120)],argTypes:=#[25,3] },3,none⟩,
   ⟨some 5,Go.Op.binOp Go.BinOp.gtr 3 (Go.Operand.tmp 4) (Go.Operand.const (Go.Value.int Go.IntKind.i64 120)) 3,4,none⟩])
  (.cond (Go.Operand.tmp 5)
   (.seq (.region [⟨some 2,Go.Op.assign (Go.Operand.const (Go.Value.int Go.IntKind.i64 5)),32,none⟩])
   .ret)
   .skip))
  (.seq (.region [⟨some 6,Go.Op.load 25 (Go.Operand.tmp 1),25,none⟩,
   ⟨some 7,Go.Op.call { callee:=Go.Callee.value (Go.Operand.func 46),args:=#[Go.Operand.tmp 6],argTypes:=#[25] },32,none⟩,
   ⟨some 2,Go.Op.assign (Go.Operand.tmp 7),32,none⟩])
  .ret))) :=
 ⟨foll,Tryz.f23,Tryz.func23,by kernel_rfl,by kernel_rfl,by kernel_rfl,by rw [Tryz.ntmps23];decide⟩
theorem fn29:FnIs Tryz.prog 29 2 [Go.ResultVar.tmp 4] (.seq (.region [⟨some 2,Go.Op.box 25 (Go.Operand.tmp 0),0,none⟩,
   ⟨some 4,Go.Op.assign (Go.Operand.const (Go.Value.int Go.IntKind.i64 0)),3,none⟩])
  (.seq (.region [⟨some 5,Go.Op.assign (Go.Operand.const (Go.Value.int Go.IntKind.i64 1)),3,none⟩])
  (.seq (.seq (.region [⟨some 6,Go.Op.assign (Go.Operand.const (Go.Value.int Go.IntKind.i64 0)),3,none⟩])
  (.block 0
   (.loop
    (.seq (.seq (.region [⟨some 7,Go.Op.move (Go.Operand.tmp 6),3,none⟩,
     ⟨some 8,Go.Op.fieldAddr 25 (Go.Operand.tmp 2) 2,0,none⟩,
     ⟨some 9,Go.Op.load 23 (Go.Operand.tmp 8),23,none⟩,
     ⟨some 10,Go.Op.call { callee:=Go.Callee.builtin Go.Builtin.len,args:=#[Go.Operand.tmp 9],argTypes:=#[23] },3,none⟩,
     ⟨some 11,Go.Op.binOp Go.BinOp.lss 3 (Go.Operand.tmp 7) (Go.Operand.tmp 10) 3,4,none⟩,
     ⟨some 12,Go.Op.move (Go.Operand.tmp 11),4,none⟩,
     ⟨some 13,Go.Op.move (Go.Operand.tmp 5),3,(some (12,true))⟩,
     ⟨some 14,Go.Op.move (Go.Operand.tmp 1),3,(some (12,true))⟩,
     ⟨some 15,Go.Op.binOp Go.BinOp.lss 3 (Go.Operand.tmp 13) (Go.Operand.tmp 14) 3,4,(some (12,true))⟩,
     ⟨some 16,Go.Op.pick (Go.Operand.tmp 12) (Go.Operand.tmp 15) (Go.Operand.const (Go.Value.bool false)),4,none⟩])
    (.cond (Go.Operand.tmp 16)
     .skip
     (.exit 0)))
    (.seq (.block 1
     (.region [⟨some 19,Go.Op.move (Go.Operand.tmp 5),3,none⟩,
      ⟨some 20,Go.Op.fieldAddr 25 (Go.Operand.tmp 2) 2,0,none⟩,
      ⟨some 21,Go.Op.load 23 (Go.Operand.tmp 20),23,none⟩,
      ⟨some 22,Go.Op.move (Go.Operand.tmp 6),3,none⟩,
      ⟨some 23,Go.Op.indexAddr 23 (Go.Operand.tmp 21) (Go.Operand.tmp 22),0,none⟩,
      ⟨some 24,Go.Op.load 25 (Go.Operand.tmp 23),25,none⟩,
      ⟨some 25,Go.Op.move (Go.Operand.tmp 1),3,none⟩,
      ⟨some 26,Go.Op.move (Go.Operand.tmp 5),3,none⟩,
      ⟨some 27,Go.Op.binOp Go.BinOp.sub 3 (Go.Operand.tmp 25) (Go.Operand.tmp 26) 3,3,none⟩,
      ⟨some 28,Go.Op.call { callee:=Go.Callee.value (Go.Operand.func 29),args:=#[Go.Operand.tmp 24,Go.Operand.tmp 27],argTypes:=#[25,3] },3,none⟩,
      ⟨some 29,Go.Op.binOp Go.BinOp.add 3 (Go.Operand.tmp 19) (Go.Operand.tmp 28) 3,3,none⟩,
      ⟨some 5,Go.Op.assign (Go.Operand.tmp 29),3,none⟩]))
    (.region [⟨some 17,Go.Op.move (Go.Operand.tmp 6),3,none⟩,
     ⟨some 18,Go.Op.binOp Go.BinOp.add 3 (Go.Operand.tmp 17) (Go.Operand.const (Go.Value.int Go.IntKind.i64 1)) 3,3,none⟩,
     ⟨some 6,Go.Op.assign (Go.Operand.tmp 18),3,none⟩]))))))
  (.seq (.region [⟨some 30,Go.Op.move (Go.Operand.tmp 5),3,none⟩,
   ⟨some 4,Go.Op.assign (Go.Operand.tmp 30),3,none⟩])
  .ret)))) :=
 ⟨foll,Tryz.f29,Tryz.func29,by kernel_rfl,by kernel_rfl,by kernel_rfl,by rw [Tryz.ntmps29];decide⟩
theorem fn40:FnIs Tryz.prog 40 1 [Go.ResultVar.tmp 2] (.seq (.region [⟨some 1,Go.Op.box 25 (Go.Operand.tmp 0),0,none⟩,
   ⟨some 2,Go.Op.assign (Go.Operand.const (Go.Value.bool false)),4,none⟩])
  (.seq (.seq (.region [⟨some 4,Go.Op.fieldAddr 25 (Go.Operand.tmp 1) 1,0,none⟩,
   ⟨some 5,Go.Op.load 22 (Go.Operand.tmp 4),22,none⟩,
   ⟨some 6,Go.Op.call { callee:=Go.Callee.builtin Go.Builtin.len,args:=#[Go.Operand.tmp 5],argTypes:=#[22] },3,none⟩,
   ⟨some 7,Go.Op.binOp Go.BinOp.gtr 3 (Go.Operand.tmp 6) (Go.Operand.const (Go.Value.int Go.IntKind.i64 60)) 3,4,none⟩])
  (.cond (Go.Operand.tmp 7)
   (.seq (.region [⟨some 2,Go.Op.assign (Go.Operand.const (Go.Value.bool true)),4,none⟩])
   .ret)
   .skip))
  (.seq (.seq (.region [⟨some 3,Go.Op.assign (Go.Operand.const (Go.Value.int Go.IntKind.i64 0)),3,none⟩])
  (.block 0
   (.loop
    (.seq (.seq (.region [⟨some 8,Go.Op.move (Go.Operand.tmp 3),3,none⟩,
     ⟨some 9,Go.Op.fieldAddr 25 (Go.Operand.tmp 1) 2,0,none⟩,
     ⟨some 10,Go.Op.load 23 (Go.Operand.tmp 9),23,none⟩,
     ⟨some 11,Go.Op.call { callee:=Go.Callee.builtin Go.Builtin.len,args:=#[Go.Operand.tmp 10],argTypes:=#[23] },3,none⟩,
     ⟨some 12,Go.Op.binOp Go.BinOp.lss 3 (Go.Operand.tmp 8) (Go.Operand.tmp 11) 3,4,none⟩])
    (.cond (Go.Operand.tmp 12)
     .skip
     (.exit 0)))
    (.seq (.block 1
     (.seq (.region [⟨some 15,Go.Op.fieldAddr 25 (Go.Operand.tmp 1) 2,0,none⟩,
      ⟨some 16,Go.Op.load 23 (Go.Operand.tmp 15),23,none⟩,
      ⟨some 17,Go.Op.move (Go.Operand.tmp 3),3,none⟩,
      ⟨some 18,Go.Op.indexAddr 23 (Go.Operand.tmp 16) (Go.Operand.tmp 17),0,none⟩,
      ⟨some 19,Go.Op.load 25 (Go.Operand.tmp 18),25,none⟩,
      ⟨some 20,Go.Op.call { callee:=Go.Callee.value (Go.Operand.func 40),args:=#[Go.Operand.tmp 19],argTypes:=#[25] },4,none⟩])
     (.cond (Go.Operand.tmp 20)
      (.seq (.region [⟨some 2,Go.Op.assign (Go.Operand.const (Go.Value.bool true)),4,none⟩])
      .ret)
      .skip)))
    (.region [⟨some 13,Go.Op.move (Go.Operand.tmp 3),3,none⟩,
     ⟨some 14,Go.Op.binOp Go.BinOp.add 3 (Go.Operand.tmp 13) (Go.Operand.const (Go.Value.int Go.IntKind.i64 1)) 3,3,none⟩,
     ⟨some 3,Go.Op.assign (Go.Operand.tmp 14),3,none⟩]))))))
  (.seq (.region [⟨some 2,Go.Op.assign (Go.Operand.const (Go.Value.bool false)),4,none⟩])
  .ret)))) :=
 ⟨foll,Tryz.f40,Tryz.func40,by kernel_rfl,by kernel_rfl,by kernel_rfl,by rw [Tryz.ntmps40];decide⟩
theorem fn45:FnIs Tryz.prog 45 2 [Go.ResultVar.tmp 4] (.seq (.region [⟨some 2,Go.Op.box 25 (Go.Operand.tmp 0),0,none⟩,
   ⟨some 4,Go.Op.assign (Go.Operand.const (Go.Value.int Go.IntKind.i64 0)),3,none⟩])
  (.seq (.region [⟨some 5,Go.Op.assign (Go.Operand.const (Go.Value.int Go.IntKind.i64 1)),3,none⟩])
  (.seq (.seq (.region [⟨some 8,Go.Op.fieldAddr 25 (Go.Operand.tmp 2) 2,0,none⟩,
   ⟨some 9,Go.Op.load 23 (Go.Operand.tmp 8),23,none⟩,
   ⟨some 10,Go.Op.call { callee:=Go.Callee.builtin Go.Builtin.len,args:=#[Go.Operand.tmp 9],argTypes:=#[23] },3,none⟩,
   ⟨some 11,Go.Op.move (Go.Operand.const (Go.Value.int Go.IntKind.i64 0)),3,none⟩])
  (.block 0
   (.loop
    (.seq (.region [⟨some 12,Go.Op.binOp Go.BinOp.lss 3 (Go.Operand.tmp 11) (Go.Operand.tmp 10) 3,0,none⟩])
    (.seq (.cond (Go.Operand.tmp 12)
     .skip
     (.exit 0))
    (.seq (.block 1
     (.seq (.region [⟨some 13,Go.Op.indexAddr 23 (Go.Operand.tmp 9) (Go.Operand.tmp 11),0,none⟩,
      ⟨some 14,Go.Op.load 25 (Go.Operand.tmp 13),25,none⟩,
      ⟨some 7,Go.Op.alloc 25,0,none⟩,
      ⟨none,Go.Op.store 25 (Go.Operand.tmp 7) (Go.Operand.tmp 14),0,none⟩])
     (.seq (.seq (.region [⟨some 15,Go.Op.move (Go.Operand.tmp 5),3,none⟩,
      ⟨some 16,Go.Op.move (Go.Operand.tmp 1),3,none⟩,
      ⟨some 17,Go.Op.binOp Go.BinOp.gtr 3 (Go.Operand.tmp 15) (Go.Operand.tmp 16) 3,4,none⟩])
     (.cond (Go.Operand.tmp 17)
      (.exit 0)
      .skip))
     (.region [⟨some 18,Go.Op.move (Go.Operand.tmp 5),3,none⟩,
      ⟨some 19,Go.Op.load 25 (Go.Operand.tmp 7),25,none⟩,
      ⟨some 20,Go.Op.move (Go.Operand.tmp 1),3,none⟩,
      ⟨some 21,Go.Op.move (Go.Operand.tmp 5),3,none⟩,
      ⟨some 22,Go.Op.binOp Go.BinOp.sub 3 (Go.Operand.tmp 20) (Go.Operand.tmp 21) 3,3,none⟩,
      ⟨some 23,Go.Op.call { callee:=Go.Callee.value (Go.Operand.func 45),args:=#[Go.Operand.tmp 19,Go.Operand.tmp 22],argTypes:=#[25,3] },3,none⟩,
      ⟨some 24,Go.Op.binOp Go.BinOp.add 3 (Go.Operand.tmp 18) (Go.Operand.tmp 23) 3,3,none⟩,
      ⟨some 5,Go.Op.assign (Go.Operand.tmp 24),3,none⟩]))))
    (.region [⟨some 25,Go.Op.binOp Go.BinOp.add 3 (Go.Operand.tmp 11) (Go.Operand.const (Go.Value.int Go.IntKind.i64 1)) 3,3,none⟩,
     ⟨some 11,Go.Op.move (Go.Operand.tmp 25),3,none⟩])))))))
  (.seq (.region [⟨some 26,Go.Op.move (Go.Operand.tmp 5),3,none⟩,
   ⟨some 4,Go.Op.assign (Go.Operand.tmp 26),3,none⟩])
  .ret)))) :=
 ⟨foll,Tryz.f45,Tryz.func45,by kernel_rfl,by kernel_rfl,by kernel_rfl,by rw [Tryz.ntmps45];decide⟩
theorem fn46:FnIs Tryz.prog 46 1 [Go.ResultVar.tmp 2] (.seq (.region [⟨some 1,Go.Op.box 25 (Go.Operand.tmp 0),0,none⟩,
   ⟨some 2,Go.Op.assign (Go.Operand.const (Go.Value.int Go.IntKind.i64 0)),32,none⟩])
  (.seq (.region [⟨some 3,Go.Op.assign (Go.Operand.const (Go.Value.bool false)),4,none⟩])
  (.seq (.seq (.region [⟨some 7,Go.Op.fieldAddr 25 (Go.Operand.tmp 1) 0,0,none⟩,
   ⟨some 8,Go.Op.load 3 (Go.Operand.tmp 7),3,none⟩])
  (.block 0
   (.seq (.region [⟨some 10,Go.Op.binOp Go.BinOp.eql 3 (Go.Operand.tmp 8) (Go.Operand.const (Go.Value.int Go.IntKind.i64 1)) 3,4,none⟩,
    ⟨some 9,Go.Op.assign (Go.Operand.tmp 10),4,none⟩])
   (.cond (Go.Operand.tmp 9)
    (.region [⟨some 11,Go.Op.fieldAddr 25 (Go.Operand.tmp 1) 2,0,none⟩,
     ⟨some 12,Go.Op.load 23 (Go.Operand.tmp 11),23,none⟩,
     ⟨some 13,Go.Op.call { callee:=Go.Callee.builtin Go.Builtin.len,args:=#[Go.Operand.tmp 12],argTypes:=#[23] },3,none⟩,
     ⟨some 14,Go.Op.binOp Go.BinOp.eql 3 (Go.Operand.tmp 13) (Go.Operand.const (Go.Value.int Go.IntKind.i64 0)) 3,4,none⟩,
     ⟨some 3,Go.Op.assign (Go.Operand.tmp 14),4,none⟩])
    (.seq (.region [⟨some 16,Go.Op.binOp Go.BinOp.eql 3 (Go.Operand.tmp 8) (Go.Operand.const (Go.Value.int Go.IntKind.i64 2)) 3,4,none⟩,
     ⟨some 15,Go.Op.assign (Go.Operand.tmp 16),4,none⟩])
    (.cond (Go.Operand.tmp 15)
     (.region [⟨some 17,Go.Op.fieldAddr 25 (Go.Operand.tmp 1) 2,0,none⟩,
      ⟨some 18,Go.Op.load 23 (Go.Operand.tmp 17),23,none⟩,
      ⟨some 19,Go.Op.call { callee:=Go.Callee.builtin Go.Builtin.len,args:=#[Go.Operand.tmp 18],argTypes:=#[23] },3,none⟩,
      ⟨some 20,Go.Op.binOp Go.BinOp.eql 3 (Go.Operand.tmp 19) (Go.Operand.const (Go.Value.int Go.IntKind.i64 0)) 3,4,none⟩,
      ⟨some 21,Go.Op.move (Go.Operand.tmp 20),4,none⟩,
      ⟨some 22,Go.Op.fieldAddr 25 (Go.Operand.tmp 1) 1,0,(some (21,true))⟩,
      ⟨some 23,Go.Op.load 22 (Go.Operand.tmp 22),22,(some (21,true))⟩,
      ⟨some 24,Go.Op.call { callee:=Go.Callee.value (Go.Operand.func 66),args:=#[Go.Operand.tmp 23],argTypes:=#[22] },4,(some (21,true))⟩,
      ⟨some 25,Go.Op.pick (Go.Operand.tmp 21) (Go.Operand.tmp 24) (Go.Operand.const (Go.Value.bool false)),4,none⟩,
      ⟨some 3,Go.Op.assign (Go.Operand.tmp 25),4,none⟩])
     (.seq (.seq (.region [⟨some 27,Go.Op.binOp Go.BinOp.eql 3 (Go.Operand.tmp 8) (Go.Operand.const (Go.Value.int Go.IntKind.i64 3)) 3,4,none⟩,
      ⟨some 26,Go.Op.assign (Go.Operand.tmp 27),4,none⟩])
     (.cond (Go.Operand.tmp 26)
      .skip
      (.region [⟨some 28,Go.Op.binOp Go.BinOp.eql 3 (Go.Operand.tmp 8) (Go.Operand.const (Go.Value.int Go.IntKind.i64 4)) 3,4,none⟩,
       ⟨some 26,Go.Op.assign (Go.Operand.tmp 28),4,none⟩])))
     (.cond (Go.Operand.tmp 26)
      (.region [⟨some 29,Go.Op.fieldAddr 25 (Go.Operand.tmp 1) 2,0,none⟩,
       ⟨some 30,Go.Op.load 23 (Go.Operand.tmp 29),23,none⟩,
       ⟨some 31,Go.Op.call { callee:=Go.Callee.builtin Go.Builtin.len,args:=#[Go.Operand.tmp 30],argTypes:=#[23] },3,none⟩,
       ⟨some 32,Go.Op.binOp Go.BinOp.geq 3 (Go.Operand.tmp 31) (Go.Operand.const (Go.Value.int Go.IntKind.i64 2)) 3,4,none⟩,
       ⟨some 3,Go.Op.assign (Go.Operand.tmp 32),4,none⟩])
      (.seq (.region [⟨some 34,Go.Op.binOp Go.BinOp.eql 3 (Go.Operand.tmp 8) (Go.Operand.const (Go.Value.int Go.IntKind.i64 5)) 3,4,none⟩,
       ⟨some 33,Go.Op.assign (Go.Operand.tmp 34),4,none⟩])
      (.cond (Go.Operand.tmp 33)
       (.region [⟨some 35,Go.Op.fieldAddr 25 (Go.Operand.tmp 1) 2,0,none⟩,
        ⟨some 36,Go.Op.load 23 (Go.Operand.tmp 35),23,none⟩,
        ⟨some 37,Go.Op.call { callee:=Go.Callee.builtin Go.Builtin.len,args:=#[Go.Operand.tmp 36],argTypes:=#[23] },3,none⟩,
        ⟨some 38,Go.Op.binOp Go.BinOp.eql 3 (Go.Operand.tmp 37) (Go.Operand.const (Go.Value.int Go.IntKind.i64 1)) 3,4,none⟩,
        ⟨some 39,Go.Op.move (Go.Operand.tmp 38),4,none⟩,
        ⟨some 40,Go.Op.fieldAddr 25 (Go.Operand.tmp 1) 3,0,(some (39,true))⟩,
        ⟨some 41,Go.Op.load 3 (Go.Operand.tmp 40),3,(some (39,true))⟩,
        ⟨some 42,Go.Op.binOp Go.BinOp.geq 3 (Go.Operand.tmp 41) (Go.Operand.const (Go.Value.int Go.IntKind.i64 0)) 3,4,(some (39,true))⟩,
        ⟨some 43,Go.Op.pick (Go.Operand.tmp 39) (Go.Operand.tmp 42) (Go.Operand.const (Go.Value.bool false)),4,none⟩,
        ⟨some 44,Go.Op.move (Go.Operand.tmp 43),4,none⟩,
        ⟨some 45,Go.Op.fieldAddr 25 (Go.Operand.tmp 1) 3,0,(some (44,true))⟩,
        ⟨some 46,Go.Op.load 3 (Go.Operand.tmp 45),3,(some (44,true))⟩,
        ⟨some 47,Go.Op.binOp Go.BinOp.leq 3 (Go.Operand.tmp 46) (Go.Operand.const (Go.Value.int Go.IntKind.i64 20)) 3,4,(some (44,true))⟩,
        ⟨some 48,Go.Op.pick (Go.Operand.tmp 44) (Go.Operand.tmp 47) (Go.Operand.const (Go.Value.bool false)),4,none⟩,
        ⟨some 49,Go.Op.move (Go.Operand.tmp 48),4,none⟩,
        ⟨some 50,Go.Op.fieldAddr 25 (Go.Operand.tmp 1) 4,0,(some (49,true))⟩,
        ⟨some 51,Go.Op.load 3 (Go.Operand.tmp 50),3,(some (49,true))⟩,
        ⟨some 52,Go.Op.binOp Go.BinOp.eql 3 (Go.Operand.tmp 51) (Go.Operand.const (Go.Value.int Go.IntKind.i64 (-1))) 3,4,(some (49,true))⟩,
        ⟨some 53,Go.Op.move (Go.Operand.tmp 52),4,(some (49,true))⟩,
        ⟨some 54,Go.Op.fieldAddr 25 (Go.Operand.tmp 1) 4,0,(some (53,false))⟩,
        ⟨some 55,Go.Op.load 3 (Go.Operand.tmp 54),3,(some (53,false))⟩,
        ⟨some 56,Go.Op.fieldAddr 25 (Go.Operand.tmp 1) 3,0,(some (53,false))⟩,
        ⟨some 57,Go.Op.load 3 (Go.Operand.tmp 56),3,(some (53,false))⟩,
        ⟨some 58,Go.Op.binOp Go.BinOp.geq 3 (Go.Operand.tmp 55) (Go.Operand.tmp 57) 3,4,(some (53,false))⟩,
        ⟨some 59,Go.Op.move (Go.Operand.tmp 58),4,(some (53,false))⟩,
        ⟨some 60,Go.Op.fieldAddr 25 (Go.Operand.tmp 1) 4,0,(some (59,true))⟩,
        ⟨some 61,Go.Op.load 3 (Go.Operand.tmp 60),3,(some (59,true))⟩,
        ⟨some 62,Go.Op.binOp Go.BinOp.leq 3 (Go.Operand.tmp 61) (Go.Operand.const (Go.Value.int Go.IntKind.i64 20)) 3,4,(some (59,true))⟩,
        ⟨some 63,Go.Op.pick (Go.Operand.tmp 59) (Go.Operand.tmp 62) (Go.Operand.const (Go.Value.bool false)),4,(some (53,false))⟩,
        ⟨some 64,Go.Op.pick (Go.Operand.tmp 53) (Go.Operand.const (Go.Value.bool true)) (Go.Operand.tmp 63),4,(some (49,true))⟩,
        ⟨some 65,Go.Op.pick (Go.Operand.tmp 49) (Go.Operand.tmp 64) (Go.Operand.const (Go.Value.bool false)),4,none⟩,
        ⟨some 3,Go.Op.assign (Go.Operand.tmp 65),4,none⟩])
       (.seq (.region [⟨some 2,Go.Op.assign (Go.Operand.const (Go.Value.int Go.IntKind.i64 9)),32,none⟩])
       .ret)))))))))))
  (.seq (.seq (.region [⟨some 66,Go.Op.move (Go.Operand.tmp 3),4,none⟩,
   ⟨some 67,Go.Op.unOp Go.UnOp.not 4 (Go.Operand.tmp 66),4,none⟩,
   ⟨some 68,Go.Op.move (Go.Operand.tmp 67),4,none⟩,
   ⟨some 69,Go.Op.fieldAddr 25 (Go.Operand.tmp 1) 0,0,(some (68,false))⟩,
   ⟨some 70,Go.Op.load 3 (Go.Operand.tmp 69),3,(some (68,false))⟩,
   ⟨some 71,Go.Op.binOp Go.BinOp.neq 3 (Go.Operand.tmp 70) (Go.Operand.const (Go.Value.int Go.IntKind.i64 2)) 3,4,(some (68,false))⟩,
   ⟨some 72,Go.Op.move (Go.Operand.tmp 71),4,(some (68,false))⟩,
   ⟨some 73,Go.Op.fieldAddr 25 (Go.Operand.tmp 1) 1,0,(some (72,true))⟩,
   ⟨some 74,Go.Op.load 22 (Go.Operand.tmp 73),22,(some (72,true))⟩,
   ⟨some 75,Go.Op.call { callee:=Go.Callee.builtin Go.Builtin.len,args:=#[Go.Operand.tmp 74],argTypes:=#[22] },3,(some (72,true))⟩,
   ⟨some 76,Go.Op.binOp Go.BinOp.gtr 3 (Go.Operand.tmp 75) (Go.Operand.const (Go.Value.int Go.IntKind.i64 0)) 3,4,(some (72,true))⟩,
   ⟨some 77,Go.Op.pick (Go.Operand.tmp 72) (Go.Operand.tmp 76) (Go.Operand.const (Go.Value.bool false)),4,(some (68,false))⟩,
   ⟨some 78,Go.Op.pick (Go.Operand.tmp 68) (Go.Operand.const (Go.Value.bool true)) (Go.Operand.tmp 77),4,none⟩,
   ⟨some 79,Go.Op.move (Go.Operand.tmp 78),4,none⟩,
   ⟨some 80,Go.Op.fieldAddr 25 (Go.Operand.tmp 1) 0,0,(some (79,false))⟩,
   ⟨some 81,Go.Op.load 3 (Go.Operand.tmp 80),3,(some (79,false))⟩,
   ⟨some 82,Go.Op.binOp Go.BinOp.neq 3 (Go.Operand.tmp 81) (Go.Operand.const (Go.Value.int Go.IntKind.i64 5)) 3,4,(some (79,false))⟩,
   ⟨some 83,Go.Op.move (Go.Operand.tmp 82),4,(some (79,false))⟩,
   ⟨some 84,Go.Op.fieldAddr 25 (Go.Operand.tmp 1) 3,0,(some (83,true))⟩,
   ⟨some 85,Go.Op.load 3 (Go.Operand.tmp 84),3,(some (83,true))⟩,
   ⟨some 86,Go.Op.binOp Go.BinOp.neq 3 (Go.Operand.tmp 85) (Go.Operand.const (Go.Value.int Go.IntKind.i64 0)) 3,4,(some (83,true))⟩,
   ⟨some 87,Go.Op.move (Go.Operand.tmp 86),4,(some (83,true))⟩,
   ⟨some 88,Go.Op.fieldAddr 25 (Go.Operand.tmp 1) 4,0,(some (87,false))⟩,
   ⟨some 89,Go.Op.load 3 (Go.Operand.tmp 88),3,(some (87,false))⟩,
   ⟨some 90,Go.Op.binOp Go.BinOp.neq 3 (Go.Operand.tmp 89) (Go.Operand.const (Go.Value.int Go.IntKind.i64 0)) 3,4,(some (87,false))⟩,
   ⟨some 91,Go.Op.pick (Go.Operand.tmp 87) (Go.Operand.const (Go.Value.bool true)) (Go.Operand.tmp 90),4,(some (83,true))⟩,
   ⟨some 92,Go.Op.pick (Go.Operand.tmp 83) (Go.Operand.tmp 91) (Go.Operand.const (Go.Value.bool false)),4,(some (79,false))⟩,
   ⟨some 93,Go.Op.pick (Go.Operand.tmp 79) (Go.Operand.const (Go.Value.bool true)) (Go.Operand.tmp 92),4,none⟩])
  (.cond (Go.Operand.tmp 93)
   (.seq (.region [⟨some 2,Go.Op.assign (Go.Operand.const (Go.Value.int Go.IntKind.i64 1)),32,none⟩])
   .ret)
   .skip))
  (.seq (.seq (.region [⟨some 94,Go.Op.fieldAddr 25 (Go.Operand.tmp 1) 2,0,none⟩,
   ⟨some 95,Go.Op.load 23 (Go.Operand.tmp 94),23,none⟩,
   ⟨some 96,Go.Op.call { callee:=Go.Callee.builtin Go.Builtin.len,args:=#[Go.Operand.tmp 95],argTypes:=#[23] },3,none⟩,
   ⟨some 97,Go.Op.move (Go.Operand.const (Go.Value.int Go.IntKind.i64 0)),3,none⟩])
  (.block 1
   (.loop
    (.seq (.region [⟨some 98,Go.Op.binOp Go.BinOp.lss 3 (Go.Operand.tmp 97) (Go.Operand.tmp 96) 3,0,none⟩])
    (.seq (.cond (Go.Operand.tmp 98)
     .skip
     (.exit 1))
    (.seq (.block 2
     (.seq (.region [⟨some 99,Go.Op.indexAddr 23 (Go.Operand.tmp 95) (Go.Operand.tmp 97),0,none⟩,
      ⟨some 100,Go.Op.load 25 (Go.Operand.tmp 99),25,none⟩,
      ⟨some 5,Go.Op.alloc 25,0,none⟩,
      ⟨none,Go.Op.store 25 (Go.Operand.tmp 5) (Go.Operand.tmp 100),0,none⟩])
     (.seq (.region [⟨some 101,Go.Op.load 25 (Go.Operand.tmp 5),25,none⟩,
      ⟨some 102,Go.Op.call { callee:=Go.Callee.value (Go.Operand.func 46),args:=#[Go.Operand.tmp 101],argTypes:=#[25] },32,none⟩,
      ⟨some 6,Go.Op.assign (Go.Operand.tmp 102),32,none⟩])
     (.seq (.region [⟨some 103,Go.Op.move (Go.Operand.tmp 6),32,none⟩,
      ⟨some 104,Go.Op.binOp Go.BinOp.neq 32 (Go.Operand.tmp 103) (Go.Operand.const (Go.Value.int Go.IntKind.i64 0)) 32,4,none⟩])
     (.cond (Go.Operand.tmp 104)
      (.seq (.region [⟨some 105,Go.Op.move (Go.Operand.tmp 6),32,none⟩,
       ⟨some 2,Go.Op.assign (Go.Operand.tmp 105),32,none⟩])
      .ret)
      .skip)))))
    (.region [⟨some 106,Go.Op.binOp Go.BinOp.add 3 (Go.Operand.tmp 97) (Go.Operand.const (Go.Value.int Go.IntKind.i64 1)) 3,3,none⟩,
     ⟨some 97,Go.Op.move (Go.Operand.tmp 106),3,none⟩])))))))
  (.seq (.region [⟨some 2,Go.Op.assign (Go.Operand.const (Go.Value.int Go.IntKind.i64 0)),32,none⟩])
  .ret)))))) :=
 ⟨foll,Tryz.f46,Tryz.func46,by kernel_rfl,by kernel_rfl,by kernel_rfl,by rw [Tryz.ntmps46];decide⟩
theorem fn66:FnIs Tryz.prog 66 1 [Go.ResultVar.tmp 2] (.seq (.region [⟨some 2,Go.Op.assign (Go.Operand.const (Go.Value.bool false)),4,none⟩])
  (.seq (.seq (.region [⟨some 5,Go.Op.move (Go.Operand.tmp 0),22,none⟩,
   ⟨some 6,Go.Op.call { callee:=Go.Callee.builtin Go.Builtin.len,args:=#[Go.Operand.tmp 5],argTypes:=#[22] },3,none⟩,
   ⟨some 7,Go.Op.move (Go.Operand.const (Go.Value.int Go.IntKind.i64 0)),3,none⟩])
  (.block 0
   (.loop
    (.seq (.region [⟨some 8,Go.Op.binOp Go.BinOp.lss 3 (Go.Operand.tmp 7) (Go.Operand.tmp 6) 3,0,none⟩])
    (.seq (.cond (Go.Operand.tmp 8)
     .skip
     (.exit 0))
    (.seq (.block 1
     (.seq (.region [⟨some 9,Go.Op.move (Go.Operand.tmp 7),3,none⟩,
      ⟨some 10,Go.Op.indexAddr 22 (Go.Operand.tmp 5) (Go.Operand.tmp 7),0,none⟩,
      ⟨some 11,Go.Op.load 57 (Go.Operand.tmp 10),57,none⟩,
      ⟨some 4,Go.Op.alloc 57,0,none⟩,
      ⟨some 3,Go.Op.assign (Go.Operand.tmp 9),3,none⟩,
      ⟨none,Go.Op.store 57 (Go.Operand.tmp 4) (Go.Operand.tmp 11),0,none⟩])
     (.seq (.seq (.region [⟨some 12,Go.Op.fieldAddr 57 (Go.Operand.tmp 4) 0,0,none⟩,
      ⟨some 13,Go.Op.load 21 (Go.Operand.tmp 12),21,none⟩,
      ⟨some 14,Go.Op.call { callee:=Go.Callee.value (Go.Operand.func 81),args:=#[Go.Operand.tmp 13],argTypes:=#[21] },4,none⟩,
      ⟨some 15,Go.Op.unOp Go.UnOp.not 4 (Go.Operand.tmp 14),4,none⟩,
      ⟨some 16,Go.Op.move (Go.Operand.tmp 15),4,none⟩,
      ⟨some 17,Go.Op.fieldAddr 57 (Go.Operand.tmp 4) 1,0,(some (16,false))⟩,
      ⟨some 18,Go.Op.load 21 (Go.Operand.tmp 17),21,(some (16,false))⟩,
      ⟨some 19,Go.Op.call { callee:=Go.Callee.value (Go.Operand.func 81),args:=#[Go.Operand.tmp 18],argTypes:=#[21] },4,(some (16,false))⟩,
      ⟨some 20,Go.Op.unOp Go.UnOp.not 4 (Go.Operand.tmp 19),4,(some (16,false))⟩,
      ⟨some 21,Go.Op.pick (Go.Operand.tmp 16) (Go.Operand.const (Go.Value.bool true)) (Go.Operand.tmp 20),4,none⟩,
      ⟨some 22,Go.Op.move (Go.Operand.tmp 21),4,none⟩,
      ⟨some 23,Go.Op.fieldAddr 57 (Go.Operand.tmp 4) 0,0,(some (22,false))⟩,
      ⟨some 24,Go.Op.load 21 (Go.Operand.tmp 23),21,(some (22,false))⟩,
      ⟨some 25,Go.Op.fieldAddr 57 (Go.Operand.tmp 4) 1,0,(some (22,false))⟩,
      ⟨some 26,Go.Op.load 21 (Go.Operand.tmp 25),21,(some (22,false))⟩,
      ⟨some 27,Go.Op.binOp Go.BinOp.gtr 21 (Go.Operand.tmp 24) (Go.Operand.tmp 26) 21,4,(some (22,false))⟩,
      ⟨some 28,Go.Op.pick (Go.Operand.tmp 22) (Go.Operand.const (Go.Value.bool true)) (Go.Operand.tmp 27),4,none⟩,
      ⟨some 29,Go.Op.move (Go.Operand.tmp 28),4,none⟩,
      ⟨some 30,Go.Op.fieldAddr 57 (Go.Operand.tmp 4) 0,0,(some (29,false))⟩,
      ⟨some 31,Go.Op.load 21 (Go.Operand.tmp 30),21,(some (29,false))⟩,
      ⟨some 32,Go.Op.binOp Go.BinOp.lss 21 (Go.Operand.tmp 31) (Go.Operand.const (Go.Value.int Go.IntKind.i32 55296)) 21,4,(some (29,false))⟩,
      ⟨some 33,Go.Op.fieldAddr 57 (Go.Operand.tmp 4) 1,0,(some (29,false))⟩,
      ⟨some 34,Go.Op.load 21 (Go.Operand.tmp 33),21,(some (29,false))⟩,
      ⟨some 35,Go.Op.binOp Go.BinOp.lss 21 (Go.Operand.tmp 34) (Go.Operand.const (Go.Value.int Go.IntKind.i32 55296)) 21,4,(some (29,false))⟩,
      ⟨some 36,Go.Op.binOp Go.BinOp.neq 4 (Go.Operand.tmp 32) (Go.Operand.tmp 35) 4,4,(some (29,false))⟩,
      ⟨some 37,Go.Op.pick (Go.Operand.tmp 29) (Go.Operand.const (Go.Value.bool true)) (Go.Operand.tmp 36),4,none⟩])
     (.cond (Go.Operand.tmp 37)
      (.seq (.region [⟨some 2,Go.Op.assign (Go.Operand.const (Go.Value.bool false)),4,none⟩])
      .ret)
      .skip))
     (.seq (.draw true [⟨⟨some 38,Go.Op.move (Go.Operand.tmp 3),3,none⟩,false,false,false⟩,
      ⟨⟨some 39,Go.Op.binOp Go.BinOp.gtr 3 (Go.Operand.tmp 38) (Go.Operand.const (Go.Value.int Go.IntKind.i64 0)) 3,4,none⟩,false,false,false⟩,
      ⟨⟨some 40,Go.Op.move (Go.Operand.tmp 39),4,none⟩,false,false,false⟩,
      ⟨⟨some 41,Go.Op.fieldAddr 57 (Go.Operand.tmp 4) 0,0,(some (40,true))⟩,false,false,false⟩,
      ⟨⟨some 42,Go.Op.load 21 (Go.Operand.tmp 41),21,(some (40,true))⟩,false,false,false⟩,
      ⟨⟨some 43,Go.Op.move (Go.Operand.tmp 0),22,(some (40,true))⟩,false,false,false⟩,
      ⟨⟨some 44,Go.Op.move (Go.Operand.tmp 3),3,(some (40,true))⟩,false,false,false⟩,
      ⟨⟨some 45,Go.Op.binOp Go.BinOp.sub 3 (Go.Operand.tmp 44) (Go.Operand.const (Go.Value.int Go.IntKind.i64 1)) 3,3,(some (40,true))⟩,false,false,false⟩,
      ⟨⟨some 46,Go.Op.indexAddr 22 (Go.Operand.tmp 43) (Go.Operand.tmp 45),0,(some (40,true))⟩,false,false,false⟩,
      ⟨⟨some 47,Go.Op.fieldAddr 57 (Go.Operand.tmp 46) 1,0,(some (40,true))⟩,false,false,false⟩,
      ⟨⟨some 48,Go.Op.load 21 (Go.Operand.tmp 47),21,(some (40,true))⟩,false,false,false⟩,
      ⟨⟨some 49,Go.Op.binOp Go.BinOp.sub 21 (Go.Operand.tmp 42) (Go.Operand.tmp 48) 21,21,(some (40,true))⟩,false,false,false⟩,
      ⟨⟨some 50,Go.Op.binOp Go.BinOp.lss 21 (Go.Operand.tmp 49) (Go.Operand.const (Go.Value.int Go.IntKind.i32 2)) 21,4,(some (40,true))⟩,false,false,false⟩,
      ⟨⟨some 51,Go.Op.pick (Go.Operand.tmp 40) (Go.Operand.tmp 50) (Go.Operand.const (Go.Value.bool false)),4,none⟩,false,false,false⟩] [[],[0],[0,1],[0,1,2],[0,1,2,3],[0,1,2],[0,1,2],[0,1,2,6],[0,1,2,5,6,7],[0,1,2,5,6,7,8],[0,1,2,5,6,7,8,9],[0,1,2,3,4,5,6,7,8,9,10],[0,1,2,3,4,5,6,7,8,9,10,11],[0,1,2,3,4,5,6,7,8,9,10,11,12]])
     (.cond (Go.Operand.tmp 51)
      (.seq (.region [⟨some 2,Go.Op.assign (Go.Operand.const (Go.Value.bool false)),4,none⟩])
      .ret)
      .skip)))))
    (.region [⟨some 52,Go.Op.binOp Go.BinOp.add 3 (Go.Operand.tmp 7) (Go.Operand.const (Go.Value.int Go.IntKind.i64 1)) 3,3,none⟩,
     ⟨some 7,Go.Op.move (Go.Operand.tmp 52),3,none⟩])))))))
  (.seq (.region [⟨some 2,Go.Op.assign (Go.Operand.const (Go.Value.bool true)),4,none⟩])
  .ret))) :=
 ⟨foll,Tryz.f66,Tryz.func66,by kernel_rfl,by kernel_rfl,by kernel_rfl,by rw [Tryz.ntmps66];decide⟩
theorem fn81:FnIs Tryz.prog 81 1 [Go.ResultVar.tmp 2] (.seq (.region [⟨some 2,Go.Op.assign (Go.Operand.const (Go.Value.bool false)),4,none⟩])
  (.seq (.region [⟨some 3,Go.Op.move (Go.Operand.tmp 0),21,none⟩,
   ⟨some 4,Go.Op.binOp Go.BinOp.geq 21 (Go.Operand.tmp 3) (Go.Operand.const (Go.Value.int Go.IntKind.i32 0)) 21,4,none⟩,
   ⟨some 5,Go.Op.move (Go.Operand.tmp 4),4,none⟩,
   ⟨some 6,Go.Op.move (Go.Operand.tmp 0),21,(some (5,true))⟩,
   ⟨some 7,Go.Op.binOp Go.BinOp.leq 21 (Go.Operand.tmp 6) (Go.Operand.const (Go.Value.int Go.IntKind.i32 55295)) 21,4,(some (5,true))⟩,
   ⟨some 8,Go.Op.pick (Go.Operand.tmp 5) (Go.Operand.tmp 7) (Go.Operand.const (Go.Value.bool false)),4,none⟩,
   ⟨some 9,Go.Op.move (Go.Operand.tmp 8),4,none⟩,
   ⟨some 10,Go.Op.move (Go.Operand.tmp 0),21,(some (9,false))⟩,
   ⟨some 11,Go.Op.binOp Go.BinOp.geq 21 (Go.Operand.tmp 10) (Go.Operand.const (Go.Value.int Go.IntKind.i32 57344)) 21,4,(some (9,false))⟩,
   ⟨some 12,Go.Op.move (Go.Operand.tmp 11),4,(some (9,false))⟩,
   ⟨some 13,Go.Op.move (Go.Operand.tmp 0),21,(some (12,true))⟩,
   ⟨some 14,Go.Op.binOp Go.BinOp.leq 21 (Go.Operand.tmp 13) (Go.Operand.const (Go.Value.int Go.IntKind.i32 1114111)) 21,4,(some (12,true))⟩,
   ⟨some 15,Go.Op.pick (Go.Operand.tmp 12) (Go.Operand.tmp 14) (Go.Operand.const (Go.Value.bool false)),4,(some (9,false))⟩,
   ⟨some 16,Go.Op.pick (Go.Operand.tmp 9) (Go.Operand.const (Go.Value.bool true)) (Go.Operand.tmp 15),4,none⟩,
   ⟨some 2,Go.Op.assign (Go.Operand.tmp 16),4,none⟩])
  .ret)) :=
 ⟨foll,Tryz.f81,Tryz.func81,by kernel_rfl,by kernel_rfl,by kernel_rfl,by rw [Tryz.ntmps81];decide⟩
end Go.Proofs.YtngdkenddfdhaaaGreatDoor
