/- Facts on the types of this seat's program, and the prepared code of its functions. Written by a program of mine (gen.py) out of what the loaded dump prints. -/
import Derived.Test.YtebejiilpedlmaaGreatDoorProg
import Derived.Test.YtebejiilpedlmaaGreatDoorNvPQ
import Derived.KernelRfl
set_option linter.unusedVariables false
set_option maxRecDepth 100000
namespace Go.Proofs.YtebejiilpedlmaaGreatDoor
open Go Nv

attribute [go_sem] Tryz.underlying0 Tryz.underlying1 Tryz.underlying2 Tryz.underlying3 Tryz.underlying4 Tryz.underlying5 Tryz.underlying6 Tryz.underlying7 Tryz.underlying8 Tryz.underlying9 Tryz.underlying10 Tryz.underlying11 Tryz.underlying12 Tryz.underlying13 Tryz.underlying14 Tryz.underlying15 Tryz.underlying16 Tryz.underlying17 Tryz.underlying18 Tryz.underlying19 Tryz.underlying20 Tryz.underlying21 Tryz.underlying22 Tryz.underlying23 Tryz.underlying24 Tryz.underlying25 Tryz.underlying26 Tryz.underlying27 Tryz.underlying28 Tryz.underlying29 Tryz.underlying30 Tryz.underlying31 Tryz.underlying32 Tryz.underlying33 Tryz.underlying34 Tryz.underlying35 Tryz.underlying36 Tryz.underlying37 Tryz.underlying38 Tryz.underlying39 Tryz.underlying40 Tryz.underlying41 Tryz.underlying42 Tryz.underlying43 Tryz.underlying44 Tryz.underlying45 Tryz.underlying46 Tryz.underlying47 Tryz.underlying48 Tryz.underlying49 Tryz.underlying50 Tryz.underlying51 Tryz.underlying52 Tryz.underlying53 Tryz.underlying54 Tryz.underlying55 Tryz.underlying56 Tryz.underlying57 Tryz.underlying58 Tryz.underlying59 Tryz.underlying60 Tryz.underlying61 Tryz.underlying62 Tryz.underlying63 Tryz.underlying64 Tryz.underlying65 Tryz.underlying66 Tryz.underlying67 Tryz.underlying68 Tryz.underlying69 Tryz.underlying70 Tryz.underlying71 Tryz.underlying72 Tryz.underlying73 Tryz.underlying74 Tryz.underlying75 Tryz.underlying76 Tryz.underlying77 Tryz.underlying78 Tryz.underlying79 Tryz.underlying80 Tryz.underlying81 Tryz.underlying82 Tryz.underlying83 Tryz.underlying84 Tryz.underlying85 Tryz.underlying86 Tryz.underlying87 Tryz.underlying88 Tryz.underlying89 Tryz.underlying90 Tryz.underlying91 Tryz.underlying92 Tryz.underlying93 Tryz.underlying94 Tryz.underlying95 Tryz.underlying96 Tryz.underlying97 Tryz.underlying98 Tryz.underlying99 Tryz.underlying100 Tryz.underlying101 Tryz.underlying102 Tryz.underlying103 Tryz.underlying104 Tryz.underlying105 Tryz.underlying106 Tryz.underlying107 Tryz.underlying108 Tryz.underlying109 Tryz.underlying110 Tryz.underlying111 Tryz.underlying112 Tryz.underlying113 Tryz.underlying114 Tryz.underlying115 Tryz.underlying116 Tryz.underlying117 Tryz.underlying118 Tryz.underlying119 Tryz.underlying120 Tryz.underlying121 Tryz.underlying122 Tryz.underlying123 Tryz.underlying124 Tryz.underlying125 Tryz.underlying126 Tryz.underlying127 Tryz.underlying128 Tryz.underlying129 Tryz.underlying130 Tryz.underlying131 Tryz.underlying132 Tryz.underlying133 Tryz.underlying134 Tryz.underlying135 Tryz.underlying136 Tryz.underlying137 Tryz.underlying138 Tryz.underlying139 Tryz.underlying140 Tryz.underlying141 Tryz.underlying142 Tryz.underlying143 Tryz.underlying144 Tryz.underlying145 Tryz.underlying146 Tryz.underlying147 Tryz.underlying148 Tryz.underlying149 Tryz.underlying150 Tryz.underlying151 Tryz.underlying152 Tryz.underlying153 Tryz.underlying154 Tryz.underlying155 Tryz.underlying156 Tryz.underlying157 Tryz.underlying158 Tryz.underlying159 Tryz.underlying160 Tryz.underlying161 Tryz.underlying162 Tryz.underlying163 Tryz.underlying164 Tryz.underlying165
@[go_sem] theorem c2 : Tryz.prog.cellsOf 2 = 1 := nrfl (by kernel_rfl)
@[go_sem] theorem by2 : Tryz.prog.bytesOf 2 = 8 := nrfl (by kernel_rfl)
@[go_sem] theorem z2 : zeroA Tryz.prog 2 = (.d (.int .i64 0)) := nrfl (by kernel_rfl)
@[go_sem] theorem c3 : Tryz.prog.cellsOf 3 = 1 := nrfl (by kernel_rfl)
@[go_sem] theorem by3 : Tryz.prog.bytesOf 3 = 8 := nrfl (by kernel_rfl)
@[go_sem] theorem z3 : zeroA Tryz.prog 3 = (.d (.int .i64 0)) := nrfl (by kernel_rfl)
@[go_sem] theorem c4 : Tryz.prog.cellsOf 4 = 1 := nrfl (by kernel_rfl)
@[go_sem] theorem by4 : Tryz.prog.bytesOf 4 = 1 := nrfl (by kernel_rfl)
@[go_sem] theorem z4 : zeroA Tryz.prog 4 = (.d (.bool false)) := nrfl (by kernel_rfl)
@[go_sem] theorem c5 : Tryz.prog.cellsOf 5 = 1 := nrfl (by kernel_rfl)
@[go_sem] theorem by5 : Tryz.prog.bytesOf 5 = 1 := nrfl (by kernel_rfl)
@[go_sem] theorem z5 : zeroA Tryz.prog 5 = (.d (.int .u8 0)) := nrfl (by kernel_rfl)
@[go_sem] theorem c6 : Tryz.prog.cellsOf 6 = 1 := nrfl (by kernel_rfl)
@[go_sem] theorem by6 : Tryz.prog.bytesOf 6 = 1 := nrfl (by kernel_rfl)
@[go_sem] theorem z6 : zeroA Tryz.prog 6 = (.d (.int .u8 0)) := nrfl (by kernel_rfl)
@[go_sem] theorem c7 : Tryz.prog.cellsOf 7 = 4 := nrfl (by kernel_rfl)
@[go_sem] theorem by7 : Tryz.prog.bytesOf 7 = 24 := nrfl (by kernel_rfl)
@[go_sem] theorem z7 : zeroA Tryz.prog 7 = (.agg [(.d (.int .i64 0)), (.d (.int .i64 0)), (.d (.bool false)), (.d (.int .u8 0))]) := nrfl (by kernel_rfl)
@[go_sem] theorem sp7 : structPlaces Tryz.prog 7 = some [(0, 1), (1, 1), (2, 1), (3, 1)] := nrfl (by kernel_rfl)
@[go_sem] theorem fo7_0 : fieldOff Tryz.prog 7 0 = some (0, 2) := by kernel_rfl
@[go_sem] theorem fo7_1 : fieldOff Tryz.prog 7 1 = some (1, 3) := by kernel_rfl
@[go_sem] theorem fo7_2 : fieldOff Tryz.prog 7 2 = some (2, 4) := by kernel_rfl
@[go_sem] theorem fo7_3 : fieldOff Tryz.prog 7 3 = some (3, 6) := by kernel_rfl
@[go_sem] theorem c8 : Tryz.prog.cellsOf 8 = 4 := nrfl (by kernel_rfl)
@[go_sem] theorem by8 : Tryz.prog.bytesOf 8 = 24 := nrfl (by kernel_rfl)
@[go_sem] theorem z8 : zeroA Tryz.prog 8 = (.agg [(.d (.int .i64 0)), (.d (.int .i64 0)), (.d (.bool false)), (.d (.int .u8 0))]) := nrfl (by kernel_rfl)
@[go_sem] theorem sp8 : structPlaces Tryz.prog 8 = some [(0, 1), (1, 1), (2, 1), (3, 1)] := nrfl (by kernel_rfl)
@[go_sem] theorem fo8_0 : fieldOff Tryz.prog 8 0 = some (0, 2) := by kernel_rfl
@[go_sem] theorem fo8_1 : fieldOff Tryz.prog 8 1 = some (1, 3) := by kernel_rfl
@[go_sem] theorem fo8_2 : fieldOff Tryz.prog 8 2 = some (2, 4) := by kernel_rfl
@[go_sem] theorem fo8_3 : fieldOff Tryz.prog 8 3 = some (3, 6) := by kernel_rfl
@[go_sem] theorem c9 : Tryz.prog.cellsOf 9 = 1 := nrfl (by kernel_rfl)
@[go_sem] theorem by9 : Tryz.prog.bytesOf 9 = 16 := nrfl (by kernel_rfl)
@[go_sem] theorem z9 : zeroA Tryz.prog 9 = (.d (.str [])) := nrfl (by kernel_rfl)
@[go_sem] theorem c10 : Tryz.prog.cellsOf 10 = 1 := nrfl (by kernel_rfl)
@[go_sem] theorem by10 : Tryz.prog.bytesOf 10 = 16 := nrfl (by kernel_rfl)
@[go_sem] theorem z10 : zeroA Tryz.prog 10 = (.d (.str [])) := nrfl (by kernel_rfl)
@[go_sem] theorem c11 : Tryz.prog.cellsOf 11 = 1 := nrfl (by kernel_rfl)
@[go_sem] theorem by11 : Tryz.prog.bytesOf 11 = 16 := nrfl (by kernel_rfl)
@[go_sem] theorem z11 : zeroA Tryz.prog 11 = (.d (.str [])) := nrfl (by kernel_rfl)
@[go_sem] theorem c12 : Tryz.prog.cellsOf 12 = 1 := nrfl (by kernel_rfl)
@[go_sem] theorem by12 : Tryz.prog.bytesOf 12 = 8 := nrfl (by kernel_rfl)
@[go_sem] theorem z12 : zeroA Tryz.prog 12 = (.d (.int .u64 0)) := nrfl (by kernel_rfl)
@[go_sem] theorem c13 : Tryz.prog.cellsOf 13 = 2 := nrfl (by kernel_rfl)
@[go_sem] theorem by13 : Tryz.prog.bytesOf 13 = 24 := nrfl (by kernel_rfl)
@[go_sem] theorem z13 : zeroA Tryz.prog 13 = (.agg [(.d (.str [])), (.d (.int .u64 0))]) := nrfl (by kernel_rfl)
@[go_sem] theorem sp13 : structPlaces Tryz.prog 13 = some [(0, 1), (1, 1)] := nrfl (by kernel_rfl)
@[go_sem] theorem fo13_0 : fieldOff Tryz.prog 13 0 = some (0, 9) := by kernel_rfl
@[go_sem] theorem fo13_1 : fieldOff Tryz.prog 13 1 = some (1, 12) := by kernel_rfl
@[go_sem] theorem c14 : Tryz.prog.cellsOf 14 = 2 := nrfl (by kernel_rfl)
@[go_sem] theorem by14 : Tryz.prog.bytesOf 14 = 24 := nrfl (by kernel_rfl)
@[go_sem] theorem z14 : zeroA Tryz.prog 14 = (.agg [(.d (.str [])), (.d (.int .u64 0))]) := nrfl (by kernel_rfl)
@[go_sem] theorem sp14 : structPlaces Tryz.prog 14 = some [(0, 1), (1, 1)] := nrfl (by kernel_rfl)
@[go_sem] theorem fo14_0 : fieldOff Tryz.prog 14 0 = some (0, 9) := by kernel_rfl
@[go_sem] theorem fo14_1 : fieldOff Tryz.prog 14 1 = some (1, 12) := by kernel_rfl
@[go_sem] theorem c15 : Tryz.prog.cellsOf 15 = 1 := nrfl (by kernel_rfl)
@[go_sem] theorem by15 : Tryz.prog.bytesOf 15 = 8 := nrfl (by kernel_rfl)
@[go_sem] theorem z15 : zeroA Tryz.prog 15 = (.d .nilptr) := nrfl (by kernel_rfl)
@[go_sem] theorem c16 : Tryz.prog.cellsOf 16 = 1 := nrfl (by kernel_rfl)
@[go_sem] theorem by16 : Tryz.prog.bytesOf 16 = 8 := nrfl (by kernel_rfl)
@[go_sem] theorem z16 : zeroA Tryz.prog 16 = (.d .nilptr) := nrfl (by kernel_rfl)
@[go_sem] theorem c17 : Tryz.prog.cellsOf 17 = 1 := nrfl (by kernel_rfl)
@[go_sem] theorem by17 : Tryz.prog.bytesOf 17 = 8 := nrfl (by kernel_rfl)
@[go_sem] theorem z17 : zeroA Tryz.prog 17 = (.d .nilptr) := nrfl (by kernel_rfl)
@[go_sem] theorem c18 : Tryz.prog.cellsOf 18 = 1 := nrfl (by kernel_rfl)
@[go_sem] theorem by18 : Tryz.prog.bytesOf 18 = 8 := nrfl (by kernel_rfl)
@[go_sem] theorem z18 : zeroA Tryz.prog 18 = (.agg [(.d .nilptr)]) := nrfl (by kernel_rfl)
@[go_sem] theorem sp18 : structPlaces Tryz.prog 18 = some [(0, 1)] := nrfl (by kernel_rfl)
@[go_sem] theorem fo18_0 : fieldOff Tryz.prog 18 0 = some (0, 17) := by kernel_rfl
@[go_sem] theorem c19 : Tryz.prog.cellsOf 19 = 1 := nrfl (by kernel_rfl)
@[go_sem] theorem by19 : Tryz.prog.bytesOf 19 = 8 := nrfl (by kernel_rfl)
@[go_sem] theorem z19 : zeroA Tryz.prog 19 = (.agg [(.d .nilptr)]) := nrfl (by kernel_rfl)
@[go_sem] theorem sp19 : structPlaces Tryz.prog 19 = some [(0, 1)] := nrfl (by kernel_rfl)
@[go_sem] theorem fo19_0 : fieldOff Tryz.prog 19 0 = some (0, 17) := by kernel_rfl
@[go_sem] theorem c20 : Tryz.prog.cellsOf 20 = 1 := nrfl (by kernel_rfl)
@[go_sem] theorem by20 : Tryz.prog.bytesOf 20 = 16 := nrfl (by kernel_rfl)
@[go_sem] theorem z20 : zeroA Tryz.prog 20 = (.d .niliface) := nrfl (by kernel_rfl)
@[go_sem] theorem c21 : Tryz.prog.cellsOf 21 = 1 := nrfl (by kernel_rfl)
@[go_sem] theorem by21 : Tryz.prog.bytesOf 21 = 4 := nrfl (by kernel_rfl)
@[go_sem] theorem z21 : zeroA Tryz.prog 21 = (.d (.int .i32 0)) := nrfl (by kernel_rfl)
@[go_sem] theorem c22 : Tryz.prog.cellsOf 22 = 1 := nrfl (by kernel_rfl)
@[go_sem] theorem by22 : Tryz.prog.bytesOf 22 = 24 := nrfl (by kernel_rfl)
@[go_sem] theorem z22 : zeroA Tryz.prog 22 = (.d .nilslice) := nrfl (by kernel_rfl)
@[go_sem] theorem c23 : Tryz.prog.cellsOf 23 = 1 := nrfl (by kernel_rfl)
@[go_sem] theorem by23 : Tryz.prog.bytesOf 23 = 24 := nrfl (by kernel_rfl)
@[go_sem] theorem z23 : zeroA Tryz.prog 23 = (.d .nilslice) := nrfl (by kernel_rfl)
@[go_sem] theorem c24 : Tryz.prog.cellsOf 24 = 5 := nrfl (by kernel_rfl)
@[go_sem] theorem by24 : Tryz.prog.bytesOf 24 = 72 := nrfl (by kernel_rfl)
@[go_sem] theorem z24 : zeroA Tryz.prog 24 = (.agg [(.d (.int .i64 0)), (.d .nilslice), (.d .nilslice), (.d (.int .i64 0)), (.d (.int .i64 0))]) := nrfl (by kernel_rfl)
@[go_sem] theorem sp24 : structPlaces Tryz.prog 24 = some [(0, 1), (1, 1), (2, 1), (3, 1), (4, 1)] := nrfl (by kernel_rfl)
@[go_sem] theorem fo24_0 : fieldOff Tryz.prog 24 0 = some (0, 3) := by kernel_rfl
@[go_sem] theorem fo24_1 : fieldOff Tryz.prog 24 1 = some (1, 22) := by kernel_rfl
@[go_sem] theorem fo24_2 : fieldOff Tryz.prog 24 2 = some (2, 23) := by kernel_rfl
@[go_sem] theorem fo24_3 : fieldOff Tryz.prog 24 3 = some (3, 3) := by kernel_rfl
@[go_sem] theorem fo24_4 : fieldOff Tryz.prog 24 4 = some (4, 3) := by kernel_rfl
@[go_sem] theorem c25 : Tryz.prog.cellsOf 25 = 5 := nrfl (by kernel_rfl)
@[go_sem] theorem by25 : Tryz.prog.bytesOf 25 = 72 := nrfl (by kernel_rfl)
@[go_sem] theorem z25 : zeroA Tryz.prog 25 = (.agg [(.d (.int .i64 0)), (.d .nilslice), (.d .nilslice), (.d (.int .i64 0)), (.d (.int .i64 0))]) := nrfl (by kernel_rfl)
@[go_sem] theorem sp25 : structPlaces Tryz.prog 25 = some [(0, 1), (1, 1), (2, 1), (3, 1), (4, 1)] := nrfl (by kernel_rfl)
@[go_sem] theorem fo25_0 : fieldOff Tryz.prog 25 0 = some (0, 3) := by kernel_rfl
@[go_sem] theorem fo25_1 : fieldOff Tryz.prog 25 1 = some (1, 22) := by kernel_rfl
@[go_sem] theorem fo25_2 : fieldOff Tryz.prog 25 2 = some (2, 23) := by kernel_rfl
@[go_sem] theorem fo25_3 : fieldOff Tryz.prog 25 3 = some (3, 3) := by kernel_rfl
@[go_sem] theorem fo25_4 : fieldOff Tryz.prog 25 4 = some (4, 3) := by kernel_rfl
@[go_sem] theorem c28 : Tryz.prog.cellsOf 28 = 1 := nrfl (by kernel_rfl)
@[go_sem] theorem by28 : Tryz.prog.bytesOf 28 = 8 := nrfl (by kernel_rfl)
@[go_sem] theorem z28 : zeroA Tryz.prog 28 = (.d (.int .i64 0)) := nrfl (by kernel_rfl)
@[go_sem] theorem c42 : Tryz.prog.cellsOf 42 = 1 := nrfl (by kernel_rfl)
@[go_sem] theorem by42 : Tryz.prog.bytesOf 42 = 24 := nrfl (by kernel_rfl)
@[go_sem] theorem z42 : zeroA Tryz.prog 42 = (.d .nilslice) := nrfl (by kernel_rfl)
@[go_sem] theorem c43 : Tryz.prog.cellsOf 43 = 2 := nrfl (by kernel_rfl)
@[go_sem] theorem by43 : Tryz.prog.bytesOf 43 = 8 := nrfl (by kernel_rfl)
@[go_sem] theorem z43 : zeroA Tryz.prog 43 = (.agg [(.d (.int .i32 0)), (.d (.int .i32 0))]) := nrfl (by kernel_rfl)
@[go_sem] theorem sp43 : structPlaces Tryz.prog 43 = some [(0, 1), (1, 1)] := nrfl (by kernel_rfl)
@[go_sem] theorem fo43_0 : fieldOff Tryz.prog 43 0 = some (0, 21) := by kernel_rfl
@[go_sem] theorem fo43_1 : fieldOff Tryz.prog 43 1 = some (1, 21) := by kernel_rfl
@[go_sem] theorem sk43 : structKinds Tryz.prog 43 = some [0, 0] := nrfl (by kernel_rfl)
@[go_sem] theorem c44 : Tryz.prog.cellsOf 44 = 2 := nrfl (by kernel_rfl)
@[go_sem] theorem by44 : Tryz.prog.bytesOf 44 = 8 := nrfl (by kernel_rfl)
@[go_sem] theorem z44 : zeroA Tryz.prog 44 = (.agg [(.d (.int .i32 0)), (.d (.int .i32 0))]) := nrfl (by kernel_rfl)
@[go_sem] theorem sp44 : structPlaces Tryz.prog 44 = some [(0, 1), (1, 1)] := nrfl (by kernel_rfl)
@[go_sem] theorem fo44_0 : fieldOff Tryz.prog 44 0 = some (0, 21) := by kernel_rfl
@[go_sem] theorem fo44_1 : fieldOff Tryz.prog 44 1 = some (1, 21) := by kernel_rfl
@[go_sem] theorem sk44 : structKinds Tryz.prog 44 = some [0, 0] := nrfl (by kernel_rfl)
@[go_sem] theorem c48 : Tryz.prog.cellsOf 48 = 0 := nrfl (by kernel_rfl)
@[go_sem] theorem by48 : Tryz.prog.bytesOf 48 = 0 := nrfl (by kernel_rfl)
@[go_sem] theorem z48 : zeroA Tryz.prog 48 = (.agg []) := nrfl (by kernel_rfl)
@[go_sem] theorem sp48 : structPlaces Tryz.prog 48 = some [] := nrfl (by kernel_rfl)
@[go_sem] theorem c49 : Tryz.prog.cellsOf 49 = 0 := nrfl (by kernel_rfl)
@[go_sem] theorem by49 : Tryz.prog.bytesOf 49 = 0 := nrfl (by kernel_rfl)
@[go_sem] theorem z49 : zeroA Tryz.prog 49 = (.agg []) := nrfl (by kernel_rfl)
@[go_sem] theorem sp49 : structPlaces Tryz.prog 49 = some [] := nrfl (by kernel_rfl)
@[go_sem] theorem c51 : Tryz.prog.cellsOf 51 = 1 := nrfl (by kernel_rfl)
@[go_sem] theorem by51 : Tryz.prog.bytesOf 51 = 8 := nrfl (by kernel_rfl)
@[go_sem] theorem z51 : zeroA Tryz.prog 51 = (.d .nilptr) := nrfl (by kernel_rfl)
@[go_sem] theorem c52 : Tryz.prog.cellsOf 52 = 2 := nrfl (by kernel_rfl)
@[go_sem] theorem by52 : Tryz.prog.bytesOf 52 = 32 := nrfl (by kernel_rfl)
@[go_sem] theorem z52 : zeroA Tryz.prog 52 = (.agg [(.d .nilslice), (.d (.int .i64 0))]) := nrfl (by kernel_rfl)
@[go_sem] theorem sp52 : structPlaces Tryz.prog 52 = some [(0, 1), (1, 1)] := nrfl (by kernel_rfl)
@[go_sem] theorem fo52_0 : fieldOff Tryz.prog 52 0 = some (0, 42) := by kernel_rfl
@[go_sem] theorem fo52_1 : fieldOff Tryz.prog 52 1 = some (1, 3) := by kernel_rfl
@[go_sem] theorem c53 : Tryz.prog.cellsOf 53 = 2 := nrfl (by kernel_rfl)
@[go_sem] theorem by53 : Tryz.prog.bytesOf 53 = 32 := nrfl (by kernel_rfl)
@[go_sem] theorem z53 : zeroA Tryz.prog 53 = (.agg [(.d .nilslice), (.d (.int .i64 0))]) := nrfl (by kernel_rfl)
@[go_sem] theorem sp53 : structPlaces Tryz.prog 53 = some [(0, 1), (1, 1)] := nrfl (by kernel_rfl)
@[go_sem] theorem fo53_0 : fieldOff Tryz.prog 53 0 = some (0, 42) := by kernel_rfl
@[go_sem] theorem fo53_1 : fieldOff Tryz.prog 53 1 = some (1, 3) := by kernel_rfl
@[go_sem] theorem c60 : Tryz.prog.cellsOf 60 = 1 := nrfl (by kernel_rfl)
@[go_sem] theorem by60 : Tryz.prog.bytesOf 60 = 24 := nrfl (by kernel_rfl)
@[go_sem] theorem z60 : zeroA Tryz.prog 60 = (.d .nilslice) := nrfl (by kernel_rfl)
@[go_sem] theorem c62 : Tryz.prog.cellsOf 62 = 1 := nrfl (by kernel_rfl)
@[go_sem] theorem by62 : Tryz.prog.bytesOf 62 = 24 := nrfl (by kernel_rfl)
@[go_sem] theorem z62 : zeroA Tryz.prog 62 = (.d .nilslice) := nrfl (by kernel_rfl)
@[go_sem] theorem c65 : Tryz.prog.cellsOf 65 = 1 := nrfl (by kernel_rfl)
@[go_sem] theorem by65 : Tryz.prog.bytesOf 65 = 24 := nrfl (by kernel_rfl)
@[go_sem] theorem z65 : zeroA Tryz.prog 65 = (.d .nilslice) := nrfl (by kernel_rfl)
@[go_sem] theorem c71 : Tryz.prog.cellsOf 71 = 4 := nrfl (by kernel_rfl)
@[go_sem] theorem by71 : Tryz.prog.bytesOf 71 = 24 := nrfl (by kernel_rfl)
@[go_sem] theorem z71 : zeroA Tryz.prog 71 = (.agg [(.d (.int .i32 0)), (.d (.int .i64 0)), (.d (.int .u8 0)), (.d (.int .u8 0))]) := nrfl (by kernel_rfl)
@[go_sem] theorem sp71 : structPlaces Tryz.prog 71 = some [(0, 1), (1, 1), (2, 1), (3, 1)] := nrfl (by kernel_rfl)
@[go_sem] theorem fo71_0 : fieldOff Tryz.prog 71 0 = some (0, 21) := by kernel_rfl
@[go_sem] theorem fo71_1 : fieldOff Tryz.prog 71 1 = some (1, 3) := by kernel_rfl
@[go_sem] theorem fo71_2 : fieldOff Tryz.prog 71 2 = some (2, 5) := by kernel_rfl
@[go_sem] theorem fo71_3 : fieldOff Tryz.prog 71 3 = some (3, 5) := by kernel_rfl
@[go_sem] theorem sk71 : structKinds Tryz.prog 71 = some [0, 0, 0, 0] := nrfl (by kernel_rfl)
@[go_sem] theorem c72 : Tryz.prog.cellsOf 72 = 4 := nrfl (by kernel_rfl)
@[go_sem] theorem by72 : Tryz.prog.bytesOf 72 = 24 := nrfl (by kernel_rfl)
@[go_sem] theorem z72 : zeroA Tryz.prog 72 = (.agg [(.d (.int .i32 0)), (.d (.int .i64 0)), (.d (.int .u8 0)), (.d (.int .u8 0))]) := nrfl (by kernel_rfl)
@[go_sem] theorem sp72 : structPlaces Tryz.prog 72 = some [(0, 1), (1, 1), (2, 1), (3, 1)] := nrfl (by kernel_rfl)
@[go_sem] theorem fo72_0 : fieldOff Tryz.prog 72 0 = some (0, 21) := by kernel_rfl
@[go_sem] theorem fo72_1 : fieldOff Tryz.prog 72 1 = some (1, 3) := by kernel_rfl
@[go_sem] theorem fo72_2 : fieldOff Tryz.prog 72 2 = some (2, 5) := by kernel_rfl
@[go_sem] theorem fo72_3 : fieldOff Tryz.prog 72 3 = some (3, 5) := by kernel_rfl
@[go_sem] theorem sk72 : structKinds Tryz.prog 72 = some [0, 0, 0, 0] := nrfl (by kernel_rfl)
@[go_sem] theorem c73 : Tryz.prog.cellsOf 73 = 1 := nrfl (by kernel_rfl)
@[go_sem] theorem by73 : Tryz.prog.bytesOf 73 = 8 := nrfl (by kernel_rfl)
@[go_sem] theorem z73 : zeroA Tryz.prog 73 = (.d (.int .u64 0)) := nrfl (by kernel_rfl)
@[go_sem] theorem c80 : Tryz.prog.cellsOf 80 = 256 := nrfl (by kernel_rfl)
@[go_sem] theorem by80 : Tryz.prog.bytesOf 80 = 256 := nrfl (by kernel_rfl)
@[go_sem] theorem z80 : zeroA Tryz.prog 80 = (.agg [(.d (.int .u8 0)), (.d (.int .u8 0)), (.d (.int .u8 0)), (.d (.int .u8 0)), (.d (.int .u8 0)), (.d (.int .u8 0)), (.d (.int .u8 0)), (.d (.int .u8 0)), (.d (.int .u8 0)), (.d (.int .u8 0)), (.d (.int .u8 0)), (.d (.int .u8 0)), (.d (.int .u8 0)), (.d (.int .u8 0)), (.d (.int .u8 0)), (.d (.int .u8 0)), (.d (.int .u8 0)), (.d (.int .u8 0)), (.d (.int .u8 0)), (.d (.int .u8 0)), (.d (.int .u8 0)), (.d (.int .u8 0)), (.d (.int .u8 0)), (.d (.int .u8 0)), (.d (.int .u8 0)), (.d (.int .u8 0)), (.d (.int .u8 0)), (.d (.int .u8 0)), (.d (.int .u8 0)), (.d (.int .u8 0)), (.d (.int .u8 0)), (.d (.int .u8 0)), (.d (.int .u8 0)), (.d (.int .u8 0)), (.d (.int .u8 0)), (.d (.int .u8 0)), (.d (.int .u8 0)), (.d (.int .u8 0)), (.d (.int .u8 0)), (.d (.int .u8 0)), (.d (.int .u8 0)), (.d (.int .u8 0)), (.d (.int .u8 0)), (.d (.int .u8 0)), (.d (.int .u8 0)), (.d (.int .u8 0)), (.d (.int .u8 0)), (.d (.int .u8 0)), (.d (.int .u8 0)), (.d (.int .u8 0)), (.d (.int .u8 0)), (.d (.int .u8 0)), (.d (.int .u8 0)), (.d (.int .u8 0)), (.d (.int .u8 0)), (.d (.int .u8 0)), (.d (.int .u8 0)), (.d (.int .u8 0)), (.d (.int .u8 0)), (.d (.int .u8 0)), (.d (.int .u8 0)), (.d (.int .u8 0)), (.d (.int .u8 0)), (.d (.int .u8 0)), (.d (.int .u8 0)), (.d (.int .u8 0)), (.d (.int .u8 0)), (.d (.int .u8 0)), (.d (.int .u8 0)), (.d (.int .u8 0)), (.d (.int .u8 0)), (.d (.int .u8 0)), (.d (.int .u8 0)), (.d (.int .u8 0)), (.d (.int .u8 0)), (.d (.int .u8 0)), (.d (.int .u8 0)), (.d (.int .u8 0)), (.d (.int .u8 0)), (.d (.int .u8 0)), (.d (.int .u8 0)), (.d (.int .u8 0)), (.d (.int .u8 0)), (.d (.int .u8 0)), (.d (.int .u8 0)), (.d (.int .u8 0)), (.d (.int .u8 0)), (.d (.int .u8 0)), (.d (.int .u8 0)), (.d (.int .u8 0)), (.d (.int .u8 0)), (.d (.int .u8 0)), (.d (.int .u8 0)), (.d (.int .u8 0)), (.d (.int .u8 0)), (.d (.int .u8 0)), (.d (.int .u8 0)), (.d (.int .u8 0)), (.d (.int .u8 0)), (.d (.int .u8 0)), (.d (.int .u8 0)), (.d (.int .u8 0)), (.d (.int .u8 0)), (.d (.int .u8 0)), (.d (.int .u8 0)), (.d (.int .u8 0)), (.d (.int .u8 0)), (.d (.int .u8 0)), (.d (.int .u8 0)), (.d (.int .u8 0)), (.d (.int .u8 0)), (.d (.int .u8 0)), (.d (.int .u8 0)), (.d (.int .u8 0)), (.d (.int .u8 0)), (.d (.int .u8 0)), (.d (.int .u8 0)), (.d (.int .u8 0)), (.d (.int .u8 0)), (.d (.int .u8 0)), (.d (.int .u8 0)), (.d (.int .u8 0)), (.d (.int .u8 0)), (.d (.int .u8 0)), (.d (.int .u8 0)), (.d (.int .u8 0)), (.d (.int .u8 0)), (.d (.int .u8 0)), (.d (.int .u8 0)), (.d (.int .u8 0)), (.d (.int .u8 0)), (.d (.int .u8 0)), (.d (.int .u8 0)), (.d (.int .u8 0)), (.d (.int .u8 0)), (.d (.int .u8 0)), (.d (.int .u8 0)), (.d (.int .u8 0)), (.d (.int .u8 0)), (.d (.int .u8 0)), (.d (.int .u8 0)), (.d (.int .u8 0)), (.d (.int .u8 0)), (.d (.int .u8 0)), (.d (.int .u8 0)), (.d (.int .u8 0)), (.d (.int .u8 0)), (.d (.int .u8 0)), (.d (.int .u8 0)), (.d (.int .u8 0)), (.d (.int .u8 0)), (.d (.int .u8 0)), (.d (.int .u8 0)), (.d (.int .u8 0)), (.d (.int .u8 0)), (.d (.int .u8 0)), (.d (.int .u8 0)), (.d (.int .u8 0)), (.d (.int .u8 0)), (.d (.int .u8 0)), (.d (.int .u8 0)), (.d (.int .u8 0)), (.d (.int .u8 0)), (.d (.int .u8 0)), (.d (.int .u8 0)), (.d (.int .u8 0)), (.d (.int .u8 0)), (.d (.int .u8 0)), (.d (.int .u8 0)), (.d (.int .u8 0)), (.d (.int .u8 0)), (.d (.int .u8 0)), (.d (.int .u8 0)), (.d (.int .u8 0)), (.d (.int .u8 0)), (.d (.int .u8 0)), (.d (.int .u8 0)), (.d (.int .u8 0)), (.d (.int .u8 0)), (.d (.int .u8 0)), (.d (.int .u8 0)), (.d (.int .u8 0)), (.d (.int .u8 0)), (.d (.int .u8 0)), (.d (.int .u8 0)), (.d (.int .u8 0)), (.d (.int .u8 0)), (.d (.int .u8 0)), (.d (.int .u8 0)), (.d (.int .u8 0)), (.d (.int .u8 0)), (.d (.int .u8 0)), (.d (.int .u8 0)), (.d (.int .u8 0)), (.d (.int .u8 0)), (.d (.int .u8 0)), (.d (.int .u8 0)), (.d (.int .u8 0)), (.d (.int .u8 0)), (.d (.int .u8 0)), (.d (.int .u8 0)), (.d (.int .u8 0)), (.d (.int .u8 0)), (.d (.int .u8 0)), (.d (.int .u8 0)), (.d (.int .u8 0)), (.d (.int .u8 0)), (.d (.int .u8 0)), (.d (.int .u8 0)), (.d (.int .u8 0)), (.d (.int .u8 0)), (.d (.int .u8 0)), (.d (.int .u8 0)), (.d (.int .u8 0)), (.d (.int .u8 0)), (.d (.int .u8 0)), (.d (.int .u8 0)), (.d (.int .u8 0)), (.d (.int .u8 0)), (.d (.int .u8 0)), (.d (.int .u8 0)), (.d (.int .u8 0)), (.d (.int .u8 0)), (.d (.int .u8 0)), (.d (.int .u8 0)), (.d (.int .u8 0)), (.d (.int .u8 0)), (.d (.int .u8 0)), (.d (.int .u8 0)), (.d (.int .u8 0)), (.d (.int .u8 0)), (.d (.int .u8 0)), (.d (.int .u8 0)), (.d (.int .u8 0)), (.d (.int .u8 0)), (.d (.int .u8 0)), (.d (.int .u8 0)), (.d (.int .u8 0)), (.d (.int .u8 0)), (.d (.int .u8 0)), (.d (.int .u8 0)), (.d (.int .u8 0)), (.d (.int .u8 0)), (.d (.int .u8 0)), (.d (.int .u8 0)), (.d (.int .u8 0)), (.d (.int .u8 0)), (.d (.int .u8 0)), (.d (.int .u8 0)), (.d (.int .u8 0)), (.d (.int .u8 0)), (.d (.int .u8 0)), (.d (.int .u8 0)), (.d (.int .u8 0)), (.d (.int .u8 0)), (.d (.int .u8 0))]) := nrfl (by kernel_rfl)
@[go_sem] theorem c81 : Tryz.prog.cellsOf 81 = 2 := nrfl (by kernel_rfl)
@[go_sem] theorem by81 : Tryz.prog.bytesOf 81 = 2 := nrfl (by kernel_rfl)
@[go_sem] theorem z81 : zeroA Tryz.prog 81 = (.agg [(.d (.int .u8 0)), (.d (.int .u8 0))]) := nrfl (by kernel_rfl)
@[go_sem] theorem sp81 : structPlaces Tryz.prog 81 = some [(0, 1), (1, 1)] := nrfl (by kernel_rfl)
@[go_sem] theorem fo81_0 : fieldOff Tryz.prog 81 0 = some (0, 5) := by kernel_rfl
@[go_sem] theorem fo81_1 : fieldOff Tryz.prog 81 1 = some (1, 5) := by kernel_rfl
@[go_sem] theorem sk81 : structKinds Tryz.prog 81 = some [0, 0] := nrfl (by kernel_rfl)
@[go_sem] theorem c82 : Tryz.prog.cellsOf 82 = 2 := nrfl (by kernel_rfl)
@[go_sem] theorem by82 : Tryz.prog.bytesOf 82 = 2 := nrfl (by kernel_rfl)
@[go_sem] theorem z82 : zeroA Tryz.prog 82 = (.agg [(.d (.int .u8 0)), (.d (.int .u8 0))]) := nrfl (by kernel_rfl)
@[go_sem] theorem sp82 : structPlaces Tryz.prog 82 = some [(0, 1), (1, 1)] := nrfl (by kernel_rfl)
@[go_sem] theorem fo82_0 : fieldOff Tryz.prog 82 0 = some (0, 5) := by kernel_rfl
@[go_sem] theorem fo82_1 : fieldOff Tryz.prog 82 1 = some (1, 5) := by kernel_rfl
@[go_sem] theorem sk82 : structKinds Tryz.prog 82 = some [0, 0] := nrfl (by kernel_rfl)
@[go_sem] theorem c83 : Tryz.prog.cellsOf 83 = 32 := nrfl (by kernel_rfl)
@[go_sem] theorem by83 : Tryz.prog.bytesOf 83 = 32 := nrfl (by kernel_rfl)
@[go_sem] theorem z83 : zeroA Tryz.prog 83 = (.agg [(.d (.int .u8 0)), (.d (.int .u8 0)), (.d (.int .u8 0)), (.d (.int .u8 0)), (.d (.int .u8 0)), (.d (.int .u8 0)), (.d (.int .u8 0)), (.d (.int .u8 0)), (.d (.int .u8 0)), (.d (.int .u8 0)), (.d (.int .u8 0)), (.d (.int .u8 0)), (.d (.int .u8 0)), (.d (.int .u8 0)), (.d (.int .u8 0)), (.d (.int .u8 0)), (.d (.int .u8 0)), (.d (.int .u8 0)), (.d (.int .u8 0)), (.d (.int .u8 0)), (.d (.int .u8 0)), (.d (.int .u8 0)), (.d (.int .u8 0)), (.d (.int .u8 0)), (.d (.int .u8 0)), (.d (.int .u8 0)), (.d (.int .u8 0)), (.d (.int .u8 0)), (.d (.int .u8 0)), (.d (.int .u8 0)), (.d (.int .u8 0)), (.d (.int .u8 0))]) := nrfl (by kernel_rfl)
@[go_sem] theorem c86 : Tryz.prog.cellsOf 86 = 1 := nrfl (by kernel_rfl)
@[go_sem] theorem by86 : Tryz.prog.bytesOf 86 = 4 := nrfl (by kernel_rfl)
@[go_sem] theorem z86 : zeroA Tryz.prog 86 = (.d (.int .u32 0)) := nrfl (by kernel_rfl)
@[go_sem] theorem c90 : Tryz.prog.cellsOf 90 = 1 := nrfl (by kernel_rfl)
@[go_sem] theorem by90 : Tryz.prog.bytesOf 90 = 8 := nrfl (by kernel_rfl)
@[go_sem] theorem z90 : zeroA Tryz.prog 90 = (.d .nilptr) := nrfl (by kernel_rfl)
@[go_sem] theorem c91 : Tryz.prog.cellsOf 91 = 2 := nrfl (by kernel_rfl)
@[go_sem] theorem by91 : Tryz.prog.bytesOf 91 = 32 := nrfl (by kernel_rfl)
@[go_sem] theorem z91 : zeroA Tryz.prog 91 = (.agg [(.d .nilptr), (.d .nilslice)]) := nrfl (by kernel_rfl)
@[go_sem] theorem sp91 : structPlaces Tryz.prog 91 = some [(0, 1), (1, 1)] := nrfl (by kernel_rfl)
@[go_sem] theorem fo91_0 : fieldOff Tryz.prog 91 0 = some (0, 90) := by kernel_rfl
@[go_sem] theorem fo91_1 : fieldOff Tryz.prog 91 1 = some (1, 62) := by kernel_rfl
@[go_sem] theorem c92 : Tryz.prog.cellsOf 92 = 2 := nrfl (by kernel_rfl)
@[go_sem] theorem by92 : Tryz.prog.bytesOf 92 = 32 := nrfl (by kernel_rfl)
@[go_sem] theorem z92 : zeroA Tryz.prog 92 = (.agg [(.d .nilptr), (.d .nilslice)]) := nrfl (by kernel_rfl)
@[go_sem] theorem sp92 : structPlaces Tryz.prog 92 = some [(0, 1), (1, 1)] := nrfl (by kernel_rfl)
@[go_sem] theorem fo92_0 : fieldOff Tryz.prog 92 0 = some (0, 90) := by kernel_rfl
@[go_sem] theorem fo92_1 : fieldOff Tryz.prog 92 1 = some (1, 62) := by kernel_rfl
@[go_sem] theorem c94 : Tryz.prog.cellsOf 94 = 1 := nrfl (by kernel_rfl)
@[go_sem] theorem by94 : Tryz.prog.bytesOf 94 = 16 := nrfl (by kernel_rfl)
@[go_sem] theorem z94 : zeroA Tryz.prog 94 = (.d .niliface) := nrfl (by kernel_rfl)
@[go_sem] theorem c95 : Tryz.prog.cellsOf 95 = 1 := nrfl (by kernel_rfl)
@[go_sem] theorem by95 : Tryz.prog.bytesOf 95 = 16 := nrfl (by kernel_rfl)
@[go_sem] theorem z95 : zeroA Tryz.prog 95 = (.d .niliface) := nrfl (by kernel_rfl)
@[go_sem] theorem c101 : Tryz.prog.cellsOf 101 = 1 := nrfl (by kernel_rfl)
@[go_sem] theorem by101 : Tryz.prog.bytesOf 101 = 8 := nrfl (by kernel_rfl)
@[go_sem] theorem z101 : zeroA Tryz.prog 101 = (.d (.int .u64 0)) := nrfl (by kernel_rfl)
@[go_sem] theorem c106 : Tryz.prog.cellsOf 106 = 1 := nrfl (by kernel_rfl)
@[go_sem] theorem by106 : Tryz.prog.bytesOf 106 = 8 := nrfl (by kernel_rfl)
@[go_sem] theorem z106 : zeroA Tryz.prog 106 = (.d .nilptr) := nrfl (by kernel_rfl)
@[go_sem] theorem c110 : Tryz.prog.cellsOf 110 = 1 := nrfl (by kernel_rfl)
@[go_sem] theorem by110 : Tryz.prog.bytesOf 110 = 8 := nrfl (by kernel_rfl)
@[go_sem] theorem z110 : zeroA Tryz.prog 110 = (.d .nilptr) := nrfl (by kernel_rfl)
@[go_sem] theorem c114 : Tryz.prog.cellsOf 114 = 24 := nrfl (by kernel_rfl)
@[go_sem] theorem by114 : Tryz.prog.bytesOf 114 = 24 := nrfl (by kernel_rfl)
@[go_sem] theorem z114 : zeroA Tryz.prog 114 = (.agg [(.d (.int .u8 0)), (.d (.int .u8 0)), (.d (.int .u8 0)), (.d (.int .u8 0)), (.d (.int .u8 0)), (.d (.int .u8 0)), (.d (.int .u8 0)), (.d (.int .u8 0)), (.d (.int .u8 0)), (.d (.int .u8 0)), (.d (.int .u8 0)), (.d (.int .u8 0)), (.d (.int .u8 0)), (.d (.int .u8 0)), (.d (.int .u8 0)), (.d (.int .u8 0)), (.d (.int .u8 0)), (.d (.int .u8 0)), (.d (.int .u8 0)), (.d (.int .u8 0)), (.d (.int .u8 0)), (.d (.int .u8 0)), (.d (.int .u8 0)), (.d (.int .u8 0))]) := nrfl (by kernel_rfl)
@[go_sem] theorem c124 : Tryz.prog.cellsOf 124 = 20 := nrfl (by kernel_rfl)
@[go_sem] theorem by124 : Tryz.prog.bytesOf 124 = 160 := nrfl (by kernel_rfl)
@[go_sem] theorem z124 : zeroA Tryz.prog 124 = (.agg [(.d (.int .u64 0)), (.d (.int .u64 0)), (.d (.int .u64 0)), (.d (.int .u64 0)), (.d (.int .u64 0)), (.d (.int .u64 0)), (.d (.int .u64 0)), (.d (.int .u64 0)), (.d (.int .u64 0)), (.d (.int .u64 0)), (.d (.int .u64 0)), (.d (.int .u64 0)), (.d (.int .u64 0)), (.d (.int .u64 0)), (.d (.int .u64 0)), (.d (.int .u64 0)), (.d (.int .u64 0)), (.d (.int .u64 0)), (.d (.int .u64 0)), (.d (.int .u64 0))]) := nrfl (by kernel_rfl)
@[go_sem] theorem c125 : Tryz.prog.cellsOf 125 = 65 := nrfl (by kernel_rfl)
@[go_sem] theorem by125 : Tryz.prog.bytesOf 125 = 65 := nrfl (by kernel_rfl)
@[go_sem] theorem z125 : zeroA Tryz.prog 125 = (.agg [(.d (.int .u8 0)), (.d (.int .u8 0)), (.d (.int .u8 0)), (.d (.int .u8 0)), (.d (.int .u8 0)), (.d (.int .u8 0)), (.d (.int .u8 0)), (.d (.int .u8 0)), (.d (.int .u8 0)), (.d (.int .u8 0)), (.d (.int .u8 0)), (.d (.int .u8 0)), (.d (.int .u8 0)), (.d (.int .u8 0)), (.d (.int .u8 0)), (.d (.int .u8 0)), (.d (.int .u8 0)), (.d (.int .u8 0)), (.d (.int .u8 0)), (.d (.int .u8 0)), (.d (.int .u8 0)), (.d (.int .u8 0)), (.d (.int .u8 0)), (.d (.int .u8 0)), (.d (.int .u8 0)), (.d (.int .u8 0)), (.d (.int .u8 0)), (.d (.int .u8 0)), (.d (.int .u8 0)), (.d (.int .u8 0)), (.d (.int .u8 0)), (.d (.int .u8 0)), (.d (.int .u8 0)), (.d (.int .u8 0)), (.d (.int .u8 0)), (.d (.int .u8 0)), (.d (.int .u8 0)), (.d (.int .u8 0)), (.d (.int .u8 0)), (.d (.int .u8 0)), (.d (.int .u8 0)), (.d (.int .u8 0)), (.d (.int .u8 0)), (.d (.int .u8 0)), (.d (.int .u8 0)), (.d (.int .u8 0)), (.d (.int .u8 0)), (.d (.int .u8 0)), (.d (.int .u8 0)), (.d (.int .u8 0)), (.d (.int .u8 0)), (.d (.int .u8 0)), (.d (.int .u8 0)), (.d (.int .u8 0)), (.d (.int .u8 0)), (.d (.int .u8 0)), (.d (.int .u8 0)), (.d (.int .u8 0)), (.d (.int .u8 0)), (.d (.int .u8 0)), (.d (.int .u8 0)), (.d (.int .u8 0)), (.d (.int .u8 0)), (.d (.int .u8 0)), (.d (.int .u8 0))]) := nrfl (by kernel_rfl)
@[go_sem] theorem c135 : Tryz.prog.cellsOf 135 = 32 := nrfl (by kernel_rfl)
@[go_sem] theorem by135 : Tryz.prog.bytesOf 135 = 32 := nrfl (by kernel_rfl)
@[go_sem] theorem z135 : zeroA Tryz.prog 135 = (.agg [(.d (.int .u8 0)), (.d (.int .u8 0)), (.d (.int .u8 0)), (.d (.int .u8 0)), (.d (.int .u8 0)), (.d (.int .u8 0)), (.d (.int .u8 0)), (.d (.int .u8 0)), (.d (.int .u8 0)), (.d (.int .u8 0)), (.d (.int .u8 0)), (.d (.int .u8 0)), (.d (.int .u8 0)), (.d (.int .u8 0)), (.d (.int .u8 0)), (.d (.int .u8 0)), (.d (.int .u8 0)), (.d (.int .u8 0)), (.d (.int .u8 0)), (.d (.int .u8 0)), (.d (.int .u8 0)), (.d (.int .u8 0)), (.d (.int .u8 0)), (.d (.int .u8 0)), (.d (.int .u8 0)), (.d (.int .u8 0)), (.d (.int .u8 0)), (.d (.int .u8 0)), (.d (.int .u8 0)), (.d (.int .u8 0)), (.d (.int .u8 0)), (.d (.int .u8 0))]) := nrfl (by kernel_rfl)
@[go_sem] theorem c136 : Tryz.prog.cellsOf 136 = 64 := nrfl (by kernel_rfl)
@[go_sem] theorem by136 : Tryz.prog.bytesOf 136 = 64 := nrfl (by kernel_rfl)
@[go_sem] theorem z136 : zeroA Tryz.prog 136 = (.agg [(.d (.int .u8 0)), (.d (.int .u8 0)), (.d (.int .u8 0)), (.d (.int .u8 0)), (.d (.int .u8 0)), (.d (.int .u8 0)), (.d (.int .u8 0)), (.d (.int .u8 0)), (.d (.int .u8 0)), (.d (.int .u8 0)), (.d (.int .u8 0)), (.d (.int .u8 0)), (.d (.int .u8 0)), (.d (.int .u8 0)), (.d (.int .u8 0)), (.d (.int .u8 0)), (.d (.int .u8 0)), (.d (.int .u8 0)), (.d (.int .u8 0)), (.d (.int .u8 0)), (.d (.int .u8 0)), (.d (.int .u8 0)), (.d (.int .u8 0)), (.d (.int .u8 0)), (.d (.int .u8 0)), (.d (.int .u8 0)), (.d (.int .u8 0)), (.d (.int .u8 0)), (.d (.int .u8 0)), (.d (.int .u8 0)), (.d (.int .u8 0)), (.d (.int .u8 0)), (.d (.int .u8 0)), (.d (.int .u8 0)), (.d (.int .u8 0)), (.d (.int .u8 0)), (.d (.int .u8 0)), (.d (.int .u8 0)), (.d (.int .u8 0)), (.d (.int .u8 0)), (.d (.int .u8 0)), (.d (.int .u8 0)), (.d (.int .u8 0)), (.d (.int .u8 0)), (.d (.int .u8 0)), (.d (.int .u8 0)), (.d (.int .u8 0)), (.d (.int .u8 0)), (.d (.int .u8 0)), (.d (.int .u8 0)), (.d (.int .u8 0)), (.d (.int .u8 0)), (.d (.int .u8 0)), (.d (.int .u8 0)), (.d (.int .u8 0)), (.d (.int .u8 0)), (.d (.int .u8 0)), (.d (.int .u8 0)), (.d (.int .u8 0)), (.d (.int .u8 0)), (.d (.int .u8 0)), (.d (.int .u8 0)), (.d (.int .u8 0)), (.d (.int .u8 0))]) := nrfl (by kernel_rfl)
@[go_sem] theorem c138 : Tryz.prog.cellsOf 138 = 1 := nrfl (by kernel_rfl)
@[go_sem] theorem by138 : Tryz.prog.bytesOf 138 = 8 := nrfl (by kernel_rfl)
@[go_sem] theorem z138 : zeroA Tryz.prog 138 = (.d (.int .i64 0)) := nrfl (by kernel_rfl)
@[go_sem] theorem c145 : Tryz.prog.cellsOf 145 = 1 := nrfl (by kernel_rfl)
@[go_sem] theorem by145 : Tryz.prog.bytesOf 145 = 8 := nrfl (by kernel_rfl)
@[go_sem] theorem z145 : zeroA Tryz.prog 145 = (.d (.int .u64 0)) := nrfl (by kernel_rfl)
@[go_sem] theorem c149 : Tryz.prog.cellsOf 149 = 1 := nrfl (by kernel_rfl)
@[go_sem] theorem by149 : Tryz.prog.bytesOf 149 = 8 := nrfl (by kernel_rfl)
@[go_sem] theorem z149 : zeroA Tryz.prog 149 = (.d .nilptr) := nrfl (by kernel_rfl)
@[go_sem] theorem c151 : Tryz.prog.cellsOf 151 = 1 := nrfl (by kernel_rfl)
@[go_sem] theorem by151 : Tryz.prog.bytesOf 151 = 8 := nrfl (by kernel_rfl)
@[go_sem] theorem z151 : zeroA Tryz.prog 151 = (.d .nilptr) := nrfl (by kernel_rfl)
@[go_sem] theorem c154 : Tryz.prog.cellsOf 154 = 4 := nrfl (by kernel_rfl)
@[go_sem] theorem by154 : Tryz.prog.bytesOf 154 = 40 := nrfl (by kernel_rfl)
@[go_sem] theorem z154 : zeroA Tryz.prog 154 = (.agg [(.d .nilptr), (.d .nilptr), (.d .nilptr), (.d (.str []))]) := nrfl (by kernel_rfl)
@[go_sem] theorem sp154 : structPlaces Tryz.prog 154 = some [(0, 1), (1, 1), (2, 1), (3, 1)] := nrfl (by kernel_rfl)
@[go_sem] theorem fo154_0 : fieldOff Tryz.prog 154 0 = some (0, 17) := by kernel_rfl
@[go_sem] theorem fo154_1 : fieldOff Tryz.prog 154 1 = some (1, 17) := by kernel_rfl
@[go_sem] theorem fo154_2 : fieldOff Tryz.prog 154 2 = some (2, 17) := by kernel_rfl
@[go_sem] theorem fo154_3 : fieldOff Tryz.prog 154 3 = some (3, 9) := by kernel_rfl
@[go_sem] theorem c155 : Tryz.prog.cellsOf 155 = 4 := nrfl (by kernel_rfl)
@[go_sem] theorem by155 : Tryz.prog.bytesOf 155 = 40 := nrfl (by kernel_rfl)
@[go_sem] theorem z155 : zeroA Tryz.prog 155 = (.agg [(.d .nilptr), (.d .nilptr), (.d .nilptr), (.d (.str []))]) := nrfl (by kernel_rfl)
@[go_sem] theorem sp155 : structPlaces Tryz.prog 155 = some [(0, 1), (1, 1), (2, 1), (3, 1)] := nrfl (by kernel_rfl)
@[go_sem] theorem fo155_0 : fieldOff Tryz.prog 155 0 = some (0, 17) := by kernel_rfl
@[go_sem] theorem fo155_1 : fieldOff Tryz.prog 155 1 = some (1, 17) := by kernel_rfl
@[go_sem] theorem fo155_2 : fieldOff Tryz.prog 155 2 = some (2, 17) := by kernel_rfl
@[go_sem] theorem fo155_3 : fieldOff Tryz.prog 155 3 = some (3, 9) := by kernel_rfl
@[go_sem] theorem c156 : Tryz.prog.cellsOf 156 = 0 := nrfl (by kernel_rfl)
@[go_sem] theorem by156 : Tryz.prog.bytesOf 156 = 0 := nrfl (by kernel_rfl)
@[go_sem] theorem z156 : zeroA Tryz.prog 156 = (.agg []) := nrfl (by kernel_rfl)
@[go_sem] theorem c157 : Tryz.prog.cellsOf 157 = 0 := nrfl (by kernel_rfl)
@[go_sem] theorem by157 : Tryz.prog.bytesOf 157 = 0 := nrfl (by kernel_rfl)
@[go_sem] theorem z157 : zeroA Tryz.prog 157 = (.agg []) := nrfl (by kernel_rfl)
@[go_sem] theorem sp157 : structPlaces Tryz.prog 157 = some [(0, 0)] := nrfl (by kernel_rfl)
@[go_sem] theorem c158 : Tryz.prog.cellsOf 158 = 0 := nrfl (by kernel_rfl)
@[go_sem] theorem by158 : Tryz.prog.bytesOf 158 = 0 := nrfl (by kernel_rfl)
@[go_sem] theorem z158 : zeroA Tryz.prog 158 = (.agg []) := nrfl (by kernel_rfl)
@[go_sem] theorem sp158 : structPlaces Tryz.prog 158 = some [(0, 0)] := nrfl (by kernel_rfl)
@[go_sem] theorem c159 : Tryz.prog.cellsOf 159 = 1 := nrfl (by kernel_rfl)
@[go_sem] theorem by159 : Tryz.prog.bytesOf 159 = 1 := nrfl (by kernel_rfl)
@[go_sem] theorem z159 : zeroA Tryz.prog 159 = (.d (.int .u8 0)) := nrfl (by kernel_rfl)
@[go_sem] theorem c160 : Tryz.prog.cellsOf 160 = 1 := nrfl (by kernel_rfl)
@[go_sem] theorem by160 : Tryz.prog.bytesOf 160 = 1 := nrfl (by kernel_rfl)
@[go_sem] theorem z160 : zeroA Tryz.prog 160 = (.d (.int .u8 0)) := nrfl (by kernel_rfl)
@[go_sem] theorem c162 : Tryz.prog.cellsOf 162 = 1 := nrfl (by kernel_rfl)
@[go_sem] theorem by162 : Tryz.prog.bytesOf 162 = 4 := nrfl (by kernel_rfl)
@[go_sem] theorem z162 : zeroA Tryz.prog 162 = (.d (.int .i32 0)) := nrfl (by kernel_rfl)
@[go_sem] theorem c163 : Tryz.prog.cellsOf 163 = 1 := nrfl (by kernel_rfl)
@[go_sem] theorem by163 : Tryz.prog.bytesOf 163 = 4 := nrfl (by kernel_rfl)
@[go_sem] theorem z163 : zeroA Tryz.prog 163 = (.d (.int .i32 0)) := nrfl (by kernel_rfl)
@[go_sem] theorem c164 : Tryz.prog.cellsOf 164 = 11 := nrfl (by kernel_rfl)
@[go_sem] theorem by164 : Tryz.prog.bytesOf 164 = 48 := nrfl (by kernel_rfl)
@[go_sem] theorem z164 : zeroA Tryz.prog 164 = (.agg [(.d (.int .u64 0)), (.d (.int .u64 0)), (.d (.int .u32 0)), (.d (.int .u8 0)), (.d (.int .u8 0)), (.d (.int .u8 0)), (.d (.int .u8 0)), (.d .nilfunc), (.d .nilptr), (.d (.int .i32 0)), (.d (.int .i32 0))]) := nrfl (by kernel_rfl)
@[go_sem] theorem sp164 : structPlaces Tryz.prog 164 = some [(0, 1), (1, 1), (2, 1), (3, 1), (4, 1), (5, 1), (6, 1), (7, 1), (8, 1), (9, 1), (10, 1)] := nrfl (by kernel_rfl)
@[go_sem] theorem fo164_0 : fieldOff Tryz.prog 164 0 = some (0, 12) := by kernel_rfl
@[go_sem] theorem fo164_1 : fieldOff Tryz.prog 164 1 = some (1, 12) := by kernel_rfl
@[go_sem] theorem fo164_2 : fieldOff Tryz.prog 164 2 = some (2, 86) := by kernel_rfl
@[go_sem] theorem fo164_3 : fieldOff Tryz.prog 164 3 = some (3, 159) := by kernel_rfl
@[go_sem] theorem fo164_4 : fieldOff Tryz.prog 164 4 = some (4, 5) := by kernel_rfl
@[go_sem] theorem fo164_5 : fieldOff Tryz.prog 164 5 = some (5, 5) := by kernel_rfl
@[go_sem] theorem fo164_6 : fieldOff Tryz.prog 164 6 = some (6, 160) := by kernel_rfl
@[go_sem] theorem fo164_7 : fieldOff Tryz.prog 164 7 = some (7, 161) := by kernel_rfl
@[go_sem] theorem fo164_8 : fieldOff Tryz.prog 164 8 = some (8, 106) := by kernel_rfl
@[go_sem] theorem fo164_9 : fieldOff Tryz.prog 164 9 = some (9, 162) := by kernel_rfl
@[go_sem] theorem fo164_10 : fieldOff Tryz.prog 164 10 = some (10, 163) := by kernel_rfl
@[go_sem] theorem c165 : Tryz.prog.cellsOf 165 = 11 := nrfl (by kernel_rfl)
@[go_sem] theorem by165 : Tryz.prog.bytesOf 165 = 48 := nrfl (by kernel_rfl)
@[go_sem] theorem z165 : zeroA Tryz.prog 165 = (.agg [(.d (.int .u64 0)), (.d (.int .u64 0)), (.d (.int .u32 0)), (.d (.int .u8 0)), (.d (.int .u8 0)), (.d (.int .u8 0)), (.d (.int .u8 0)), (.d .nilfunc), (.d .nilptr), (.d (.int .i32 0)), (.d (.int .i32 0))]) := nrfl (by kernel_rfl)
@[go_sem] theorem sp165 : structPlaces Tryz.prog 165 = some [(0, 1), (1, 1), (2, 1), (3, 1), (4, 1), (5, 1), (6, 1), (7, 1), (8, 1), (9, 1), (10, 1)] := nrfl (by kernel_rfl)
@[go_sem] theorem fo165_0 : fieldOff Tryz.prog 165 0 = some (0, 12) := by kernel_rfl
@[go_sem] theorem fo165_1 : fieldOff Tryz.prog 165 1 = some (1, 12) := by kernel_rfl
@[go_sem] theorem fo165_2 : fieldOff Tryz.prog 165 2 = some (2, 86) := by kernel_rfl
@[go_sem] theorem fo165_3 : fieldOff Tryz.prog 165 3 = some (3, 159) := by kernel_rfl
@[go_sem] theorem fo165_4 : fieldOff Tryz.prog 165 4 = some (4, 5) := by kernel_rfl
@[go_sem] theorem fo165_5 : fieldOff Tryz.prog 165 5 = some (5, 5) := by kernel_rfl
@[go_sem] theorem fo165_6 : fieldOff Tryz.prog 165 6 = some (6, 160) := by kernel_rfl
@[go_sem] theorem fo165_7 : fieldOff Tryz.prog 165 7 = some (7, 161) := by kernel_rfl
@[go_sem] theorem fo165_8 : fieldOff Tryz.prog 165 8 = some (8, 106) := by kernel_rfl
@[go_sem] theorem fo165_9 : fieldOff Tryz.prog 165 9 = some (9, 162) := by kernel_rfl
@[go_sem] theorem fo165_10 : fieldOff Tryz.prog 165 10 = some (10, 163) := by kernel_rfl

theorem foll : Tryz.prog.follows .mixedOrders = true := by kernel_rfl
@[go_sem] theorem pf0 : plainFn Tryz.prog 0 = false := nrfl (by kernel_rfl)
@[go_sem] theorem pf1 : plainFn Tryz.prog 1 = false := nrfl (by kernel_rfl)
@[go_sem] theorem pf2 : plainFn Tryz.prog 2 = true := nrfl (by kernel_rfl)
@[go_sem] theorem pf3 : plainFn Tryz.prog 3 = true := nrfl (by kernel_rfl)
@[go_sem] theorem pf4 : plainFn Tryz.prog 4 = true := nrfl (by kernel_rfl)
@[go_sem] theorem pf5 : plainFn Tryz.prog 5 = true := nrfl (by kernel_rfl)
@[go_sem] theorem pf6 : plainFn Tryz.prog 6 = true := nrfl (by kernel_rfl)
@[go_sem] theorem pf7 : plainFn Tryz.prog 7 = true := nrfl (by kernel_rfl)
@[go_sem] theorem pf8 : plainFn Tryz.prog 8 = true := nrfl (by kernel_rfl)
@[go_sem] theorem pf9 : plainFn Tryz.prog 9 = true := nrfl (by kernel_rfl)
@[go_sem] theorem pf10 : plainFn Tryz.prog 10 = true := nrfl (by kernel_rfl)
@[go_sem] theorem pf11 : plainFn Tryz.prog 11 = true := nrfl (by kernel_rfl)
@[go_sem] theorem pf12 : plainFn Tryz.prog 12 = true := nrfl (by kernel_rfl)
@[go_sem] theorem pf13 : plainFn Tryz.prog 13 = true := nrfl (by kernel_rfl)
@[go_sem] theorem pf14 : plainFn Tryz.prog 14 = true := nrfl (by kernel_rfl)
@[go_sem] theorem pf15 : plainFn Tryz.prog 15 = true := nrfl (by kernel_rfl)
@[go_sem] theorem pf16 : plainFn Tryz.prog 16 = true := nrfl (by kernel_rfl)
@[go_sem] theorem pf17 : plainFn Tryz.prog 17 = true := nrfl (by kernel_rfl)
@[go_sem] theorem pf18 : plainFn Tryz.prog 18 = true := nrfl (by kernel_rfl)
@[go_sem] theorem pf19 : plainFn Tryz.prog 19 = true := nrfl (by kernel_rfl)
@[go_sem] theorem pf20 : plainFn Tryz.prog 20 = true := nrfl (by kernel_rfl)
@[go_sem] theorem pf21 : plainFn Tryz.prog 21 = true := nrfl (by kernel_rfl)
@[go_sem] theorem pf22 : plainFn Tryz.prog 22 = true := nrfl (by kernel_rfl)
@[go_sem] theorem pf23 : plainFn Tryz.prog 23 = true := nrfl (by kernel_rfl)
@[go_sem] theorem pf24 : plainFn Tryz.prog 24 = true := nrfl (by kernel_rfl)
@[go_sem] theorem pf25 : plainFn Tryz.prog 25 = true := nrfl (by kernel_rfl)
@[go_sem] theorem pf26 : plainFn Tryz.prog 26 = true := nrfl (by kernel_rfl)
@[go_sem] theorem pf27 : plainFn Tryz.prog 27 = true := nrfl (by kernel_rfl)
@[go_sem] theorem pf28 : plainFn Tryz.prog 28 = true := nrfl (by kernel_rfl)
@[go_sem] theorem pf29 : plainFn Tryz.prog 29 = true := nrfl (by kernel_rfl)
@[go_sem] theorem pf30 : plainFn Tryz.prog 30 = true := nrfl (by kernel_rfl)
@[go_sem] theorem pf31 : plainFn Tryz.prog 31 = true := nrfl (by kernel_rfl)
@[go_sem] theorem pf32 : plainFn Tryz.prog 32 = true := nrfl (by kernel_rfl)
@[go_sem] theorem pf33 : plainFn Tryz.prog 33 = true := nrfl (by kernel_rfl)
@[go_sem] theorem pf34 : plainFn Tryz.prog 34 = true := nrfl (by kernel_rfl)
@[go_sem] theorem pf35 : plainFn Tryz.prog 35 = true := nrfl (by kernel_rfl)
@[go_sem] theorem pf36 : plainFn Tryz.prog 36 = true := nrfl (by kernel_rfl)
@[go_sem] theorem pf37 : plainFn Tryz.prog 37 = true := nrfl (by kernel_rfl)
@[go_sem] theorem pf38 : plainFn Tryz.prog 38 = true := nrfl (by kernel_rfl)
@[go_sem] theorem pf39 : plainFn Tryz.prog 39 = true := nrfl (by kernel_rfl)
@[go_sem] theorem pf40 : plainFn Tryz.prog 40 = true := nrfl (by kernel_rfl)
@[go_sem] theorem pf41 : plainFn Tryz.prog 41 = true := nrfl (by kernel_rfl)
@[go_sem] theorem pf42 : plainFn Tryz.prog 42 = true := nrfl (by kernel_rfl)
@[go_sem] theorem pf43 : plainFn Tryz.prog 43 = true := nrfl (by kernel_rfl)
@[go_sem] theorem pf44 : plainFn Tryz.prog 44 = true := nrfl (by kernel_rfl)
@[go_sem] theorem pf45 : plainFn Tryz.prog 45 = true := nrfl (by kernel_rfl)
@[go_sem] theorem pf46 : plainFn Tryz.prog 46 = true := nrfl (by kernel_rfl)
@[go_sem] theorem pf47 : plainFn Tryz.prog 47 = true := nrfl (by kernel_rfl)
@[go_sem] theorem pf48 : plainFn Tryz.prog 48 = true := nrfl (by kernel_rfl)
@[go_sem] theorem pf49 : plainFn Tryz.prog 49 = true := nrfl (by kernel_rfl)
@[go_sem] theorem pf50 : plainFn Tryz.prog 50 = true := nrfl (by kernel_rfl)
@[go_sem] theorem pf51 : plainFn Tryz.prog 51 = true := nrfl (by kernel_rfl)
@[go_sem] theorem pf52 : plainFn Tryz.prog 52 = true := nrfl (by kernel_rfl)
@[go_sem] theorem pf53 : plainFn Tryz.prog 53 = true := nrfl (by kernel_rfl)
@[go_sem] theorem pf54 : plainFn Tryz.prog 54 = true := nrfl (by kernel_rfl)
@[go_sem] theorem pf55 : plainFn Tryz.prog 55 = true := nrfl (by kernel_rfl)
@[go_sem] theorem pf56 : plainFn Tryz.prog 56 = true := nrfl (by kernel_rfl)
@[go_sem] theorem pf57 : plainFn Tryz.prog 57 = true := nrfl (by kernel_rfl)
@[go_sem] theorem pf58 : plainFn Tryz.prog 58 = true := nrfl (by kernel_rfl)
@[go_sem] theorem pf59 : plainFn Tryz.prog 59 = true := nrfl (by kernel_rfl)
@[go_sem] theorem pf60 : plainFn Tryz.prog 60 = true := nrfl (by kernel_rfl)
@[go_sem] theorem pf61 : plainFn Tryz.prog 61 = true := nrfl (by kernel_rfl)
@[go_sem] theorem pf62 : plainFn Tryz.prog 62 = true := nrfl (by kernel_rfl)
@[go_sem] theorem pf63 : plainFn Tryz.prog 63 = true := nrfl (by kernel_rfl)
@[go_sem] theorem pf64 : plainFn Tryz.prog 64 = true := nrfl (by kernel_rfl)
@[go_sem] theorem pf65 : plainFn Tryz.prog 65 = true := nrfl (by kernel_rfl)
@[go_sem] theorem pf66 : plainFn Tryz.prog 66 = true := nrfl (by kernel_rfl)
@[go_sem] theorem pf67 : plainFn Tryz.prog 67 = true := nrfl (by kernel_rfl)
@[go_sem] theorem pf68 : plainFn Tryz.prog 68 = true := nrfl (by kernel_rfl)
@[go_sem] theorem pf69 : plainFn Tryz.prog 69 = true := nrfl (by kernel_rfl)
@[go_sem] theorem pf70 : plainFn Tryz.prog 70 = true := nrfl (by kernel_rfl)
@[go_sem] theorem pf71 : plainFn Tryz.prog 71 = true := nrfl (by kernel_rfl)
@[go_sem] theorem pf72 : plainFn Tryz.prog 72 = true := nrfl (by kernel_rfl)
@[go_sem] theorem pf73 : plainFn Tryz.prog 73 = true := nrfl (by kernel_rfl)
@[go_sem] theorem pf74 : plainFn Tryz.prog 74 = true := nrfl (by kernel_rfl)
@[go_sem] theorem pf75 : plainFn Tryz.prog 75 = true := nrfl (by kernel_rfl)
@[go_sem] theorem pf76 : plainFn Tryz.prog 76 = true := nrfl (by kernel_rfl)
@[go_sem] theorem pf77 : plainFn Tryz.prog 77 = true := nrfl (by kernel_rfl)
@[go_sem] theorem pf78 : plainFn Tryz.prog 78 = true := nrfl (by kernel_rfl)
@[go_sem] theorem pf79 : plainFn Tryz.prog 79 = true := nrfl (by kernel_rfl)
@[go_sem] theorem pf80 : plainFn Tryz.prog 80 = true := nrfl (by kernel_rfl)
@[go_sem] theorem pf81 : plainFn Tryz.prog 81 = false := nrfl (by kernel_rfl)
@[go_sem] theorem ne81 : NoEsc Tryz.prog 81 = True := eq_true ⟨Tryz.f81, Tryz.func81, by kernel_rfl, by kernel_rfl, by kernel_rfl, by kernel_rfl⟩
@[go_sem] theorem pf82 : plainFn Tryz.prog 82 = false := nrfl (by kernel_rfl)
@[go_sem] theorem pf83 : plainFn Tryz.prog 83 = true := nrfl (by kernel_rfl)
@[go_sem] theorem pf84 : plainFn Tryz.prog 84 = true := nrfl (by kernel_rfl)
@[go_sem] theorem pf85 : plainFn Tryz.prog 85 = true := nrfl (by kernel_rfl)
@[go_sem] theorem pf86 : plainFn Tryz.prog 86 = true := nrfl (by kernel_rfl)
@[go_sem] theorem pf87 : plainFn Tryz.prog 87 = true := nrfl (by kernel_rfl)
@[go_sem] theorem pf88 : plainFn Tryz.prog 88 = true := nrfl (by kernel_rfl)
@[go_sem] theorem pf89 : plainFn Tryz.prog 89 = true := nrfl (by kernel_rfl)
@[go_sem] theorem pf90 : plainFn Tryz.prog 90 = true := nrfl (by kernel_rfl)
@[go_sem] theorem pf91 : plainFn Tryz.prog 91 = true := nrfl (by kernel_rfl)
@[go_sem] theorem pf92 : plainFn Tryz.prog 92 = true := nrfl (by kernel_rfl)
@[go_sem] theorem pf93 : plainFn Tryz.prog 93 = true := nrfl (by kernel_rfl)
@[go_sem] theorem pf94 : plainFn Tryz.prog 94 = true := nrfl (by kernel_rfl)
@[go_sem] theorem pf95 : plainFn Tryz.prog 95 = true := nrfl (by kernel_rfl)
@[go_sem] theorem pf96 : plainFn Tryz.prog 96 = false := nrfl (by kernel_rfl)
@[go_sem] theorem pf97 : plainFn Tryz.prog 97 = true := nrfl (by kernel_rfl)
@[go_sem] theorem pf98 : plainFn Tryz.prog 98 = true := nrfl (by kernel_rfl)
@[go_sem] theorem pf99 : plainFn Tryz.prog 99 = true := nrfl (by kernel_rfl)
@[go_sem] theorem pf100 : plainFn Tryz.prog 100 = true := nrfl (by kernel_rfl)
@[go_sem] theorem pf101 : plainFn Tryz.prog 101 = true := nrfl (by kernel_rfl)
@[go_sem] theorem pf102 : plainFn Tryz.prog 102 = true := nrfl (by kernel_rfl)
@[go_sem] theorem pf103 : plainFn Tryz.prog 103 = true := nrfl (by kernel_rfl)
@[go_sem] theorem pf104 : plainFn Tryz.prog 104 = true := nrfl (by kernel_rfl)
@[go_sem] theorem pf105 : plainFn Tryz.prog 105 = true := nrfl (by kernel_rfl)
@[go_sem] theorem pf106 : plainFn Tryz.prog 106 = true := nrfl (by kernel_rfl)
@[go_sem] theorem pf107 : plainFn Tryz.prog 107 = false := nrfl (by kernel_rfl)
@[go_sem] theorem pf108 : plainFn Tryz.prog 108 = true := nrfl (by kernel_rfl)
@[go_sem] theorem pf109 : plainFn Tryz.prog 109 = true := nrfl (by kernel_rfl)
@[go_sem] theorem pf110 : plainFn Tryz.prog 110 = true := nrfl (by kernel_rfl)
@[go_sem] theorem pf111 : plainFn Tryz.prog 111 = true := nrfl (by kernel_rfl)
@[go_sem] theorem pf112 : plainFn Tryz.prog 112 = true := nrfl (by kernel_rfl)
@[go_sem] theorem pf113 : plainFn Tryz.prog 113 = true := nrfl (by kernel_rfl)
@[go_sem] theorem pf114 : plainFn Tryz.prog 114 = true := nrfl (by kernel_rfl)
@[go_sem] theorem pf115 : plainFn Tryz.prog 115 = true := nrfl (by kernel_rfl)
@[go_sem] theorem pf116 : plainFn Tryz.prog 116 = true := nrfl (by kernel_rfl)
@[go_sem] theorem pf117 : plainFn Tryz.prog 117 = true := nrfl (by kernel_rfl)
@[go_sem] theorem pf118 : plainFn Tryz.prog 118 = true := nrfl (by kernel_rfl)
@[go_sem] theorem pf119 : plainFn Tryz.prog 119 = true := nrfl (by kernel_rfl)
@[go_sem] theorem pf120 : plainFn Tryz.prog 120 = true := nrfl (by kernel_rfl)
@[go_sem] theorem pf121 : plainFn Tryz.prog 121 = true := nrfl (by kernel_rfl)
@[go_sem] theorem pf122 : plainFn Tryz.prog 122 = true := nrfl (by kernel_rfl)
@[go_sem] theorem pf123 : plainFn Tryz.prog 123 = true := nrfl (by kernel_rfl)
@[go_sem] theorem pf124 : plainFn Tryz.prog 124 = true := nrfl (by kernel_rfl)
@[go_sem] theorem pf125 : plainFn Tryz.prog 125 = true := nrfl (by kernel_rfl)
@[go_sem] theorem pf126 : plainFn Tryz.prog 126 = true := nrfl (by kernel_rfl)
@[go_sem] theorem pf127 : plainFn Tryz.prog 127 = true := nrfl (by kernel_rfl)
@[go_sem] theorem pf128 : plainFn Tryz.prog 128 = true := nrfl (by kernel_rfl)
@[go_sem] theorem pf129 : plainFn Tryz.prog 129 = false := nrfl (by kernel_rfl)
@[go_sem] theorem pf130 : plainFn Tryz.prog 130 = false := nrfl (by kernel_rfl)
@[go_sem] theorem pf131 : plainFn Tryz.prog 131 = false := nrfl (by kernel_rfl)
@[go_sem] theorem pf132 : plainFn Tryz.prog 132 = false := nrfl (by kernel_rfl)
@[go_sem] theorem pf133 : plainFn Tryz.prog 133 = false := nrfl (by kernel_rfl)
@[go_sem] theorem pf134 : plainFn Tryz.prog 134 = false := nrfl (by kernel_rfl)
@[go_sem] theorem pf135 : plainFn Tryz.prog 135 = false := nrfl (by kernel_rfl)
@[go_sem] theorem pf136 : plainFn Tryz.prog 136 = false := nrfl (by kernel_rfl)
@[go_sem] theorem pf137 : plainFn Tryz.prog 137 = false := nrfl (by kernel_rfl)
@[go_sem] theorem pf138 : plainFn Tryz.prog 138 = false := nrfl (by kernel_rfl)
@[go_sem] theorem pf139 : plainFn Tryz.prog 139 = false := nrfl (by kernel_rfl)
@[go_sem] theorem pf140 : plainFn Tryz.prog 140 = false := nrfl (by kernel_rfl)
@[go_sem] theorem pf141 : plainFn Tryz.prog 141 = false := nrfl (by kernel_rfl)
@[go_sem] theorem pf142 : plainFn Tryz.prog 142 = false := nrfl (by kernel_rfl)
@[go_sem] theorem pf143 : plainFn Tryz.prog 143 = false := nrfl (by kernel_rfl)
@[go_sem] theorem pf144 : plainFn Tryz.prog 144 = false := nrfl (by kernel_rfl)
@[go_sem] theorem pf145 : plainFn Tryz.prog 145 = false := nrfl (by kernel_rfl)
@[go_sem] theorem pf146 : plainFn Tryz.prog 146 = false := nrfl (by kernel_rfl)
@[go_sem] theorem pf147 : plainFn Tryz.prog 147 = false := nrfl (by kernel_rfl)
@[go_sem] theorem pf148 : plainFn Tryz.prog 148 = false := nrfl (by kernel_rfl)
@[go_sem] theorem pf149 : plainFn Tryz.prog 149 = false := nrfl (by kernel_rfl)
@[go_sem] theorem pf150 : plainFn Tryz.prog 150 = false := nrfl (by kernel_rfl)
@[go_sem] theorem pf151 : plainFn Tryz.prog 151 = false := nrfl (by kernel_rfl)
@[go_sem] theorem pf152 : plainFn Tryz.prog 152 = false := nrfl (by kernel_rfl)
@[go_sem] theorem pf153 : plainFn Tryz.prog 153 = true := nrfl (by kernel_rfl)

/-- narrator.narratorlaw31.PatternChoices -/
theorem fn4 : FnIs Tryz.prog 4 2 [Go.ResultVar.tmp 4] (.seq (.region [⟨some 4, Go.Op.assign (Go.Operand.const (Go.Value.bool false)), 4, none⟩])
    (.seq (.seq (.region [⟨some 10, Go.Op.move (Go.Operand.tmp 0), 23, none⟩,
      ⟨some 11, Go.Op.call { callee := Go.Callee.builtin Go.Builtin.len, args := #[Go.Operand.tmp 10], argTypes := #[23] }, 3, none⟩,
      ⟨some 12, Go.Op.binOp Go.BinOp.lss 3 (Go.Operand.tmp 11) (Go.Operand.const (Go.Value.int Go.IntKind.i64 2)) 3, 4, none⟩,
      ⟨some 13, Go.Op.move (Go.Operand.tmp 12), 4, none⟩,
      ⟨some 14, Go.Op.move (Go.Operand.tmp 0), 23, (some (13, false))⟩,
      ⟨some 15, Go.Op.call { callee := Go.Callee.builtin Go.Builtin.len, args := #[Go.Operand.tmp 14], argTypes := #[23] }, 3, (some (13, false))⟩,
      ⟨some 16, Go.Op.binOp Go.BinOp.gtr 3 (Go.Operand.tmp 15) (Go.Operand.const (Go.Value.int Go.IntKind.i64 8)) 3, 4, (some (13, false))⟩,
      ⟨some 17, Go.Op.pick (Go.Operand.tmp 13) (Go.Operand.const (Go.Value.bool true)) (Go.Operand.tmp 16), 4, none⟩])
    (.cond (Go.Operand.tmp 17)
      (.seq (.region [⟨some 18, Go.Op.call { callee := Go.Callee.value (Go.Operand.func 11), args := #[], argTypes := #[] }, 4, none⟩,
        ⟨some 4, Go.Op.assign (Go.Operand.tmp 18), 4, none⟩])
      .ret)
      .skip))
    (.seq (.region [⟨some 5, Go.Op.assign (Go.Operand.const (Go.Value.slice none 0 0)), 23, none⟩])
    (.seq (.region [⟨some 6, Go.Op.assign (Go.Operand.const (Go.Value.bool false)), 4, none⟩])
    (.seq (.seq (.region [⟨some 19, Go.Op.move (Go.Operand.tmp 0), 23, none⟩,
      ⟨some 20, Go.Op.call { callee := Go.Callee.builtin Go.Builtin.len, args := #[Go.Operand.tmp 19], argTypes := #[23] }, 3, none⟩,
      ⟨some 21, Go.Op.binOp Go.BinOp.sub 3 (Go.Operand.tmp 20) (Go.Operand.const (Go.Value.int Go.IntKind.i64 1)) 3, 3, none⟩,
      ⟨some 7, Go.Op.assign (Go.Operand.tmp 21), 3, none⟩])
    (.block 0
      (.loop
        (.seq (.seq (.region [⟨some 22, Go.Op.move (Go.Operand.tmp 7), 3, none⟩,
          ⟨some 23, Go.Op.binOp Go.BinOp.geq 3 (Go.Operand.tmp 22) (Go.Operand.const (Go.Value.int Go.IntKind.i64 0)) 3, 4, none⟩])
        (.cond (Go.Operand.tmp 23)
          .skip
          (.exit 0)))
        (.seq (.block 1
          (.seq (.seq (.region [⟨some 26, Go.Op.move (Go.Operand.tmp 0), 23, none⟩,
            ⟨some 27, Go.Op.move (Go.Operand.tmp 7), 3, none⟩,
            ⟨some 28, Go.Op.indexAddr 23 (Go.Operand.tmp 26) (Go.Operand.tmp 27), 0, none⟩,
            ⟨some 29, Go.Op.load 25 (Go.Operand.tmp 28), 25, none⟩,
            ⟨some 30, Go.Op.move (Go.Operand.tmp 1), 9, none⟩,
            ⟨some 31, Go.Op.call { callee := Go.Callee.value (Go.Operand.func 16), args := #[Go.Operand.tmp 29, Go.Operand.tmp 30], argTypes := #[25, 9] }, 4, none⟩,
            ⟨some 32, Go.Op.move (Go.Operand.tmp 31), 4, none⟩,
            ⟨some 33, Go.Op.move (Go.Operand.tmp 0), 23, (some (32, false))⟩,
            ⟨some 34, Go.Op.move (Go.Operand.tmp 7), 3, (some (32, false))⟩,
            ⟨some 35, Go.Op.indexAddr 23 (Go.Operand.tmp 33) (Go.Operand.tmp 34), 0, (some (32, false))⟩,
            ⟨some 36, Go.Op.load 25 (Go.Operand.tmp 35), 25, (some (32, false))⟩,
            ⟨some 37, Go.Op.call { callee := Go.Callee.value (Go.Operand.func 13), args := #[Go.Operand.tmp 36], argTypes := #[25] }, 28, (some (32, false))⟩,
            ⟨some 38, Go.Op.binOp Go.BinOp.neq 28 (Go.Operand.tmp 37) (Go.Operand.const (Go.Value.int Go.IntKind.i64 0)) 28, 4, (some (32, false))⟩,
            ⟨some 39, Go.Op.pick (Go.Operand.tmp 32) (Go.Operand.const (Go.Value.bool true)) (Go.Operand.tmp 38), 4, none⟩])
          (.cond (Go.Operand.tmp 39)
            (.seq (.region [⟨some 40, Go.Op.call { callee := Go.Callee.value (Go.Operand.func 11), args := #[], argTypes := #[] }, 4, none⟩,
              ⟨some 4, Go.Op.assign (Go.Operand.tmp 40), 4, none⟩])
            .ret)
            .skip))
          (.seq (.region [⟨some 41, Go.Op.move (Go.Operand.tmp 5), 23, none⟩,
            ⟨some 42, Go.Op.move (Go.Operand.tmp 0), 23, none⟩,
            ⟨some 43, Go.Op.move (Go.Operand.tmp 7), 3, none⟩,
            ⟨some 44, Go.Op.indexAddr 23 (Go.Operand.tmp 42) (Go.Operand.tmp 43), 0, none⟩,
            ⟨some 45, Go.Op.load 25 (Go.Operand.tmp 44), 25, none⟩,
            ⟨some 46, Go.Op.buildSlice 23 1 #[(0, Go.Operand.tmp 45)], 23, none⟩,
            ⟨some 47, Go.Op.call { callee := Go.Callee.builtin Go.Builtin.append, args := #[Go.Operand.tmp 41, Go.Operand.tmp 46], argTypes := #[23, 23] }, 23, none⟩,
            ⟨some 5, Go.Op.assign (Go.Operand.tmp 47), 23, none⟩])
          (.region [⟨some 48, Go.Op.move (Go.Operand.tmp 6), 4, none⟩,
            ⟨some 49, Go.Op.move (Go.Operand.tmp 48), 4, none⟩,
            ⟨some 50, Go.Op.move (Go.Operand.tmp 0), 23, (some (49, false))⟩,
            ⟨some 51, Go.Op.move (Go.Operand.tmp 7), 3, (some (49, false))⟩,
            ⟨some 52, Go.Op.indexAddr 23 (Go.Operand.tmp 50) (Go.Operand.tmp 51), 0, (some (49, false))⟩,
            ⟨some 53, Go.Op.load 25 (Go.Operand.tmp 52), 25, (some (49, false))⟩,
            ⟨some 54, Go.Op.move (Go.Operand.tmp 1), 9, (some (49, false))⟩,
            ⟨some 55, Go.Op.call { callee := Go.Callee.value (Go.Operand.func 17), args := #[Go.Operand.tmp 53, Go.Operand.tmp 54], argTypes := #[25, 9] }, 4, (some (49, false))⟩,
            ⟨some 56, Go.Op.pick (Go.Operand.tmp 49) (Go.Operand.const (Go.Value.bool true)) (Go.Operand.tmp 55), 4, none⟩,
            ⟨some 6, Go.Op.assign (Go.Operand.tmp 56), 4, none⟩]))))
        (.region [⟨some 24, Go.Op.move (Go.Operand.tmp 7), 3, none⟩,
          ⟨some 25, Go.Op.binOp Go.BinOp.sub 3 (Go.Operand.tmp 24) (Go.Operand.const (Go.Value.int Go.IntKind.i64 1)) 3, 3, none⟩,
          ⟨some 7, Go.Op.assign (Go.Operand.tmp 25), 3, none⟩]))))))
    (.seq (.region [⟨some 57, Go.Op.move (Go.Operand.tmp 0), 23, none⟩,
      ⟨some 58, Go.Op.build 25 #[(0, Go.Operand.const (Go.Value.int Go.IntKind.i64 4)), (2, Go.Operand.tmp 57)], 25, none⟩,
      ⟨some 59, Go.Op.move (Go.Operand.tmp 5), 23, none⟩,
      ⟨some 60, Go.Op.build 25 #[(0, Go.Operand.const (Go.Value.int Go.IntKind.i64 4)), (2, Go.Operand.tmp 59)], 25, none⟩,
      ⟨some 8, Go.Op.alloc 25, 0, none⟩,
      ⟨some 9, Go.Op.alloc 25, 0, none⟩,
      ⟨none, Go.Op.store 25 (Go.Operand.tmp 8) (Go.Operand.tmp 58), 0, none⟩,
      ⟨none, Go.Op.store 25 (Go.Operand.tmp 9) (Go.Operand.tmp 60), 0, none⟩])
    (.seq (.seq (.region [⟨some 61, Go.Op.load 25 (Go.Operand.tmp 8), 25, none⟩,
      ⟨some 62, Go.Op.call { callee := Go.Callee.value (Go.Operand.func 13), args := #[Go.Operand.tmp 61], argTypes := #[25] }, 28, none⟩,
      ⟨some 63, Go.Op.binOp Go.BinOp.neq 28 (Go.Operand.tmp 62) (Go.Operand.const (Go.Value.int Go.IntKind.i64 0)) 28, 4, none⟩])
    (.cond (Go.Operand.tmp 63)
      (.seq (.region [⟨some 64, Go.Op.call { callee := Go.Callee.value (Go.Operand.func 11), args := #[], argTypes := #[] }, 4, none⟩,
        ⟨some 4, Go.Op.assign (Go.Operand.tmp 64), 4, none⟩])
      .ret)
      .skip))
    (.seq (.region [⟨some 65, Go.Op.load 25 (Go.Operand.tmp 8), 25, none⟩,
      ⟨some 66, Go.Op.move (Go.Operand.tmp 1), 9, none⟩,
      ⟨some 67, Go.Op.call { callee := Go.Callee.value (Go.Operand.func 17), args := #[Go.Operand.tmp 65, Go.Operand.tmp 66], argTypes := #[25, 9] }, 4, none⟩,
      ⟨some 68, Go.Op.move (Go.Operand.tmp 6), 4, none⟩,
      ⟨some 69, Go.Op.binOp Go.BinOp.eql 4 (Go.Operand.tmp 67) (Go.Operand.tmp 68) 4, 4, none⟩,
      ⟨some 70, Go.Op.move (Go.Operand.tmp 69), 4, none⟩,
      ⟨some 71, Go.Op.load 25 (Go.Operand.tmp 9), 25, (some (70, true))⟩,
      ⟨some 72, Go.Op.move (Go.Operand.tmp 1), 9, (some (70, true))⟩,
      ⟨some 73, Go.Op.call { callee := Go.Callee.value (Go.Operand.func 17), args := #[Go.Operand.tmp 71, Go.Operand.tmp 72], argTypes := #[25, 9] }, 4, (some (70, true))⟩,
      ⟨some 74, Go.Op.move (Go.Operand.tmp 6), 4, (some (70, true))⟩,
      ⟨some 75, Go.Op.binOp Go.BinOp.eql 4 (Go.Operand.tmp 73) (Go.Operand.tmp 74) 4, 4, (some (70, true))⟩,
      ⟨some 76, Go.Op.pick (Go.Operand.tmp 70) (Go.Operand.tmp 75) (Go.Operand.const (Go.Value.bool false)), 4, none⟩,
      ⟨some 77, Go.Op.move (Go.Operand.tmp 76), 4, none⟩,
      ⟨some 78, Go.Op.call { callee := Go.Callee.value (Go.Operand.func 11), args := #[], argTypes := #[] }, 4, (some (77, true))⟩,
      ⟨some 79, Go.Op.pick (Go.Operand.tmp 77) (Go.Operand.tmp 78) (Go.Operand.const (Go.Value.bool false)), 4, none⟩,
      ⟨some 4, Go.Op.assign (Go.Operand.tmp 79), 4, none⟩])
    .ret)))))))) :=
  ⟨foll, Tryz.f4, Tryz.func4, by kernel_rfl, by kernel_rfl, by kernel_rfl, by rw [Tryz.ntmps4]; decide⟩

/-- narrator.narratorlaw31.PatternRepeats -/
theorem fn6 : FnIs Tryz.prog 6 4 [Go.ResultVar.tmp 8] (.seq (.region [⟨some 4, Go.Op.box 25 (Go.Operand.tmp 0), 0, none⟩,
      ⟨some 8, Go.Op.assign (Go.Operand.const (Go.Value.bool false)), 4, none⟩])
    (.seq (.region [⟨some 16, Go.Op.move (Go.Operand.tmp 1), 5, none⟩,
      ⟨some 17, Go.Op.convert 5 3 (Go.Operand.tmp 16), 3, none⟩,
      ⟨some 18, Go.Op.binOp Go.BinOp.rem 3 (Go.Operand.tmp 17) (Go.Operand.const (Go.Value.int Go.IntKind.i64 3)) 3, 3, none⟩,
      ⟨some 9, Go.Op.assign (Go.Operand.tmp 18), 3, none⟩])
    (.seq (.region [⟨some 19, Go.Op.move (Go.Operand.tmp 9), 3, none⟩,
      ⟨some 20, Go.Op.move (Go.Operand.tmp 2), 5, none⟩,
      ⟨some 21, Go.Op.convert 5 3 (Go.Operand.tmp 20), 3, none⟩,
      ⟨some 22, Go.Op.binOp Go.BinOp.rem 3 (Go.Operand.tmp 21) (Go.Operand.const (Go.Value.int Go.IntKind.i64 3)) 3, 3, none⟩,
      ⟨some 23, Go.Op.binOp Go.BinOp.add 3 (Go.Operand.tmp 19) (Go.Operand.tmp 22) 3, 3, none⟩,
      ⟨some 10, Go.Op.assign (Go.Operand.tmp 23), 3, none⟩])
    (.seq (.region [⟨some 24, Go.Op.load 25 (Go.Operand.tmp 4), 25, none⟩,
      ⟨some 25, Go.Op.buildSlice 23 1 #[(0, Go.Operand.tmp 24)], 23, none⟩,
      ⟨some 26, Go.Op.move (Go.Operand.tmp 9), 3, none⟩,
      ⟨some 27, Go.Op.move (Go.Operand.tmp 10), 3, none⟩,
      ⟨some 28, Go.Op.build 25 #[(0, Go.Operand.const (Go.Value.int Go.IntKind.i64 5)), (2, Go.Operand.tmp 25), (3, Go.Operand.tmp 26), (4, Go.Operand.tmp 27)], 25, none⟩,
      ⟨some 11, Go.Op.alloc 25, 0, none⟩,
      ⟨none, Go.Op.store 25 (Go.Operand.tmp 11) (Go.Operand.tmp 28), 0, none⟩])
    (.seq (.seq (.region [⟨some 29, Go.Op.load 25 (Go.Operand.tmp 11), 25, none⟩,
      ⟨some 30, Go.Op.move (Go.Operand.tmp 3), 9, none⟩,
      ⟨some 31, Go.Op.call { callee := Go.Callee.value (Go.Operand.func 16), args := #[Go.Operand.tmp 29, Go.Operand.tmp 30], argTypes := #[25, 9] }, 4, none⟩,
      ⟨some 32, Go.Op.move (Go.Operand.tmp 31), 4, none⟩,
      ⟨some 33, Go.Op.load 25 (Go.Operand.tmp 11), 25, (some (32, false))⟩,
      ⟨some 34, Go.Op.call { callee := Go.Callee.value (Go.Operand.func 13), args := #[Go.Operand.tmp 33], argTypes := #[25] }, 28, (some (32, false))⟩,
      ⟨some 35, Go.Op.binOp Go.BinOp.neq 28 (Go.Operand.tmp 34) (Go.Operand.const (Go.Value.int Go.IntKind.i64 0)) 28, 4, (some (32, false))⟩,
      ⟨some 36, Go.Op.pick (Go.Operand.tmp 32) (Go.Operand.const (Go.Value.bool true)) (Go.Operand.tmp 35), 4, none⟩])
    (.cond (Go.Operand.tmp 36)
      (.seq (.region [⟨some 37, Go.Op.call { callee := Go.Callee.value (Go.Operand.func 11), args := #[], argTypes := #[] }, 4, none⟩,
        ⟨some 8, Go.Op.assign (Go.Operand.tmp 37), 4, none⟩])
      .ret)
      .skip))
    (.seq (.region [⟨some 38, Go.Op.load 25 (Go.Operand.tmp 4), 25, none⟩,
      ⟨some 39, Go.Op.build 25 #[(0, Go.Operand.const (Go.Value.int Go.IntKind.i64 1))], 25, none⟩,
      ⟨some 40, Go.Op.buildSlice 23 2 #[(0, Go.Operand.tmp 38), (1, Go.Operand.tmp 39)], 23, none⟩,
      ⟨some 41, Go.Op.build 25 #[(0, Go.Operand.const (Go.Value.int Go.IntKind.i64 4)), (2, Go.Operand.tmp 40)], 25, none⟩,
      ⟨some 12, Go.Op.alloc 25, 0, none⟩,
      ⟨none, Go.Op.store 25 (Go.Operand.tmp 12) (Go.Operand.tmp 41), 0, none⟩])
    (.seq (.region [⟨some 42, Go.Op.build 25 #[(0, Go.Operand.const (Go.Value.int Go.IntKind.i64 1))], 25, none⟩,
      ⟨some 43, Go.Op.build 25 #[(0, Go.Operand.const (Go.Value.int Go.IntKind.i64 1))], 25, none⟩,
      ⟨some 44, Go.Op.buildSlice 23 2 #[(0, Go.Operand.tmp 42), (1, Go.Operand.tmp 43)], 23, none⟩,
      ⟨some 13, Go.Op.assign (Go.Operand.tmp 44), 23, none⟩])
    (.seq (.seq (.region [⟨some 14, Go.Op.assign (Go.Operand.const (Go.Value.int Go.IntKind.i64 0)), 3, none⟩])
    (.block 0
      (.loop
        (.seq (.seq (.region [⟨some 45, Go.Op.move (Go.Operand.tmp 14), 3, none⟩,
          ⟨some 46, Go.Op.move (Go.Operand.tmp 10), 3, none⟩,
          ⟨some 47, Go.Op.binOp Go.BinOp.lss 3 (Go.Operand.tmp 45) (Go.Operand.tmp 46) 3, 4, none⟩])
        (.cond (Go.Operand.tmp 47)
          .skip
          (.exit 0)))
        (.seq (.block 1
          (.seq (.region [⟨some 50, Go.Op.move (Go.Operand.tmp 14), 3, none⟩,
            ⟨some 51, Go.Op.move (Go.Operand.tmp 9), 3, none⟩,
            ⟨some 52, Go.Op.binOp Go.BinOp.lss 3 (Go.Operand.tmp 50) (Go.Operand.tmp 51) 3, 4, none⟩])
          (.cond (Go.Operand.tmp 52)
            (.region [⟨some 53, Go.Op.move (Go.Operand.tmp 13), 23, none⟩,
              ⟨some 54, Go.Op.load 25 (Go.Operand.tmp 4), 25, none⟩,
              ⟨some 55, Go.Op.buildSlice 23 1 #[(0, Go.Operand.tmp 54)], 23, none⟩,
              ⟨some 56, Go.Op.call { callee := Go.Callee.builtin Go.Builtin.append, args := #[Go.Operand.tmp 53, Go.Operand.tmp 55], argTypes := #[23, 23] }, 23, none⟩,
              ⟨some 13, Go.Op.assign (Go.Operand.tmp 56), 23, none⟩])
            (.region [⟨some 57, Go.Op.move (Go.Operand.tmp 13), 23, none⟩,
              ⟨some 58, Go.Op.load 25 (Go.Operand.tmp 12), 25, none⟩,
              ⟨some 59, Go.Op.buildSlice 23 1 #[(0, Go.Operand.tmp 58)], 23, none⟩,
              ⟨some 60, Go.Op.call { callee := Go.Callee.builtin Go.Builtin.append, args := #[Go.Operand.tmp 57, Go.Operand.tmp 59], argTypes := #[23, 23] }, 23, none⟩,
              ⟨some 13, Go.Op.assign (Go.Operand.tmp 60), 23, none⟩]))))
        (.region [⟨some 48, Go.Op.move (Go.Operand.tmp 14), 3, none⟩,
          ⟨some 49, Go.Op.binOp Go.BinOp.add 3 (Go.Operand.tmp 48) (Go.Operand.const (Go.Value.int Go.IntKind.i64 1)) 3, 3, none⟩,
          ⟨some 14, Go.Op.assign (Go.Operand.tmp 49), 3, none⟩]))))))
    (.seq (.region [⟨some 61, Go.Op.move (Go.Operand.tmp 13), 23, none⟩,
      ⟨some 62, Go.Op.build 25 #[(0, Go.Operand.const (Go.Value.int Go.IntKind.i64 3)), (2, Go.Operand.tmp 61)], 25, none⟩,
      ⟨some 15, Go.Op.alloc 25, 0, none⟩,
      ⟨none, Go.Op.store 25 (Go.Operand.tmp 15) (Go.Operand.tmp 62), 0, none⟩])
    (.seq (.seq (.region [⟨some 63, Go.Op.load 25 (Go.Operand.tmp 15), 25, none⟩,
      ⟨some 64, Go.Op.call { callee := Go.Callee.value (Go.Operand.func 13), args := #[Go.Operand.tmp 63], argTypes := #[25] }, 28, none⟩,
      ⟨some 65, Go.Op.binOp Go.BinOp.neq 28 (Go.Operand.tmp 64) (Go.Operand.const (Go.Value.int Go.IntKind.i64 0)) 28, 4, none⟩])
    (.cond (Go.Operand.tmp 65)
      (.seq (.region [⟨some 66, Go.Op.call { callee := Go.Callee.value (Go.Operand.func 11), args := #[], argTypes := #[] }, 4, none⟩,
        ⟨some 8, Go.Op.assign (Go.Operand.tmp 66), 4, none⟩])
      .ret)
      .skip))
    (.seq (.draw [⟨⟨some 67, Go.Op.load 25 (Go.Operand.tmp 11), 25, none⟩, false, false, false⟩,
      ⟨⟨some 68, Go.Op.move (Go.Operand.tmp 3), 9, none⟩, false, false, false⟩,
      ⟨⟨some 69, Go.Op.call { callee := Go.Callee.value (Go.Operand.func 17), args := #[Go.Operand.tmp 67, Go.Operand.tmp 68], argTypes := #[25, 9] }, 4, none⟩, false, false, false⟩,
      ⟨⟨some 70, Go.Op.load 25 (Go.Operand.tmp 15), 25, none⟩, false, false, false⟩,
      ⟨⟨some 71, Go.Op.move (Go.Operand.tmp 3), 9, none⟩, false, false, false⟩,
      ⟨⟨some 72, Go.Op.call { callee := Go.Callee.value (Go.Operand.func 17), args := #[Go.Operand.tmp 70, Go.Operand.tmp 71], argTypes := #[25, 9] }, 4, none⟩, false, false, false⟩,
      ⟨⟨some 73, Go.Op.binOp Go.BinOp.eql 4 (Go.Operand.tmp 69) (Go.Operand.tmp 72) 4, 4, none⟩, false, false, false⟩,
      ⟨⟨some 74, Go.Op.move (Go.Operand.tmp 73), 4, none⟩, false, false, false⟩,
      ⟨⟨some 75, Go.Op.call { callee := Go.Callee.value (Go.Operand.func 11), args := #[], argTypes := #[] }, 4, (some (74, true))⟩, false, false, false⟩,
      ⟨⟨some 76, Go.Op.pick (Go.Operand.tmp 74) (Go.Operand.tmp 75) (Go.Operand.const (Go.Value.bool false)), 4, none⟩, false, false, false⟩,
      ⟨⟨some 8, Go.Op.assign (Go.Operand.tmp 76), 4, none⟩, false, false, false⟩])
    .ret))))))))))) :=
  ⟨foll, Tryz.f6, Tryz.func6, by kernel_rfl, by kernel_rfl, by kernel_rfl, by rw [Tryz.ntmps6]; decide⟩

/-- narrator.narratorref31.Great -/
theorem fn10 : FnIs Tryz.prog 10 1 [Go.ResultVar.tmp 2] (.seq (.region [⟨some 1, Go.Op.box 25 (Go.Operand.tmp 0), 0, none⟩,
      ⟨some 2, Go.Op.assign (Go.Operand.const (Go.Value.bool false)), 4, none⟩])
    (.seq (.region [⟨some 3, Go.Op.load 25 (Go.Operand.tmp 1), 25, none⟩,
      ⟨some 4, Go.Op.call { callee := Go.Callee.value (Go.Operand.func 22), args := #[Go.Operand.tmp 3, Go.Operand.const (Go.Value.int Go.IntKind.i64 300)], argTypes := #[25, 3] }, 3, none⟩,
      ⟨some 5, Go.Op.binOp Go.BinOp.gtr 3 (Go.Operand.tmp 4) (Go.Operand.const (Go.Value.int Go.IntKind.i64 200)) 3, 4, none⟩,
      ⟨some 6, Go.Op.move (Go.Operand.tmp 5), 4, none⟩,
      ⟨some 7, Go.Op.load 25 (Go.Operand.tmp 1), 25, (some (6, false))⟩,
      ⟨some 8, Go.Op.call { callee := Go.Callee.value (Go.Operand.func 23), args := #[Go.Operand.tmp 7], argTypes := #[25] }, 4, (some (6, false))⟩,
      ⟨some 9, Go.Op.pick (Go.Operand.tmp 6) (Go.Operand.const (Go.Value.bool true)) (Go.Operand.tmp 8), 4, none⟩,
      ⟨some 2, Go.Op.assign (Go.Operand.tmp 9), 4, none⟩])
    .ret)) :=
  ⟨foll, Tryz.f10, Tryz.func10, by kernel_rfl, by kernel_rfl, by kernel_rfl, by rw [Tryz.ntmps10]; decide⟩

/-- narrator.pattern.Check -/
theorem fn13 : FnIs Tryz.prog 13 1 [Go.ResultVar.tmp 2] (.seq (.region [⟨some 1, Go.Op.box 25 (Go.Operand.tmp 0), 0, none⟩,
      ⟨some 2, Go.Op.assign (Go.Operand.const (Go.Value.int Go.IntKind.i64 0)), 28, none⟩])
    (.seq (.seq (.region [⟨some 3, Go.Op.load 25 (Go.Operand.tmp 1), 25, none⟩,
      ⟨some 4, Go.Op.call { callee := Go.Callee.value (Go.Operand.func 25), args := #[Go.Operand.tmp 3, Go.Operand.const (Go.Value.int Go.IntKind.i64 120)], argTypes := #[25, 3] }, 3, none⟩,
      ⟨some 5, Go.Op.binOp Go.BinOp.gtr 3 (Go.Operand.tmp 4) (Go.Operand.const (Go.Value.int Go.IntKind.i64 120)) 3, 4, none⟩])
    (.cond (Go.Operand.tmp 5)
      (.seq (.region [⟨some 2, Go.Op.assign (Go.Operand.const (Go.Value.int Go.IntKind.i64 5)), 28, none⟩])
      .ret)
      .skip))
    (.seq (.region [⟨some 6, Go.Op.load 25 (Go.Operand.tmp 1), 25, none⟩,
      ⟨some 7, Go.Op.call { callee := Go.Callee.value (Go.Operand.func 26), args := #[Go.Operand.tmp 6], argTypes := #[25] }, 28, none⟩,
      ⟨some 2, Go.Op.assign (Go.Operand.tmp 7), 28, none⟩])
    .ret))) :=
  ⟨foll, Tryz.f13, Tryz.func13, by kernel_rfl, by kernel_rfl, by kernel_rfl, by rw [Tryz.ntmps13]; decide⟩

/-- narrator.narratorlaw31.heavy -/
theorem fn16 : FnIs Tryz.prog 16 2 [Go.ResultVar.tmp 4] (.seq (.region [⟨some 2, Go.Op.box 25 (Go.Operand.tmp 0), 0, none⟩,
      ⟨some 4, Go.Op.assign (Go.Operand.const (Go.Value.bool false)), 4, none⟩])
    (.seq (.region [⟨some 5, Go.Op.load 25 (Go.Operand.tmp 2), 25, none⟩,
      ⟨some 6, Go.Op.call { callee := Go.Callee.value (Go.Operand.func 10), args := #[Go.Operand.tmp 5], argTypes := #[25] }, 4, none⟩,
      ⟨some 7, Go.Op.move (Go.Operand.tmp 6), 4, none⟩,
      ⟨some 8, Go.Op.load 25 (Go.Operand.tmp 2), 25, (some (7, false))⟩,
      ⟨some 9, Go.Op.call { callee := Go.Callee.value (Go.Operand.func 30), args := #[Go.Operand.tmp 8], argTypes := #[25] }, 3, (some (7, false))⟩,
      ⟨some 10, Go.Op.binOp Go.BinOp.gtr 3 (Go.Operand.tmp 9) (Go.Operand.const (Go.Value.int Go.IntKind.i64 3000)) 3, 4, (some (7, false))⟩,
      ⟨some 11, Go.Op.pick (Go.Operand.tmp 7) (Go.Operand.const (Go.Value.bool true)) (Go.Operand.tmp 10), 4, none⟩,
      ⟨some 12, Go.Op.move (Go.Operand.tmp 11), 4, none⟩,
      ⟨some 13, Go.Op.move (Go.Operand.tmp 1), 9, (some (12, false))⟩,
      ⟨some 14, Go.Op.call { callee := Go.Callee.builtin Go.Builtin.len, args := #[Go.Operand.tmp 13], argTypes := #[9] }, 3, (some (12, false))⟩,
      ⟨some 15, Go.Op.binOp Go.BinOp.gtr 3 (Go.Operand.tmp 14) (Go.Operand.const (Go.Value.int Go.IntKind.i64 40)) 3, 4, (some (12, false))⟩,
      ⟨some 16, Go.Op.pick (Go.Operand.tmp 12) (Go.Operand.const (Go.Value.bool true)) (Go.Operand.tmp 15), 4, none⟩,
      ⟨some 4, Go.Op.assign (Go.Operand.tmp 16), 4, none⟩])
    .ret)) :=
  ⟨foll, Tryz.f16, Tryz.func16, by kernel_rfl, by kernel_rfl, by kernel_rfl, by rw [Tryz.ntmps16]; decide⟩

/-- narrator.pattern.Match -/
theorem fn17 : FnIs Tryz.prog 17 2 [Go.ResultVar.tmp 4] (.seq (.region [⟨some 2, Go.Op.box 25 (Go.Operand.tmp 0), 0, none⟩,
      ⟨some 4, Go.Op.assign (Go.Operand.const (Go.Value.bool false)), 4, none⟩])
    (.seq (.seq (.region [⟨some 8, Go.Op.load 25 (Go.Operand.tmp 2), 25, none⟩,
      ⟨some 9, Go.Op.call { callee := Go.Callee.value (Go.Operand.func 13), args := #[Go.Operand.tmp 8], argTypes := #[25] }, 28, none⟩,
      ⟨some 10, Go.Op.binOp Go.BinOp.neq 28 (Go.Operand.tmp 9) (Go.Operand.const (Go.Value.int Go.IntKind.i64 0)) 28, 4, none⟩])
    (.cond (Go.Operand.tmp 10)
      (.seq (.region [⟨some 4, Go.Op.assign (Go.Operand.const (Go.Value.bool false)), 4, none⟩])
      .ret)
      .skip))
    (.seq (.region [⟨some 12, Go.Op.move (Go.Operand.tmp 1), 9, none⟩,
      ⟨some 13, Go.Op.call { callee := Go.Callee.value (Go.Operand.func 31), args := #[Go.Operand.const (Go.Value.string { data := #[] }), Go.Operand.tmp 12], argTypes := #[9, 9] }, 57, none⟩,
      ⟨some 11, Go.Op.move (Go.Operand.tmp 13), 57, none⟩,
      ⟨some 14, Go.Op.extract (Go.Operand.tmp 11) 0, 42, none⟩,
      ⟨some 15, Go.Op.extract (Go.Operand.tmp 11) 1, 9, none⟩,
      ⟨some 5, Go.Op.assign (Go.Operand.tmp 14), 42, none⟩,
      ⟨some 6, Go.Op.assign (Go.Operand.tmp 15), 9, none⟩])
    (.seq (.region [⟨some 16, Go.Op.move (Go.Operand.tmp 5), 42, none⟩,
      ⟨some 17, Go.Op.move (Go.Operand.tmp 6), 9, none⟩,
      ⟨some 18, Go.Op.call { callee := Go.Callee.value (Go.Operand.func 32), args := #[Go.Operand.tmp 17], argTypes := #[9] }, 42, none⟩,
      ⟨some 19, Go.Op.call { callee := Go.Callee.builtin Go.Builtin.append, args := #[Go.Operand.tmp 16, Go.Operand.tmp 18], argTypes := #[42, 42] }, 42, none⟩,
      ⟨some 5, Go.Op.assign (Go.Operand.tmp 19), 42, none⟩])
    (.seq (.region [⟨some 20, Go.Op.move (Go.Operand.tmp 5), 42, none⟩,
      ⟨some 21, Go.Op.call { callee := Go.Callee.builtin Go.Builtin.len, args := #[Go.Operand.tmp 20], argTypes := #[42] }, 3, none⟩,
      ⟨some 22, Go.Op.binOp Go.BinOp.add 3 (Go.Operand.tmp 21) (Go.Operand.const (Go.Value.int Go.IntKind.i64 1)) 3, 3, none⟩,
      ⟨some 23, Go.Op.makeSlice 60 (Go.Operand.tmp 22) (Go.Operand.tmp 22), 60, none⟩,
      ⟨some 7, Go.Op.assign (Go.Operand.tmp 23), 60, none⟩])
    (.seq (.region [⟨some 24, Go.Op.move (Go.Operand.tmp 7), 60, none⟩,
      ⟨some 25, Go.Op.indexAddr 60 (Go.Operand.tmp 24) (Go.Operand.const (Go.Value.int Go.IntKind.i64 0)), 0, none⟩,
      ⟨none, Go.Op.store 4 (Go.Operand.tmp 25) (Go.Operand.const (Go.Value.bool true)), 0, none⟩])
    (.seq (.region [⟨some 26, Go.Op.load 25 (Go.Operand.tmp 2), 25, none⟩,
      ⟨some 27, Go.Op.move (Go.Operand.tmp 5), 42, none⟩,
      ⟨some 28, Go.Op.move (Go.Operand.tmp 7), 60, none⟩,
      ⟨some 29, Go.Op.call { callee := Go.Callee.value (Go.Operand.func 33), args := #[Go.Operand.tmp 26, Go.Operand.tmp 27, Go.Operand.tmp 28], argTypes := #[25, 42, 60] }, 60, none⟩,
      ⟨some 30, Go.Op.move (Go.Operand.tmp 5), 42, none⟩,
      ⟨some 31, Go.Op.call { callee := Go.Callee.builtin Go.Builtin.len, args := #[Go.Operand.tmp 30], argTypes := #[42] }, 3, none⟩,
      ⟨some 32, Go.Op.indexAddr 60 (Go.Operand.tmp 29) (Go.Operand.tmp 31), 0, none⟩,
      ⟨some 33, Go.Op.load 4 (Go.Operand.tmp 32), 4, none⟩,
      ⟨some 4, Go.Op.assign (Go.Operand.tmp 33), 4, none⟩])
    .ret))))))) :=
  ⟨foll, Tryz.f17, Tryz.func17, by kernel_rfl, by kernel_rfl, by kernel_rfl, by rw [Tryz.ntmps17]; decide⟩

/-- narrator.pattern.Nullable -/
theorem fn20 : FnIs Tryz.prog 20 1 [Go.ResultVar.tmp 2] (.seq (.region [⟨some 1, Go.Op.box 25 (Go.Operand.tmp 0), 0, none⟩,
      ⟨some 2, Go.Op.assign (Go.Operand.const (Go.Value.bool false)), 4, none⟩])
    (.seq (.region [⟨some 3, Go.Op.load 25 (Go.Operand.tmp 1), 25, none⟩,
      ⟨some 4, Go.Op.call { callee := Go.Callee.value (Go.Operand.func 17), args := #[Go.Operand.tmp 3, Go.Operand.const (Go.Value.string { data := #[] })], argTypes := #[25, 9] }, 4, none⟩,
      ⟨some 2, Go.Op.assign (Go.Operand.tmp 4), 4, none⟩])
    .ret)) :=
  ⟨foll, Tryz.f20, Tryz.func20, by kernel_rfl, by kernel_rfl, by kernel_rfl, by rw [Tryz.ntmps20]; decide⟩

/-- narrator.narratorref31.Count -/
theorem fn22 : FnIs Tryz.prog 22 2 [Go.ResultVar.tmp 4] (.seq (.region [⟨some 2, Go.Op.box 25 (Go.Operand.tmp 0), 0, none⟩,
      ⟨some 4, Go.Op.assign (Go.Operand.const (Go.Value.int Go.IntKind.i64 0)), 3, none⟩])
    (.seq (.region [⟨some 5, Go.Op.assign (Go.Operand.const (Go.Value.int Go.IntKind.i64 1)), 3, none⟩])
    (.seq (.seq (.region [⟨some 6, Go.Op.assign (Go.Operand.const (Go.Value.int Go.IntKind.i64 0)), 3, none⟩])
    (.block 0
      (.loop
        (.seq (.seq (.region [⟨some 7, Go.Op.move (Go.Operand.tmp 6), 3, none⟩,
          ⟨some 8, Go.Op.fieldAddr 25 (Go.Operand.tmp 2) 2, 0, none⟩,
          ⟨some 9, Go.Op.load 23 (Go.Operand.tmp 8), 23, none⟩,
          ⟨some 10, Go.Op.call { callee := Go.Callee.builtin Go.Builtin.len, args := #[Go.Operand.tmp 9], argTypes := #[23] }, 3, none⟩,
          ⟨some 11, Go.Op.binOp Go.BinOp.lss 3 (Go.Operand.tmp 7) (Go.Operand.tmp 10) 3, 4, none⟩,
          ⟨some 12, Go.Op.move (Go.Operand.tmp 11), 4, none⟩,
          ⟨some 13, Go.Op.move (Go.Operand.tmp 5), 3, (some (12, true))⟩,
          ⟨some 14, Go.Op.move (Go.Operand.tmp 1), 3, (some (12, true))⟩,
          ⟨some 15, Go.Op.binOp Go.BinOp.lss 3 (Go.Operand.tmp 13) (Go.Operand.tmp 14) 3, 4, (some (12, true))⟩,
          ⟨some 16, Go.Op.pick (Go.Operand.tmp 12) (Go.Operand.tmp 15) (Go.Operand.const (Go.Value.bool false)), 4, none⟩])
        (.cond (Go.Operand.tmp 16)
          .skip
          (.exit 0)))
        (.seq (.block 1
          (.region [⟨some 19, Go.Op.move (Go.Operand.tmp 5), 3, none⟩,
            ⟨some 20, Go.Op.fieldAddr 25 (Go.Operand.tmp 2) 2, 0, none⟩,
            ⟨some 21, Go.Op.load 23 (Go.Operand.tmp 20), 23, none⟩,
            ⟨some 22, Go.Op.move (Go.Operand.tmp 6), 3, none⟩,
            ⟨some 23, Go.Op.indexAddr 23 (Go.Operand.tmp 21) (Go.Operand.tmp 22), 0, none⟩,
            ⟨some 24, Go.Op.load 25 (Go.Operand.tmp 23), 25, none⟩,
            ⟨some 25, Go.Op.move (Go.Operand.tmp 1), 3, none⟩,
            ⟨some 26, Go.Op.move (Go.Operand.tmp 5), 3, none⟩,
            ⟨some 27, Go.Op.binOp Go.BinOp.sub 3 (Go.Operand.tmp 25) (Go.Operand.tmp 26) 3, 3, none⟩,
            ⟨some 28, Go.Op.call { callee := Go.Callee.value (Go.Operand.func 22), args := #[Go.Operand.tmp 24, Go.Operand.tmp 27], argTypes := #[25, 3] }, 3, none⟩,
            ⟨some 29, Go.Op.binOp Go.BinOp.add 3 (Go.Operand.tmp 19) (Go.Operand.tmp 28) 3, 3, none⟩,
            ⟨some 5, Go.Op.assign (Go.Operand.tmp 29), 3, none⟩]))
        (.region [⟨some 17, Go.Op.move (Go.Operand.tmp 6), 3, none⟩,
          ⟨some 18, Go.Op.binOp Go.BinOp.add 3 (Go.Operand.tmp 17) (Go.Operand.const (Go.Value.int Go.IntKind.i64 1)) 3, 3, none⟩,
          ⟨some 6, Go.Op.assign (Go.Operand.tmp 18), 3, none⟩]))))))
    (.seq (.region [⟨some 30, Go.Op.move (Go.Operand.tmp 5), 3, none⟩,
      ⟨some 4, Go.Op.assign (Go.Operand.tmp 30), 3, none⟩])
    .ret)))) :=
  ⟨foll, Tryz.f22, Tryz.func22, by kernel_rfl, by kernel_rfl, by kernel_rfl, by rw [Tryz.ntmps22]; decide⟩

/-- narrator.narratorref31.Wide -/
theorem fn23 : FnIs Tryz.prog 23 1 [Go.ResultVar.tmp 2] (.seq (.region [⟨some 1, Go.Op.box 25 (Go.Operand.tmp 0), 0, none⟩,
      ⟨some 2, Go.Op.assign (Go.Operand.const (Go.Value.bool false)), 4, none⟩])
    (.seq (.seq (.region [⟨some 4, Go.Op.fieldAddr 25 (Go.Operand.tmp 1) 1, 0, none⟩,
      ⟨some 5, Go.Op.load 22 (Go.Operand.tmp 4), 22, none⟩,
      ⟨some 6, Go.Op.call { callee := Go.Callee.builtin Go.Builtin.len, args := #[Go.Operand.tmp 5], argTypes := #[22] }, 3, none⟩,
      ⟨some 7, Go.Op.binOp Go.BinOp.gtr 3 (Go.Operand.tmp 6) (Go.Operand.const (Go.Value.int Go.IntKind.i64 60)) 3, 4, none⟩])
    (.cond (Go.Operand.tmp 7)
      (.seq (.region [⟨some 2, Go.Op.assign (Go.Operand.const (Go.Value.bool true)), 4, none⟩])
      .ret)
      .skip))
    (.seq (.seq (.region [⟨some 3, Go.Op.assign (Go.Operand.const (Go.Value.int Go.IntKind.i64 0)), 3, none⟩])
    (.block 0
      (.loop
        (.seq (.seq (.region [⟨some 8, Go.Op.move (Go.Operand.tmp 3), 3, none⟩,
          ⟨some 9, Go.Op.fieldAddr 25 (Go.Operand.tmp 1) 2, 0, none⟩,
          ⟨some 10, Go.Op.load 23 (Go.Operand.tmp 9), 23, none⟩,
          ⟨some 11, Go.Op.call { callee := Go.Callee.builtin Go.Builtin.len, args := #[Go.Operand.tmp 10], argTypes := #[23] }, 3, none⟩,
          ⟨some 12, Go.Op.binOp Go.BinOp.lss 3 (Go.Operand.tmp 8) (Go.Operand.tmp 11) 3, 4, none⟩])
        (.cond (Go.Operand.tmp 12)
          .skip
          (.exit 0)))
        (.seq (.block 1
          (.seq (.region [⟨some 15, Go.Op.fieldAddr 25 (Go.Operand.tmp 1) 2, 0, none⟩,
            ⟨some 16, Go.Op.load 23 (Go.Operand.tmp 15), 23, none⟩,
            ⟨some 17, Go.Op.move (Go.Operand.tmp 3), 3, none⟩,
            ⟨some 18, Go.Op.indexAddr 23 (Go.Operand.tmp 16) (Go.Operand.tmp 17), 0, none⟩,
            ⟨some 19, Go.Op.load 25 (Go.Operand.tmp 18), 25, none⟩,
            ⟨some 20, Go.Op.call { callee := Go.Callee.value (Go.Operand.func 23), args := #[Go.Operand.tmp 19], argTypes := #[25] }, 4, none⟩])
          (.cond (Go.Operand.tmp 20)
            (.seq (.region [⟨some 2, Go.Op.assign (Go.Operand.const (Go.Value.bool true)), 4, none⟩])
            .ret)
            .skip)))
        (.region [⟨some 13, Go.Op.move (Go.Operand.tmp 3), 3, none⟩,
          ⟨some 14, Go.Op.binOp Go.BinOp.add 3 (Go.Operand.tmp 13) (Go.Operand.const (Go.Value.int Go.IntKind.i64 1)) 3, 3, none⟩,
          ⟨some 3, Go.Op.assign (Go.Operand.tmp 14), 3, none⟩]))))))
    (.seq (.region [⟨some 2, Go.Op.assign (Go.Operand.const (Go.Value.bool false)), 4, none⟩])
    .ret)))) :=
  ⟨foll, Tryz.f23, Tryz.func23, by kernel_rfl, by kernel_rfl, by kernel_rfl, by rw [Tryz.ntmps23]; decide⟩

/-- narrator.pattern.count -/
theorem fn25 : FnIs Tryz.prog 25 2 [Go.ResultVar.tmp 4] (.seq (.region [⟨some 2, Go.Op.box 25 (Go.Operand.tmp 0), 0, none⟩,
      ⟨some 4, Go.Op.assign (Go.Operand.const (Go.Value.int Go.IntKind.i64 0)), 3, none⟩])
    (.seq (.region [⟨some 5, Go.Op.assign (Go.Operand.const (Go.Value.int Go.IntKind.i64 1)), 3, none⟩])
    (.seq (.seq (.region [⟨some 8, Go.Op.fieldAddr 25 (Go.Operand.tmp 2) 2, 0, none⟩,
      ⟨some 9, Go.Op.load 23 (Go.Operand.tmp 8), 23, none⟩,
      ⟨some 10, Go.Op.call { callee := Go.Callee.builtin Go.Builtin.len, args := #[Go.Operand.tmp 9], argTypes := #[23] }, 3, none⟩,
      ⟨some 11, Go.Op.move (Go.Operand.const (Go.Value.int Go.IntKind.i64 0)), 3, none⟩])
    (.block 0
      (.loop
        (.seq (.region [⟨some 12, Go.Op.binOp Go.BinOp.lss 3 (Go.Operand.tmp 11) (Go.Operand.tmp 10) 3, 0, none⟩])
        (.seq (.cond (Go.Operand.tmp 12)
          .skip
          (.exit 0))
        (.seq (.block 1
          (.seq (.region [⟨some 13, Go.Op.indexAddr 23 (Go.Operand.tmp 9) (Go.Operand.tmp 11), 0, none⟩,
            ⟨some 14, Go.Op.load 25 (Go.Operand.tmp 13), 25, none⟩,
            ⟨some 7, Go.Op.alloc 25, 0, none⟩,
            ⟨none, Go.Op.store 25 (Go.Operand.tmp 7) (Go.Operand.tmp 14), 0, none⟩])
          (.seq (.seq (.region [⟨some 15, Go.Op.move (Go.Operand.tmp 5), 3, none⟩,
            ⟨some 16, Go.Op.move (Go.Operand.tmp 1), 3, none⟩,
            ⟨some 17, Go.Op.binOp Go.BinOp.gtr 3 (Go.Operand.tmp 15) (Go.Operand.tmp 16) 3, 4, none⟩])
          (.cond (Go.Operand.tmp 17)
            (.exit 0)
            .skip))
          (.region [⟨some 18, Go.Op.move (Go.Operand.tmp 5), 3, none⟩,
            ⟨some 19, Go.Op.load 25 (Go.Operand.tmp 7), 25, none⟩,
            ⟨some 20, Go.Op.move (Go.Operand.tmp 1), 3, none⟩,
            ⟨some 21, Go.Op.move (Go.Operand.tmp 5), 3, none⟩,
            ⟨some 22, Go.Op.binOp Go.BinOp.sub 3 (Go.Operand.tmp 20) (Go.Operand.tmp 21) 3, 3, none⟩,
            ⟨some 23, Go.Op.call { callee := Go.Callee.value (Go.Operand.func 25), args := #[Go.Operand.tmp 19, Go.Operand.tmp 22], argTypes := #[25, 3] }, 3, none⟩,
            ⟨some 24, Go.Op.binOp Go.BinOp.add 3 (Go.Operand.tmp 18) (Go.Operand.tmp 23) 3, 3, none⟩,
            ⟨some 5, Go.Op.assign (Go.Operand.tmp 24), 3, none⟩]))))
        (.region [⟨some 25, Go.Op.binOp Go.BinOp.add 3 (Go.Operand.tmp 11) (Go.Operand.const (Go.Value.int Go.IntKind.i64 1)) 3, 3, none⟩,
          ⟨some 11, Go.Op.move (Go.Operand.tmp 25), 3, none⟩])))))))
    (.seq (.region [⟨some 26, Go.Op.move (Go.Operand.tmp 5), 3, none⟩,
      ⟨some 4, Go.Op.assign (Go.Operand.tmp 26), 3, none⟩])
    .ret)))) :=
  ⟨foll, Tryz.f25, Tryz.func25, by kernel_rfl, by kernel_rfl, by kernel_rfl, by rw [Tryz.ntmps25]; decide⟩

/-- narrator.pattern.check -/
theorem fn26 : FnIs Tryz.prog 26 1 [Go.ResultVar.tmp 2] (.seq (.region [⟨some 1, Go.Op.box 25 (Go.Operand.tmp 0), 0, none⟩,
      ⟨some 2, Go.Op.assign (Go.Operand.const (Go.Value.int Go.IntKind.i64 0)), 28, none⟩])
    (.seq (.region [⟨some 3, Go.Op.assign (Go.Operand.const (Go.Value.bool false)), 4, none⟩])
    (.seq (.seq (.region [⟨some 7, Go.Op.fieldAddr 25 (Go.Operand.tmp 1) 0, 0, none⟩,
      ⟨some 8, Go.Op.load 3 (Go.Operand.tmp 7), 3, none⟩])
    (.block 0
      (.seq (.region [⟨some 10, Go.Op.binOp Go.BinOp.eql 3 (Go.Operand.tmp 8) (Go.Operand.const (Go.Value.int Go.IntKind.i64 1)) 3, 4, none⟩,
        ⟨some 9, Go.Op.assign (Go.Operand.tmp 10), 4, none⟩])
      (.cond (Go.Operand.tmp 9)
        (.region [⟨some 11, Go.Op.fieldAddr 25 (Go.Operand.tmp 1) 2, 0, none⟩,
          ⟨some 12, Go.Op.load 23 (Go.Operand.tmp 11), 23, none⟩,
          ⟨some 13, Go.Op.call { callee := Go.Callee.builtin Go.Builtin.len, args := #[Go.Operand.tmp 12], argTypes := #[23] }, 3, none⟩,
          ⟨some 14, Go.Op.binOp Go.BinOp.eql 3 (Go.Operand.tmp 13) (Go.Operand.const (Go.Value.int Go.IntKind.i64 0)) 3, 4, none⟩,
          ⟨some 3, Go.Op.assign (Go.Operand.tmp 14), 4, none⟩])
        (.seq (.region [⟨some 16, Go.Op.binOp Go.BinOp.eql 3 (Go.Operand.tmp 8) (Go.Operand.const (Go.Value.int Go.IntKind.i64 2)) 3, 4, none⟩,
          ⟨some 15, Go.Op.assign (Go.Operand.tmp 16), 4, none⟩])
        (.cond (Go.Operand.tmp 15)
          (.region [⟨some 17, Go.Op.fieldAddr 25 (Go.Operand.tmp 1) 2, 0, none⟩,
            ⟨some 18, Go.Op.load 23 (Go.Operand.tmp 17), 23, none⟩,
            ⟨some 19, Go.Op.call { callee := Go.Callee.builtin Go.Builtin.len, args := #[Go.Operand.tmp 18], argTypes := #[23] }, 3, none⟩,
            ⟨some 20, Go.Op.binOp Go.BinOp.eql 3 (Go.Operand.tmp 19) (Go.Operand.const (Go.Value.int Go.IntKind.i64 0)) 3, 4, none⟩,
            ⟨some 21, Go.Op.move (Go.Operand.tmp 20), 4, none⟩,
            ⟨some 22, Go.Op.fieldAddr 25 (Go.Operand.tmp 1) 1, 0, (some (21, true))⟩,
            ⟨some 23, Go.Op.load 22 (Go.Operand.tmp 22), 22, (some (21, true))⟩,
            ⟨some 24, Go.Op.call { callee := Go.Callee.value (Go.Operand.func 43), args := #[Go.Operand.tmp 23], argTypes := #[22] }, 4, (some (21, true))⟩,
            ⟨some 25, Go.Op.pick (Go.Operand.tmp 21) (Go.Operand.tmp 24) (Go.Operand.const (Go.Value.bool false)), 4, none⟩,
            ⟨some 3, Go.Op.assign (Go.Operand.tmp 25), 4, none⟩])
          (.seq (.seq (.region [⟨some 27, Go.Op.binOp Go.BinOp.eql 3 (Go.Operand.tmp 8) (Go.Operand.const (Go.Value.int Go.IntKind.i64 3)) 3, 4, none⟩,
            ⟨some 26, Go.Op.assign (Go.Operand.tmp 27), 4, none⟩])
          (.cond (Go.Operand.tmp 26)
            .skip
            (.region [⟨some 28, Go.Op.binOp Go.BinOp.eql 3 (Go.Operand.tmp 8) (Go.Operand.const (Go.Value.int Go.IntKind.i64 4)) 3, 4, none⟩,
              ⟨some 26, Go.Op.assign (Go.Operand.tmp 28), 4, none⟩])))
          (.cond (Go.Operand.tmp 26)
            (.region [⟨some 29, Go.Op.fieldAddr 25 (Go.Operand.tmp 1) 2, 0, none⟩,
              ⟨some 30, Go.Op.load 23 (Go.Operand.tmp 29), 23, none⟩,
              ⟨some 31, Go.Op.call { callee := Go.Callee.builtin Go.Builtin.len, args := #[Go.Operand.tmp 30], argTypes := #[23] }, 3, none⟩,
              ⟨some 32, Go.Op.binOp Go.BinOp.geq 3 (Go.Operand.tmp 31) (Go.Operand.const (Go.Value.int Go.IntKind.i64 2)) 3, 4, none⟩,
              ⟨some 3, Go.Op.assign (Go.Operand.tmp 32), 4, none⟩])
            (.seq (.region [⟨some 34, Go.Op.binOp Go.BinOp.eql 3 (Go.Operand.tmp 8) (Go.Operand.const (Go.Value.int Go.IntKind.i64 5)) 3, 4, none⟩,
              ⟨some 33, Go.Op.assign (Go.Operand.tmp 34), 4, none⟩])
            (.cond (Go.Operand.tmp 33)
              (.region [⟨some 35, Go.Op.fieldAddr 25 (Go.Operand.tmp 1) 2, 0, none⟩,
                ⟨some 36, Go.Op.load 23 (Go.Operand.tmp 35), 23, none⟩,
                ⟨some 37, Go.Op.call { callee := Go.Callee.builtin Go.Builtin.len, args := #[Go.Operand.tmp 36], argTypes := #[23] }, 3, none⟩,
                ⟨some 38, Go.Op.binOp Go.BinOp.eql 3 (Go.Operand.tmp 37) (Go.Operand.const (Go.Value.int Go.IntKind.i64 1)) 3, 4, none⟩,
                ⟨some 39, Go.Op.move (Go.Operand.tmp 38), 4, none⟩,
                ⟨some 40, Go.Op.fieldAddr 25 (Go.Operand.tmp 1) 3, 0, (some (39, true))⟩,
                ⟨some 41, Go.Op.load 3 (Go.Operand.tmp 40), 3, (some (39, true))⟩,
                ⟨some 42, Go.Op.binOp Go.BinOp.geq 3 (Go.Operand.tmp 41) (Go.Operand.const (Go.Value.int Go.IntKind.i64 0)) 3, 4, (some (39, true))⟩,
                ⟨some 43, Go.Op.pick (Go.Operand.tmp 39) (Go.Operand.tmp 42) (Go.Operand.const (Go.Value.bool false)), 4, none⟩,
                ⟨some 44, Go.Op.move (Go.Operand.tmp 43), 4, none⟩,
                ⟨some 45, Go.Op.fieldAddr 25 (Go.Operand.tmp 1) 3, 0, (some (44, true))⟩,
                ⟨some 46, Go.Op.load 3 (Go.Operand.tmp 45), 3, (some (44, true))⟩,
                ⟨some 47, Go.Op.binOp Go.BinOp.leq 3 (Go.Operand.tmp 46) (Go.Operand.const (Go.Value.int Go.IntKind.i64 20)) 3, 4, (some (44, true))⟩,
                ⟨some 48, Go.Op.pick (Go.Operand.tmp 44) (Go.Operand.tmp 47) (Go.Operand.const (Go.Value.bool false)), 4, none⟩,
                ⟨some 49, Go.Op.move (Go.Operand.tmp 48), 4, none⟩,
                ⟨some 50, Go.Op.fieldAddr 25 (Go.Operand.tmp 1) 4, 0, (some (49, true))⟩,
                ⟨some 51, Go.Op.load 3 (Go.Operand.tmp 50), 3, (some (49, true))⟩,
                ⟨some 52, Go.Op.binOp Go.BinOp.eql 3 (Go.Operand.tmp 51) (Go.Operand.const (Go.Value.int Go.IntKind.i64 (-1))) 3, 4, (some (49, true))⟩,
                ⟨some 53, Go.Op.move (Go.Operand.tmp 52), 4, (some (49, true))⟩,
                ⟨some 54, Go.Op.fieldAddr 25 (Go.Operand.tmp 1) 4, 0, (some (53, false))⟩,
                ⟨some 55, Go.Op.load 3 (Go.Operand.tmp 54), 3, (some (53, false))⟩,
                ⟨some 56, Go.Op.fieldAddr 25 (Go.Operand.tmp 1) 3, 0, (some (53, false))⟩,
                ⟨some 57, Go.Op.load 3 (Go.Operand.tmp 56), 3, (some (53, false))⟩,
                ⟨some 58, Go.Op.binOp Go.BinOp.geq 3 (Go.Operand.tmp 55) (Go.Operand.tmp 57) 3, 4, (some (53, false))⟩,
                ⟨some 59, Go.Op.move (Go.Operand.tmp 58), 4, (some (53, false))⟩,
                ⟨some 60, Go.Op.fieldAddr 25 (Go.Operand.tmp 1) 4, 0, (some (59, true))⟩,
                ⟨some 61, Go.Op.load 3 (Go.Operand.tmp 60), 3, (some (59, true))⟩,
                ⟨some 62, Go.Op.binOp Go.BinOp.leq 3 (Go.Operand.tmp 61) (Go.Operand.const (Go.Value.int Go.IntKind.i64 20)) 3, 4, (some (59, true))⟩,
                ⟨some 63, Go.Op.pick (Go.Operand.tmp 59) (Go.Operand.tmp 62) (Go.Operand.const (Go.Value.bool false)), 4, (some (53, false))⟩,
                ⟨some 64, Go.Op.pick (Go.Operand.tmp 53) (Go.Operand.const (Go.Value.bool true)) (Go.Operand.tmp 63), 4, (some (49, true))⟩,
                ⟨some 65, Go.Op.pick (Go.Operand.tmp 49) (Go.Operand.tmp 64) (Go.Operand.const (Go.Value.bool false)), 4, none⟩,
                ⟨some 3, Go.Op.assign (Go.Operand.tmp 65), 4, none⟩])
              (.seq (.region [⟨some 2, Go.Op.assign (Go.Operand.const (Go.Value.int Go.IntKind.i64 9)), 28, none⟩])
              .ret)))))))))))
    (.seq (.seq (.region [⟨some 66, Go.Op.move (Go.Operand.tmp 3), 4, none⟩,
      ⟨some 67, Go.Op.unOp Go.UnOp.not 4 (Go.Operand.tmp 66), 4, none⟩,
      ⟨some 68, Go.Op.move (Go.Operand.tmp 67), 4, none⟩,
      ⟨some 69, Go.Op.fieldAddr 25 (Go.Operand.tmp 1) 0, 0, (some (68, false))⟩,
      ⟨some 70, Go.Op.load 3 (Go.Operand.tmp 69), 3, (some (68, false))⟩,
      ⟨some 71, Go.Op.binOp Go.BinOp.neq 3 (Go.Operand.tmp 70) (Go.Operand.const (Go.Value.int Go.IntKind.i64 2)) 3, 4, (some (68, false))⟩,
      ⟨some 72, Go.Op.move (Go.Operand.tmp 71), 4, (some (68, false))⟩,
      ⟨some 73, Go.Op.fieldAddr 25 (Go.Operand.tmp 1) 1, 0, (some (72, true))⟩,
      ⟨some 74, Go.Op.load 22 (Go.Operand.tmp 73), 22, (some (72, true))⟩,
      ⟨some 75, Go.Op.call { callee := Go.Callee.builtin Go.Builtin.len, args := #[Go.Operand.tmp 74], argTypes := #[22] }, 3, (some (72, true))⟩,
      ⟨some 76, Go.Op.binOp Go.BinOp.gtr 3 (Go.Operand.tmp 75) (Go.Operand.const (Go.Value.int Go.IntKind.i64 0)) 3, 4, (some (72, true))⟩,
      ⟨some 77, Go.Op.pick (Go.Operand.tmp 72) (Go.Operand.tmp 76) (Go.Operand.const (Go.Value.bool false)), 4, (some (68, false))⟩,
      ⟨some 78, Go.Op.pick (Go.Operand.tmp 68) (Go.Operand.const (Go.Value.bool true)) (Go.Operand.tmp 77), 4, none⟩,
      ⟨some 79, Go.Op.move (Go.Operand.tmp 78), 4, none⟩,
      ⟨some 80, Go.Op.fieldAddr 25 (Go.Operand.tmp 1) 0, 0, (some (79, false))⟩,
      ⟨some 81, Go.Op.load 3 (Go.Operand.tmp 80), 3, (some (79, false))⟩,
      ⟨some 82, Go.Op.binOp Go.BinOp.neq 3 (Go.Operand.tmp 81) (Go.Operand.const (Go.Value.int Go.IntKind.i64 5)) 3, 4, (some (79, false))⟩,
      ⟨some 83, Go.Op.move (Go.Operand.tmp 82), 4, (some (79, false))⟩,
      ⟨some 84, Go.Op.fieldAddr 25 (Go.Operand.tmp 1) 3, 0, (some (83, true))⟩,
      ⟨some 85, Go.Op.load 3 (Go.Operand.tmp 84), 3, (some (83, true))⟩,
      ⟨some 86, Go.Op.binOp Go.BinOp.neq 3 (Go.Operand.tmp 85) (Go.Operand.const (Go.Value.int Go.IntKind.i64 0)) 3, 4, (some (83, true))⟩,
      ⟨some 87, Go.Op.move (Go.Operand.tmp 86), 4, (some (83, true))⟩,
      ⟨some 88, Go.Op.fieldAddr 25 (Go.Operand.tmp 1) 4, 0, (some (87, false))⟩,
      ⟨some 89, Go.Op.load 3 (Go.Operand.tmp 88), 3, (some (87, false))⟩,
      ⟨some 90, Go.Op.binOp Go.BinOp.neq 3 (Go.Operand.tmp 89) (Go.Operand.const (Go.Value.int Go.IntKind.i64 0)) 3, 4, (some (87, false))⟩,
      ⟨some 91, Go.Op.pick (Go.Operand.tmp 87) (Go.Operand.const (Go.Value.bool true)) (Go.Operand.tmp 90), 4, (some (83, true))⟩,
      ⟨some 92, Go.Op.pick (Go.Operand.tmp 83) (Go.Operand.tmp 91) (Go.Operand.const (Go.Value.bool false)), 4, (some (79, false))⟩,
      ⟨some 93, Go.Op.pick (Go.Operand.tmp 79) (Go.Operand.const (Go.Value.bool true)) (Go.Operand.tmp 92), 4, none⟩])
    (.cond (Go.Operand.tmp 93)
      (.seq (.region [⟨some 2, Go.Op.assign (Go.Operand.const (Go.Value.int Go.IntKind.i64 1)), 28, none⟩])
      .ret)
      .skip))
    (.seq (.seq (.region [⟨some 94, Go.Op.fieldAddr 25 (Go.Operand.tmp 1) 2, 0, none⟩,
      ⟨some 95, Go.Op.load 23 (Go.Operand.tmp 94), 23, none⟩,
      ⟨some 96, Go.Op.call { callee := Go.Callee.builtin Go.Builtin.len, args := #[Go.Operand.tmp 95], argTypes := #[23] }, 3, none⟩,
      ⟨some 97, Go.Op.move (Go.Operand.const (Go.Value.int Go.IntKind.i64 0)), 3, none⟩])
    (.block 1
      (.loop
        (.seq (.region [⟨some 98, Go.Op.binOp Go.BinOp.lss 3 (Go.Operand.tmp 97) (Go.Operand.tmp 96) 3, 0, none⟩])
        (.seq (.cond (Go.Operand.tmp 98)
          .skip
          (.exit 1))
        (.seq (.block 2
          (.seq (.region [⟨some 99, Go.Op.indexAddr 23 (Go.Operand.tmp 95) (Go.Operand.tmp 97), 0, none⟩,
            ⟨some 100, Go.Op.load 25 (Go.Operand.tmp 99), 25, none⟩,
            ⟨some 5, Go.Op.alloc 25, 0, none⟩,
            ⟨none, Go.Op.store 25 (Go.Operand.tmp 5) (Go.Operand.tmp 100), 0, none⟩])
          (.seq (.region [⟨some 101, Go.Op.load 25 (Go.Operand.tmp 5), 25, none⟩,
            ⟨some 102, Go.Op.call { callee := Go.Callee.value (Go.Operand.func 26), args := #[Go.Operand.tmp 101], argTypes := #[25] }, 28, none⟩,
            ⟨some 6, Go.Op.assign (Go.Operand.tmp 102), 28, none⟩])
          (.seq (.region [⟨some 103, Go.Op.move (Go.Operand.tmp 6), 28, none⟩,
            ⟨some 104, Go.Op.binOp Go.BinOp.neq 28 (Go.Operand.tmp 103) (Go.Operand.const (Go.Value.int Go.IntKind.i64 0)) 28, 4, none⟩])
          (.cond (Go.Operand.tmp 104)
            (.seq (.region [⟨some 105, Go.Op.move (Go.Operand.tmp 6), 28, none⟩,
              ⟨some 2, Go.Op.assign (Go.Operand.tmp 105), 28, none⟩])
            .ret)
            .skip)))))
        (.region [⟨some 106, Go.Op.binOp Go.BinOp.add 3 (Go.Operand.tmp 97) (Go.Operand.const (Go.Value.int Go.IntKind.i64 1)) 3, 3, none⟩,
          ⟨some 97, Go.Op.move (Go.Operand.tmp 106), 3, none⟩])))))))
    (.seq (.region [⟨some 2, Go.Op.assign (Go.Operand.const (Go.Value.int Go.IntKind.i64 0)), 28, none⟩])
    .ret)))))) :=
  ⟨foll, Tryz.f26, Tryz.func26, by kernel_rfl, by kernel_rfl, by kernel_rfl, by rw [Tryz.ntmps26]; decide⟩

/-- narrator.narratorref31.Weight -/
theorem fn30 : FnIs Tryz.prog 30 1 [Go.ResultVar.tmp 2] (.seq (.region [⟨some 1, Go.Op.box 25 (Go.Operand.tmp 0), 0, none⟩,
      ⟨some 2, Go.Op.assign (Go.Operand.const (Go.Value.int Go.IntKind.i64 0)), 3, none⟩])
    (.seq (.region [⟨some 3, Go.Op.assign (Go.Operand.const (Go.Value.int Go.IntKind.i64 1)), 3, none⟩])
    (.seq (.seq (.region [⟨some 4, Go.Op.assign (Go.Operand.const (Go.Value.int Go.IntKind.i64 0)), 3, none⟩])
    (.block 0
      (.loop
        (.seq (.seq (.region [⟨some 5, Go.Op.move (Go.Operand.tmp 4), 3, none⟩,
          ⟨some 6, Go.Op.fieldAddr 25 (Go.Operand.tmp 1) 2, 0, none⟩,
          ⟨some 7, Go.Op.load 23 (Go.Operand.tmp 6), 23, none⟩,
          ⟨some 8, Go.Op.call { callee := Go.Callee.builtin Go.Builtin.len, args := #[Go.Operand.tmp 7], argTypes := #[23] }, 3, none⟩,
          ⟨some 9, Go.Op.binOp Go.BinOp.lss 3 (Go.Operand.tmp 5) (Go.Operand.tmp 8) 3, 4, none⟩])
        (.cond (Go.Operand.tmp 9)
          .skip
          (.exit 0)))
        (.seq (.block 1
          (.region [⟨some 12, Go.Op.move (Go.Operand.tmp 3), 3, none⟩,
            ⟨some 13, Go.Op.fieldAddr 25 (Go.Operand.tmp 1) 2, 0, none⟩,
            ⟨some 14, Go.Op.load 23 (Go.Operand.tmp 13), 23, none⟩,
            ⟨some 15, Go.Op.move (Go.Operand.tmp 4), 3, none⟩,
            ⟨some 16, Go.Op.indexAddr 23 (Go.Operand.tmp 14) (Go.Operand.tmp 15), 0, none⟩,
            ⟨some 17, Go.Op.load 25 (Go.Operand.tmp 16), 25, none⟩,
            ⟨some 18, Go.Op.call { callee := Go.Callee.value (Go.Operand.func 30), args := #[Go.Operand.tmp 17], argTypes := #[25] }, 3, none⟩,
            ⟨some 19, Go.Op.binOp Go.BinOp.add 3 (Go.Operand.tmp 12) (Go.Operand.tmp 18) 3, 3, none⟩,
            ⟨some 3, Go.Op.assign (Go.Operand.tmp 19), 3, none⟩]))
        (.region [⟨some 10, Go.Op.move (Go.Operand.tmp 4), 3, none⟩,
          ⟨some 11, Go.Op.binOp Go.BinOp.add 3 (Go.Operand.tmp 10) (Go.Operand.const (Go.Value.int Go.IntKind.i64 1)) 3, 3, none⟩,
          ⟨some 4, Go.Op.assign (Go.Operand.tmp 11), 3, none⟩]))))))
    (.seq (.seq (.region [⟨some 20, Go.Op.fieldAddr 25 (Go.Operand.tmp 1) 0, 0, none⟩,
      ⟨some 21, Go.Op.load 3 (Go.Operand.tmp 20), 3, none⟩,
      ⟨some 22, Go.Op.binOp Go.BinOp.eql 3 (Go.Operand.tmp 21) (Go.Operand.const (Go.Value.int Go.IntKind.i64 5)) 3, 4, none⟩])
    (.cond (Go.Operand.tmp 22)
      (.seq (.region [⟨some 23, Go.Op.fieldAddr 25 (Go.Operand.tmp 1) 4, 0, none⟩,
        ⟨some 24, Go.Op.load 3 (Go.Operand.tmp 23), 3, none⟩,
        ⟨some 25, Go.Op.binOp Go.BinOp.lss 3 (Go.Operand.tmp 24) (Go.Operand.const (Go.Value.int Go.IntKind.i64 0)) 3, 4, none⟩])
      (.cond (Go.Operand.tmp 25)
        (.region [⟨some 26, Go.Op.move (Go.Operand.tmp 3), 3, none⟩,
          ⟨some 27, Go.Op.fieldAddr 25 (Go.Operand.tmp 1) 3, 0, none⟩,
          ⟨some 28, Go.Op.load 3 (Go.Operand.tmp 27), 3, none⟩,
          ⟨some 29, Go.Op.call { callee := Go.Callee.builtin Go.Builtin.max, args := #[Go.Operand.tmp 28, Go.Operand.const (Go.Value.int Go.IntKind.i64 0)], argTypes := #[3, 3] }, 3, none⟩,
          ⟨some 30, Go.Op.call { callee := Go.Callee.builtin Go.Builtin.min, args := #[Go.Operand.tmp 29, Go.Operand.const (Go.Value.int Go.IntKind.i64 100)], argTypes := #[3, 3] }, 3, none⟩,
          ⟨some 31, Go.Op.binOp Go.BinOp.add 3 (Go.Operand.tmp 30) (Go.Operand.const (Go.Value.int Go.IntKind.i64 15)) 3, 3, none⟩,
          ⟨some 32, Go.Op.binOp Go.BinOp.mul 3 (Go.Operand.tmp 26) (Go.Operand.tmp 31) 3, 3, none⟩,
          ⟨some 3, Go.Op.assign (Go.Operand.tmp 32), 3, none⟩])
        (.region [⟨some 33, Go.Op.move (Go.Operand.tmp 3), 3, none⟩,
          ⟨some 34, Go.Op.fieldAddr 25 (Go.Operand.tmp 1) 4, 0, none⟩,
          ⟨some 35, Go.Op.load 3 (Go.Operand.tmp 34), 3, none⟩,
          ⟨some 36, Go.Op.call { callee := Go.Callee.builtin Go.Builtin.max, args := #[Go.Operand.tmp 35, Go.Operand.const (Go.Value.int Go.IntKind.i64 1)], argTypes := #[3, 3] }, 3, none⟩,
          ⟨some 37, Go.Op.call { callee := Go.Callee.builtin Go.Builtin.min, args := #[Go.Operand.tmp 36, Go.Operand.const (Go.Value.int Go.IntKind.i64 100)], argTypes := #[3, 3] }, 3, none⟩,
          ⟨some 38, Go.Op.binOp Go.BinOp.mul 3 (Go.Operand.tmp 33) (Go.Operand.tmp 37) 3, 3, none⟩,
          ⟨some 3, Go.Op.assign (Go.Operand.tmp 38), 3, none⟩])))
      .skip))
    (.seq (.region [⟨some 39, Go.Op.move (Go.Operand.tmp 3), 3, none⟩,
      ⟨some 40, Go.Op.call { callee := Go.Callee.builtin Go.Builtin.min, args := #[Go.Operand.tmp 39, Go.Operand.const (Go.Value.int Go.IntKind.i64 1000000)], argTypes := #[3, 3] }, 3, none⟩,
      ⟨some 2, Go.Op.assign (Go.Operand.tmp 40), 3, none⟩])
    .ret))))) :=
  ⟨foll, Tryz.f30, Tryz.func30, by kernel_rfl, by kernel_rfl, by kernel_rfl, by rw [Tryz.ntmps30]; decide⟩

/-- narrator.utf8stream.Decode -/
theorem fn31 : FnIs Tryz.prog 31 2 [Go.ResultVar.tmp 4, Go.ResultVar.tmp 5] (.seq (.region [⟨some 4, Go.Op.assign (Go.Operand.const (Go.Value.slice none 0 0)), 42, none⟩,
      ⟨some 5, Go.Op.assign (Go.Operand.const (Go.Value.string { data := #[] })), 9, none⟩])
    (.seq (.region [⟨some 12, Go.Op.move (Go.Operand.tmp 0), 9, none⟩,
      ⟨some 13, Go.Op.move (Go.Operand.tmp 1), 9, none⟩,
      ⟨some 14, Go.Op.binOp Go.BinOp.add 9 (Go.Operand.tmp 12) (Go.Operand.tmp 13) 9, 9, none⟩,
      ⟨some 6, Go.Op.assign (Go.Operand.tmp 14), 9, none⟩])
    (.seq (.region [⟨some 7, Go.Op.assign (Go.Operand.const (Go.Value.slice none 0 0)), 42, none⟩])
    (.seq (.region [⟨some 8, Go.Op.alloc 72, 0, none⟩])
    (.seq (.region [⟨some 9, Go.Op.assign (Go.Operand.const (Go.Value.int Go.IntKind.i64 0)), 3, none⟩])
    (.seq (.seq (.region [⟨some 15, Go.Op.move (Go.Operand.tmp 6), 9, none⟩,
      ⟨some 16, Go.Op.call { callee := Go.Callee.builtin Go.Builtin.len, args := #[Go.Operand.tmp 15], argTypes := #[9] }, 3, none⟩,
      ⟨some 17, Go.Op.move (Go.Operand.const (Go.Value.int Go.IntKind.i64 0)), 3, none⟩])
    (.block 0
      (.loop
        (.seq (.region [⟨some 18, Go.Op.binOp Go.BinOp.lss 3 (Go.Operand.tmp 17) (Go.Operand.tmp 16) 3, 4, none⟩])
        (.seq (.cond (Go.Operand.tmp 18)
          .skip
          (.exit 0))
        (.seq (.block 1
          (.seq (.region [⟨some 19, Go.Op.move (Go.Operand.tmp 17), 3, none⟩,
            ⟨some 10, Go.Op.assign (Go.Operand.tmp 19), 3, none⟩])
          (.seq (.region [⟨some 20, Go.Op.move (Go.Operand.tmp 6), 9, none⟩,
            ⟨some 21, Go.Op.move (Go.Operand.tmp 10), 3, none⟩,
            ⟨some 22, Go.Op.index 9 (Go.Operand.tmp 20) (Go.Operand.tmp 21), 5, none⟩,
            ⟨some 11, Go.Op.assign (Go.Operand.tmp 22), 5, none⟩])
          (.seq (.seq (.region [⟨some 23, Go.Op.fieldAddr 72 (Go.Operand.tmp 8) 1, 0, none⟩,
            ⟨some 24, Go.Op.load 3 (Go.Operand.tmp 23), 3, none⟩,
            ⟨some 25, Go.Op.binOp Go.BinOp.gtr 3 (Go.Operand.tmp 24) (Go.Operand.const (Go.Value.int Go.IntKind.i64 0)) 3, 4, none⟩,
            ⟨some 26, Go.Op.move (Go.Operand.tmp 25), 4, none⟩,
            ⟨some 27, Go.Op.move (Go.Operand.tmp 11), 5, (some (26, true))⟩,
            ⟨some 28, Go.Op.fieldAddr 72 (Go.Operand.tmp 8) 2, 0, (some (26, true))⟩,
            ⟨some 29, Go.Op.load 5 (Go.Operand.tmp 28), 5, (some (26, true))⟩,
            ⟨some 30, Go.Op.binOp Go.BinOp.geq 5 (Go.Operand.tmp 27) (Go.Operand.tmp 29) 5, 4, (some (26, true))⟩,
            ⟨some 31, Go.Op.pick (Go.Operand.tmp 26) (Go.Operand.tmp 30) (Go.Operand.const (Go.Value.bool false)), 4, none⟩,
            ⟨some 32, Go.Op.move (Go.Operand.tmp 31), 4, none⟩,
            ⟨some 33, Go.Op.move (Go.Operand.tmp 11), 5, (some (32, true))⟩,
            ⟨some 34, Go.Op.fieldAddr 72 (Go.Operand.tmp 8) 3, 0, (some (32, true))⟩,
            ⟨some 35, Go.Op.load 5 (Go.Operand.tmp 34), 5, (some (32, true))⟩,
            ⟨some 36, Go.Op.binOp Go.BinOp.leq 5 (Go.Operand.tmp 33) (Go.Operand.tmp 35) 5, 4, (some (32, true))⟩,
            ⟨some 37, Go.Op.pick (Go.Operand.tmp 32) (Go.Operand.tmp 36) (Go.Operand.const (Go.Value.bool false)), 4, none⟩])
          (.cond (Go.Operand.tmp 37)
            (.seq (.region [⟨some 38, Go.Op.fieldAddr 72 (Go.Operand.tmp 8) 0, 0, none⟩,
              ⟨some 39, Go.Op.load 21 (Go.Operand.tmp 38), 21, none⟩,
              ⟨some 40, Go.Op.binOp Go.BinOp.shl 21 (Go.Operand.tmp 39) (Go.Operand.const (Go.Value.int Go.IntKind.u64 6)) 73, 21, none⟩,
              ⟨some 41, Go.Op.move (Go.Operand.tmp 11), 5, none⟩,
              ⟨some 42, Go.Op.binOp Go.BinOp.and 5 (Go.Operand.tmp 41) (Go.Operand.const (Go.Value.int Go.IntKind.u8 63)) 5, 5, none⟩,
              ⟨some 43, Go.Op.convert 5 21 (Go.Operand.tmp 42), 21, none⟩,
              ⟨some 44, Go.Op.binOp Go.BinOp.or 21 (Go.Operand.tmp 40) (Go.Operand.tmp 43) 21, 21, none⟩,
              ⟨some 45, Go.Op.fieldAddr 72 (Go.Operand.tmp 8) 1, 0, none⟩,
              ⟨some 46, Go.Op.load 3 (Go.Operand.tmp 45), 3, none⟩,
              ⟨some 47, Go.Op.binOp Go.BinOp.sub 3 (Go.Operand.tmp 46) (Go.Operand.const (Go.Value.int Go.IntKind.i64 1)) 3, 3, none⟩,
              ⟨some 48, Go.Op.build 72 #[(0, Go.Operand.tmp 44), (1, Go.Operand.tmp 47), (2, Go.Operand.const (Go.Value.int Go.IntKind.u8 128)), (3, Go.Operand.const (Go.Value.int Go.IntKind.u8 191))], 72, none⟩,
              ⟨none, Go.Op.store 72 (Go.Operand.tmp 8) (Go.Operand.tmp 48), 0, none⟩])
            (.seq (.seq (.region [⟨some 49, Go.Op.fieldAddr 72 (Go.Operand.tmp 8) 1, 0, none⟩,
              ⟨some 50, Go.Op.load 3 (Go.Operand.tmp 49), 3, none⟩,
              ⟨some 51, Go.Op.binOp Go.BinOp.eql 3 (Go.Operand.tmp 50) (Go.Operand.const (Go.Value.int Go.IntKind.i64 0)) 3, 4, none⟩])
            (.cond (Go.Operand.tmp 51)
              (.region [⟨some 52, Go.Op.move (Go.Operand.tmp 7), 42, none⟩,
                ⟨some 53, Go.Op.fieldAddr 72 (Go.Operand.tmp 8) 0, 0, none⟩,
                ⟨some 54, Go.Op.load 21 (Go.Operand.tmp 53), 21, none⟩,
                ⟨some 55, Go.Op.buildSlice 42 1 #[(0, Go.Operand.tmp 54)], 42, none⟩,
                ⟨some 56, Go.Op.call { callee := Go.Callee.builtin Go.Builtin.append, args := #[Go.Operand.tmp 52, Go.Operand.tmp 55], argTypes := #[42, 42] }, 42, none⟩,
                ⟨some 7, Go.Op.assign (Go.Operand.tmp 56), 42, none⟩])
              .skip))
            (.exit 1)))
            .skip))
          (.seq (.seq (.region [⟨some 57, Go.Op.fieldAddr 72 (Go.Operand.tmp 8) 1, 0, none⟩,
            ⟨some 58, Go.Op.load 3 (Go.Operand.tmp 57), 3, none⟩,
            ⟨some 59, Go.Op.binOp Go.BinOp.gtr 3 (Go.Operand.tmp 58) (Go.Operand.const (Go.Value.int Go.IntKind.i64 0)) 3, 4, none⟩])
          (.cond (Go.Operand.tmp 59)
            (.region [⟨some 60, Go.Op.move (Go.Operand.tmp 7), 42, none⟩,
              ⟨some 61, Go.Op.buildSlice 42 1 #[(0, Go.Operand.const (Go.Value.int Go.IntKind.i32 65533))], 42, none⟩,
              ⟨some 62, Go.Op.call { callee := Go.Callee.builtin Go.Builtin.append, args := #[Go.Operand.tmp 60, Go.Operand.tmp 61], argTypes := #[42, 42] }, 42, none⟩,
              ⟨some 7, Go.Op.assign (Go.Operand.tmp 62), 42, none⟩])
            .skip))
          (.seq (.region [⟨some 63, Go.Op.move (Go.Operand.tmp 11), 5, none⟩,
            ⟨some 64, Go.Op.call { callee := Go.Callee.value (Go.Operand.func 46), args := #[Go.Operand.tmp 63], argTypes := #[5] }, 72, none⟩,
            ⟨some 65, Go.Op.move (Go.Operand.tmp 10), 3, none⟩,
            ⟨none, Go.Op.store 72 (Go.Operand.tmp 8) (Go.Operand.tmp 64), 0, none⟩,
            ⟨some 9, Go.Op.assign (Go.Operand.tmp 65), 3, none⟩])
          (.block 2
            (.seq (.region [⟨some 67, Go.Op.move (Go.Operand.tmp 11), 5, none⟩,
              ⟨some 68, Go.Op.binOp Go.BinOp.lss 5 (Go.Operand.tmp 67) (Go.Operand.const (Go.Value.int Go.IntKind.u8 128)) 5, 4, none⟩,
              ⟨some 66, Go.Op.assign (Go.Operand.tmp 68), 4, none⟩])
            (.cond (Go.Operand.tmp 66)
              (.region [⟨some 69, Go.Op.move (Go.Operand.tmp 7), 42, none⟩,
                ⟨some 70, Go.Op.move (Go.Operand.tmp 11), 5, none⟩,
                ⟨some 71, Go.Op.convert 5 21 (Go.Operand.tmp 70), 21, none⟩,
                ⟨some 72, Go.Op.buildSlice 42 1 #[(0, Go.Operand.tmp 71)], 42, none⟩,
                ⟨some 73, Go.Op.call { callee := Go.Callee.builtin Go.Builtin.append, args := #[Go.Operand.tmp 69, Go.Operand.tmp 72], argTypes := #[42, 42] }, 42, none⟩,
                ⟨some 7, Go.Op.assign (Go.Operand.tmp 73), 42, none⟩])
              (.seq (.region [⟨some 75, Go.Op.fieldAddr 72 (Go.Operand.tmp 8) 1, 0, none⟩,
                ⟨some 76, Go.Op.load 3 (Go.Operand.tmp 75), 3, none⟩,
                ⟨some 77, Go.Op.binOp Go.BinOp.eql 3 (Go.Operand.tmp 76) (Go.Operand.const (Go.Value.int Go.IntKind.i64 0)) 3, 4, none⟩,
                ⟨some 74, Go.Op.assign (Go.Operand.tmp 77), 4, none⟩])
              (.cond (Go.Operand.tmp 74)
                (.region [⟨some 78, Go.Op.move (Go.Operand.tmp 7), 42, none⟩,
                  ⟨some 79, Go.Op.buildSlice 42 1 #[(0, Go.Operand.const (Go.Value.int Go.IntKind.i32 65533))], 42, none⟩,
                  ⟨some 80, Go.Op.call { callee := Go.Callee.builtin Go.Builtin.append, args := #[Go.Operand.tmp 78, Go.Operand.tmp 79], argTypes := #[42, 42] }, 42, none⟩,
                  ⟨some 7, Go.Op.assign (Go.Operand.tmp 80), 42, none⟩])
                .skip)))))))))))
        (.region [⟨some 81, Go.Op.binOp Go.BinOp.add 3 (Go.Operand.tmp 17) (Go.Operand.const (Go.Value.int Go.IntKind.i64 1)) 3, 3, none⟩,
          ⟨some 17, Go.Op.move (Go.Operand.tmp 81), 3, none⟩])))))))
    (.seq (.seq (.region [⟨some 82, Go.Op.fieldAddr 72 (Go.Operand.tmp 8) 1, 0, none⟩,
      ⟨some 83, Go.Op.load 3 (Go.Operand.tmp 82), 3, none⟩,
      ⟨some 84, Go.Op.binOp Go.BinOp.eql 3 (Go.Operand.tmp 83) (Go.Operand.const (Go.Value.int Go.IntKind.i64 0)) 3, 4, none⟩])
    (.cond (Go.Operand.tmp 84)
      (.seq (.region [⟨some 85, Go.Op.move (Go.Operand.tmp 7), 42, none⟩,
        ⟨some 4, Go.Op.assign (Go.Operand.tmp 85), 42, none⟩,
        ⟨some 5, Go.Op.assign (Go.Operand.const (Go.Value.string { data := #[] })), 9, none⟩])
      .ret)
      .skip))
    (.seq (.draw [⟨⟨some 86, Go.Op.move (Go.Operand.tmp 7), 42, none⟩, false, false, false⟩,
      ⟨⟨some 87, Go.Op.move (Go.Operand.tmp 6), 9, none⟩, false, false, false⟩,
      ⟨⟨some 88, Go.Op.move (Go.Operand.tmp 9), 3, none⟩, false, false, false⟩,
      ⟨⟨some 89, Go.Op.slice 9 (Go.Operand.tmp 87) (some (Go.Operand.tmp 88)) none none, 9, none⟩, false, false, false⟩,
      ⟨⟨some 4, Go.Op.assign (Go.Operand.tmp 86), 42, none⟩, false, false, false⟩,
      ⟨⟨some 5, Go.Op.assign (Go.Operand.tmp 89), 9, none⟩, false, false, false⟩])
    .ret)))))))) :=
  ⟨foll, Tryz.f31, Tryz.func31, by kernel_rfl, by kernel_rfl, by kernel_rfl, by rw [Tryz.ntmps31]; decide⟩

/-- narrator.utf8stream.Finish -/
theorem fn32 : FnIs Tryz.prog 32 1 [Go.ResultVar.tmp 2] (.seq (.region [⟨some 2, Go.Op.assign (Go.Operand.const (Go.Value.slice none 0 0)), 42, none⟩])
    (.seq (.region [⟨some 6, Go.Op.move (Go.Operand.tmp 0), 9, none⟩,
      ⟨some 7, Go.Op.call { callee := Go.Callee.value (Go.Operand.func 31), args := #[Go.Operand.const (Go.Value.string { data := #[] }), Go.Operand.tmp 6], argTypes := #[9, 9] }, 57, none⟩,
      ⟨some 5, Go.Op.move (Go.Operand.tmp 7), 57, none⟩,
      ⟨some 8, Go.Op.extract (Go.Operand.tmp 5) 0, 42, none⟩,
      ⟨some 9, Go.Op.extract (Go.Operand.tmp 5) 1, 9, none⟩,
      ⟨some 3, Go.Op.assign (Go.Operand.tmp 8), 42, none⟩,
      ⟨some 4, Go.Op.assign (Go.Operand.tmp 9), 9, none⟩])
    (.seq (.seq (.region [⟨some 10, Go.Op.move (Go.Operand.tmp 4), 9, none⟩,
      ⟨some 11, Go.Op.binOp Go.BinOp.neq 9 (Go.Operand.tmp 10) (Go.Operand.const (Go.Value.string { data := #[] })) 9, 4, none⟩])
    (.cond (Go.Operand.tmp 11)
      (.region [⟨some 12, Go.Op.move (Go.Operand.tmp 3), 42, none⟩,
        ⟨some 13, Go.Op.buildSlice 42 1 #[(0, Go.Operand.const (Go.Value.int Go.IntKind.i32 65533))], 42, none⟩,
        ⟨some 14, Go.Op.call { callee := Go.Callee.builtin Go.Builtin.append, args := #[Go.Operand.tmp 12, Go.Operand.tmp 13], argTypes := #[42, 42] }, 42, none⟩,
        ⟨some 3, Go.Op.assign (Go.Operand.tmp 14), 42, none⟩])
      .skip))
    (.seq (.region [⟨some 15, Go.Op.move (Go.Operand.tmp 3), 42, none⟩,
      ⟨some 2, Go.Op.assign (Go.Operand.tmp 15), 42, none⟩])
    .ret)))) :=
  ⟨foll, Tryz.f32, Tryz.func32, by kernel_rfl, by kernel_rfl, by kernel_rfl, by rw [Tryz.ntmps32]; decide⟩

/-- narrator.pattern.reach -/
theorem fn33 : FnIs Tryz.prog 33 3 [Go.ResultVar.tmp 6] (.seq (.region [⟨some 3, Go.Op.box 25 (Go.Operand.tmp 0), 0, none⟩,
      ⟨some 6, Go.Op.assign (Go.Operand.const (Go.Value.slice none 0 0)), 60, none⟩])
    (.seq (.region [⟨some 16, Go.Op.move (Go.Operand.tmp 2), 60, none⟩,
      ⟨some 17, Go.Op.call { callee := Go.Callee.builtin Go.Builtin.len, args := #[Go.Operand.tmp 16], argTypes := #[60] }, 3, none⟩,
      ⟨some 18, Go.Op.makeSlice 60 (Go.Operand.tmp 17) (Go.Operand.tmp 17), 60, none⟩,
      ⟨some 7, Go.Op.assign (Go.Operand.tmp 18), 60, none⟩])
    (.seq (.seq (.region [⟨some 19, Go.Op.fieldAddr 25 (Go.Operand.tmp 3) 0, 0, none⟩,
      ⟨some 20, Go.Op.load 3 (Go.Operand.tmp 19), 3, none⟩])
    (.block 0
      (.seq (.region [⟨some 22, Go.Op.binOp Go.BinOp.eql 3 (Go.Operand.tmp 20) (Go.Operand.const (Go.Value.int Go.IntKind.i64 1)) 3, 4, none⟩,
        ⟨some 21, Go.Op.assign (Go.Operand.tmp 22), 4, none⟩])
      (.cond (Go.Operand.tmp 21)
        (.region [⟨some 23, Go.Op.move (Go.Operand.tmp 7), 60, none⟩,
          ⟨some 24, Go.Op.move (Go.Operand.tmp 2), 60, none⟩,
          ⟨some 25, Go.Op.call { callee := Go.Callee.builtin Go.Builtin.copy, args := #[Go.Operand.tmp 23, Go.Operand.tmp 24], argTypes := #[60, 60] }, 3, none⟩])
        (.seq (.region [⟨some 27, Go.Op.binOp Go.BinOp.eql 3 (Go.Operand.tmp 20) (Go.Operand.const (Go.Value.int Go.IntKind.i64 2)) 3, 4, none⟩,
          ⟨some 26, Go.Op.assign (Go.Operand.tmp 27), 4, none⟩])
        (.cond (Go.Operand.tmp 26)
          (.seq (.region [⟨some 28, Go.Op.move (Go.Operand.tmp 1), 42, none⟩,
            ⟨some 29, Go.Op.call { callee := Go.Callee.builtin Go.Builtin.len, args := #[Go.Operand.tmp 28], argTypes := #[42] }, 3, none⟩,
            ⟨some 30, Go.Op.move (Go.Operand.const (Go.Value.int Go.IntKind.i64 0)), 3, none⟩])
          (.block 1
            (.loop
              (.seq (.region [⟨some 31, Go.Op.binOp Go.BinOp.lss 3 (Go.Operand.tmp 30) (Go.Operand.tmp 29) 3, 0, none⟩])
              (.seq (.cond (Go.Operand.tmp 31)
                .skip
                (.exit 1))
              (.seq (.block 2
                (.seq (.region [⟨some 32, Go.Op.move (Go.Operand.tmp 30), 3, none⟩,
                  ⟨some 33, Go.Op.indexAddr 42 (Go.Operand.tmp 28) (Go.Operand.tmp 30), 0, none⟩,
                  ⟨some 34, Go.Op.load 21 (Go.Operand.tmp 33), 21, none⟩,
                  ⟨some 9, Go.Op.alloc 21, 0, none⟩,
                  ⟨some 8, Go.Op.assign (Go.Operand.tmp 32), 3, none⟩,
                  ⟨none, Go.Op.store 21 (Go.Operand.tmp 9) (Go.Operand.tmp 34), 0, none⟩])
                (.region [⟨some 35, Go.Op.move (Go.Operand.tmp 7), 60, none⟩,
                  ⟨some 36, Go.Op.move (Go.Operand.tmp 8), 3, none⟩,
                  ⟨some 37, Go.Op.binOp Go.BinOp.add 3 (Go.Operand.tmp 36) (Go.Operand.const (Go.Value.int Go.IntKind.i64 1)) 3, 3, none⟩,
                  ⟨some 38, Go.Op.move (Go.Operand.tmp 2), 60, none⟩,
                  ⟨some 39, Go.Op.move (Go.Operand.tmp 8), 3, none⟩,
                  ⟨some 40, Go.Op.indexAddr 60 (Go.Operand.tmp 38) (Go.Operand.tmp 39), 0, none⟩,
                  ⟨some 41, Go.Op.load 4 (Go.Operand.tmp 40), 4, none⟩,
                  ⟨some 42, Go.Op.move (Go.Operand.tmp 41), 4, none⟩,
                  ⟨some 43, Go.Op.fieldAddr 25 (Go.Operand.tmp 3) 1, 0, (some (42, true))⟩,
                  ⟨some 44, Go.Op.load 22 (Go.Operand.tmp 43), 22, (some (42, true))⟩,
                  ⟨some 45, Go.Op.makeFunc (Go.Fn.func 48) #[] #[Go.Operand.tmp 9], 76, (some (42, true))⟩,
                  ⟨some 46, Go.Op.call { callee := Go.Callee.value (Go.Operand.func 47), args := #[Go.Operand.tmp 44, Go.Operand.tmp 45], argTypes := #[22, 76] }, 4, (some (42, true))⟩,
                  ⟨some 47, Go.Op.pick (Go.Operand.tmp 42) (Go.Operand.tmp 46) (Go.Operand.const (Go.Value.bool false)), 4, none⟩,
                  ⟨some 48, Go.Op.indexAddr 60 (Go.Operand.tmp 35) (Go.Operand.tmp 37), 0, none⟩,
                  ⟨none, Go.Op.store 4 (Go.Operand.tmp 48) (Go.Operand.tmp 47), 0, none⟩])))
              (.region [⟨some 49, Go.Op.binOp Go.BinOp.add 3 (Go.Operand.tmp 30) (Go.Operand.const (Go.Value.int Go.IntKind.i64 1)) 3, 3, none⟩,
                ⟨some 30, Go.Op.move (Go.Operand.tmp 49), 3, none⟩])))))))
          (.seq (.region [⟨some 51, Go.Op.binOp Go.BinOp.eql 3 (Go.Operand.tmp 20) (Go.Operand.const (Go.Value.int Go.IntKind.i64 3)) 3, 4, none⟩,
            ⟨some 50, Go.Op.assign (Go.Operand.tmp 51), 4, none⟩])
          (.cond (Go.Operand.tmp 50)
            (.seq (.region [⟨some 52, Go.Op.move (Go.Operand.tmp 7), 60, none⟩,
              ⟨some 53, Go.Op.move (Go.Operand.tmp 2), 60, none⟩,
              ⟨some 54, Go.Op.call { callee := Go.Callee.builtin Go.Builtin.copy, args := #[Go.Operand.tmp 52, Go.Operand.tmp 53], argTypes := #[60, 60] }, 3, none⟩])
            (.seq (.region [⟨some 55, Go.Op.fieldAddr 25 (Go.Operand.tmp 3) 2, 0, none⟩,
              ⟨some 56, Go.Op.load 23 (Go.Operand.tmp 55), 23, none⟩,
              ⟨some 57, Go.Op.call { callee := Go.Callee.builtin Go.Builtin.len, args := #[Go.Operand.tmp 56], argTypes := #[23] }, 3, none⟩,
              ⟨some 58, Go.Op.move (Go.Operand.const (Go.Value.int Go.IntKind.i64 0)), 3, none⟩])
            (.block 3
              (.loop
                (.seq (.region [⟨some 59, Go.Op.binOp Go.BinOp.lss 3 (Go.Operand.tmp 58) (Go.Operand.tmp 57) 3, 0, none⟩])
                (.seq (.cond (Go.Operand.tmp 59)
                  .skip
                  (.exit 3))
                (.seq (.block 4
                  (.seq (.region [⟨some 60, Go.Op.indexAddr 23 (Go.Operand.tmp 56) (Go.Operand.tmp 58), 0, none⟩,
                    ⟨some 61, Go.Op.load 25 (Go.Operand.tmp 60), 25, none⟩,
                    ⟨some 11, Go.Op.alloc 25, 0, none⟩,
                    ⟨none, Go.Op.store 25 (Go.Operand.tmp 11) (Go.Operand.tmp 61), 0, none⟩])
                  (.region [⟨some 62, Go.Op.load 25 (Go.Operand.tmp 11), 25, none⟩,
                    ⟨some 63, Go.Op.move (Go.Operand.tmp 1), 42, none⟩,
                    ⟨some 64, Go.Op.move (Go.Operand.tmp 7), 60, none⟩,
                    ⟨some 65, Go.Op.call { callee := Go.Callee.value (Go.Operand.func 33), args := #[Go.Operand.tmp 62, Go.Operand.tmp 63, Go.Operand.tmp 64], argTypes := #[25, 42, 60] }, 60, none⟩,
                    ⟨some 7, Go.Op.assign (Go.Operand.tmp 65), 60, none⟩])))
                (.region [⟨some 66, Go.Op.binOp Go.BinOp.add 3 (Go.Operand.tmp 58) (Go.Operand.const (Go.Value.int Go.IntKind.i64 1)) 3, 3, none⟩,
                  ⟨some 58, Go.Op.move (Go.Operand.tmp 66), 3, none⟩]))))))))
            (.seq (.region [⟨some 68, Go.Op.binOp Go.BinOp.eql 3 (Go.Operand.tmp 20) (Go.Operand.const (Go.Value.int Go.IntKind.i64 4)) 3, 4, none⟩,
              ⟨some 67, Go.Op.assign (Go.Operand.tmp 68), 4, none⟩])
            (.cond (Go.Operand.tmp 67)
              (.seq (.region [⟨some 69, Go.Op.fieldAddr 25 (Go.Operand.tmp 3) 2, 0, none⟩,
                ⟨some 70, Go.Op.load 23 (Go.Operand.tmp 69), 23, none⟩,
                ⟨some 71, Go.Op.call { callee := Go.Callee.builtin Go.Builtin.len, args := #[Go.Operand.tmp 70], argTypes := #[23] }, 3, none⟩,
                ⟨some 72, Go.Op.move (Go.Operand.const (Go.Value.int Go.IntKind.i64 0)), 3, none⟩])
              (.block 5
                (.loop
                  (.seq (.region [⟨some 73, Go.Op.binOp Go.BinOp.lss 3 (Go.Operand.tmp 72) (Go.Operand.tmp 71) 3, 0, none⟩])
                  (.seq (.cond (Go.Operand.tmp 73)
                    .skip
                    (.exit 5))
                  (.seq (.block 6
                    (.seq (.region [⟨some 74, Go.Op.indexAddr 23 (Go.Operand.tmp 70) (Go.Operand.tmp 72), 0, none⟩,
                      ⟨some 75, Go.Op.load 25 (Go.Operand.tmp 74), 25, none⟩,
                      ⟨some 13, Go.Op.alloc 25, 0, none⟩,
                      ⟨none, Go.Op.store 25 (Go.Operand.tmp 13) (Go.Operand.tmp 75), 0, none⟩])
                    (.region [⟨some 76, Go.Op.move (Go.Operand.tmp 7), 60, none⟩,
                      ⟨some 77, Go.Op.load 25 (Go.Operand.tmp 13), 25, none⟩,
                      ⟨some 78, Go.Op.move (Go.Operand.tmp 1), 42, none⟩,
                      ⟨some 79, Go.Op.move (Go.Operand.tmp 2), 60, none⟩,
                      ⟨some 80, Go.Op.call { callee := Go.Callee.value (Go.Operand.func 33), args := #[Go.Operand.tmp 77, Go.Operand.tmp 78, Go.Operand.tmp 79], argTypes := #[25, 42, 60] }, 60, none⟩,
                      ⟨some 81, Go.Op.call { callee := Go.Callee.value (Go.Operand.func 49), args := #[Go.Operand.tmp 76, Go.Operand.tmp 80], argTypes := #[60, 60] }, 4, none⟩])))
                  (.region [⟨some 82, Go.Op.binOp Go.BinOp.add 3 (Go.Operand.tmp 72) (Go.Operand.const (Go.Value.int Go.IntKind.i64 1)) 3, 3, none⟩,
                    ⟨some 72, Go.Op.move (Go.Operand.tmp 82), 3, none⟩])))))))
              (.seq (.region [⟨some 84, Go.Op.binOp Go.BinOp.eql 3 (Go.Operand.tmp 20) (Go.Operand.const (Go.Value.int Go.IntKind.i64 5)) 3, 4, none⟩,
                ⟨some 83, Go.Op.assign (Go.Operand.tmp 84), 4, none⟩])
              (.cond (Go.Operand.tmp 83)
                (.seq (.region [⟨some 85, Go.Op.move (Go.Operand.tmp 2), 60, none⟩,
                  ⟨some 86, Go.Op.call { callee := Go.Callee.value (Go.Operand.func 50), args := #[Go.Operand.tmp 85], argTypes := #[60] }, 60, none⟩,
                  ⟨some 14, Go.Op.assign (Go.Operand.tmp 86), 60, none⟩])
                (.seq (.seq (.region [⟨some 87, Go.Op.fieldAddr 25 (Go.Operand.tmp 3) 3, 0, none⟩,
                  ⟨some 88, Go.Op.load 3 (Go.Operand.tmp 87), 3, none⟩,
                  ⟨some 89, Go.Op.move (Go.Operand.const (Go.Value.int Go.IntKind.i64 0)), 3, none⟩])
                (.block 7
                  (.loop
                    (.seq (.region [⟨some 90, Go.Op.binOp Go.BinOp.lss 3 (Go.Operand.tmp 89) (Go.Operand.tmp 88) 3, 4, none⟩])
                    (.seq (.cond (Go.Operand.tmp 90)
                      .skip
                      (.exit 7))
                    (.seq (.block 8
                      (.region [⟨some 91, Go.Op.fieldAddr 25 (Go.Operand.tmp 3) 2, 0, none⟩,
                        ⟨some 92, Go.Op.load 23 (Go.Operand.tmp 91), 23, none⟩,
                        ⟨some 93, Go.Op.indexAddr 23 (Go.Operand.tmp 92) (Go.Operand.const (Go.Value.int Go.IntKind.i64 0)), 0, none⟩,
                        ⟨some 94, Go.Op.load 25 (Go.Operand.tmp 93), 25, none⟩,
                        ⟨some 95, Go.Op.move (Go.Operand.tmp 1), 42, none⟩,
                        ⟨some 96, Go.Op.move (Go.Operand.tmp 14), 60, none⟩,
                        ⟨some 97, Go.Op.call { callee := Go.Callee.value (Go.Operand.func 33), args := #[Go.Operand.tmp 94, Go.Operand.tmp 95, Go.Operand.tmp 96], argTypes := #[25, 42, 60] }, 60, none⟩,
                        ⟨some 14, Go.Op.assign (Go.Operand.tmp 97), 60, none⟩]))
                    (.region [⟨some 98, Go.Op.binOp Go.BinOp.add 3 (Go.Operand.tmp 89) (Go.Operand.const (Go.Value.int Go.IntKind.i64 1)) 3, 3, none⟩,
                      ⟨some 89, Go.Op.move (Go.Operand.tmp 98), 3, none⟩])))))))
                (.seq (.region [⟨some 99, Go.Op.move (Go.Operand.tmp 7), 60, none⟩,
                  ⟨some 100, Go.Op.move (Go.Operand.tmp 14), 60, none⟩,
                  ⟨some 101, Go.Op.call { callee := Go.Callee.value (Go.Operand.func 49), args := #[Go.Operand.tmp 99, Go.Operand.tmp 100], argTypes := #[60, 60] }, 4, none⟩])
                (.seq (.region [⟨some 102, Go.Op.fieldAddr 25 (Go.Operand.tmp 3) 3, 0, none⟩,
                  ⟨some 103, Go.Op.load 3 (Go.Operand.tmp 102), 3, none⟩,
                  ⟨some 15, Go.Op.assign (Go.Operand.tmp 103), 3, none⟩])
                (.block 9
                  (.loop
                    (.seq (.seq (.region [⟨some 104, Go.Op.fieldAddr 25 (Go.Operand.tmp 3) 4, 0, none⟩,
                      ⟨some 105, Go.Op.load 3 (Go.Operand.tmp 104), 3, none⟩,
                      ⟨some 106, Go.Op.binOp Go.BinOp.lss 3 (Go.Operand.tmp 105) (Go.Operand.const (Go.Value.int Go.IntKind.i64 0)) 3, 4, none⟩,
                      ⟨some 107, Go.Op.move (Go.Operand.tmp 106), 4, none⟩,
                      ⟨some 108, Go.Op.move (Go.Operand.tmp 15), 3, (some (107, false))⟩,
                      ⟨some 109, Go.Op.fieldAddr 25 (Go.Operand.tmp 3) 4, 0, (some (107, false))⟩,
                      ⟨some 110, Go.Op.load 3 (Go.Operand.tmp 109), 3, (some (107, false))⟩,
                      ⟨some 111, Go.Op.binOp Go.BinOp.lss 3 (Go.Operand.tmp 108) (Go.Operand.tmp 110) 3, 4, (some (107, false))⟩,
                      ⟨some 112, Go.Op.pick (Go.Operand.tmp 107) (Go.Operand.const (Go.Value.bool true)) (Go.Operand.tmp 111), 4, none⟩])
                    (.cond (Go.Operand.tmp 112)
                      .skip
                      (.exit 9)))
                    (.seq (.block 10
                      (.seq (.region [⟨some 115, Go.Op.fieldAddr 25 (Go.Operand.tmp 3) 2, 0, none⟩,
                        ⟨some 116, Go.Op.load 23 (Go.Operand.tmp 115), 23, none⟩,
                        ⟨some 117, Go.Op.indexAddr 23 (Go.Operand.tmp 116) (Go.Operand.const (Go.Value.int Go.IntKind.i64 0)), 0, none⟩,
                        ⟨some 118, Go.Op.load 25 (Go.Operand.tmp 117), 25, none⟩,
                        ⟨some 119, Go.Op.move (Go.Operand.tmp 1), 42, none⟩,
                        ⟨some 120, Go.Op.move (Go.Operand.tmp 14), 60, none⟩,
                        ⟨some 121, Go.Op.call { callee := Go.Callee.value (Go.Operand.func 33), args := #[Go.Operand.tmp 118, Go.Operand.tmp 119, Go.Operand.tmp 120], argTypes := #[25, 42, 60] }, 60, none⟩,
                        ⟨some 14, Go.Op.assign (Go.Operand.tmp 121), 60, none⟩])
                      (.seq (.region [⟨some 122, Go.Op.move (Go.Operand.tmp 7), 60, none⟩,
                        ⟨some 123, Go.Op.move (Go.Operand.tmp 14), 60, none⟩,
                        ⟨some 124, Go.Op.call { callee := Go.Callee.value (Go.Operand.func 49), args := #[Go.Operand.tmp 122, Go.Operand.tmp 123], argTypes := #[60, 60] }, 4, none⟩,
                        ⟨some 125, Go.Op.unOp Go.UnOp.not 4 (Go.Operand.tmp 124), 4, none⟩])
                      (.cond (Go.Operand.tmp 125)
                        (.exit 9)
                        .skip))))
                    (.region [⟨some 113, Go.Op.move (Go.Operand.tmp 15), 3, none⟩,
                      ⟨some 114, Go.Op.binOp Go.BinOp.add 3 (Go.Operand.tmp 113) (Go.Operand.const (Go.Value.int Go.IntKind.i64 1)) 3, 3, none⟩,
                      ⟨some 15, Go.Op.assign (Go.Operand.tmp 114), 3, none⟩])))))))))
                .skip))))))))))))
    (.seq (.region [⟨some 126, Go.Op.move (Go.Operand.tmp 7), 60, none⟩,
      ⟨some 6, Go.Op.assign (Go.Operand.tmp 126), 60, none⟩])
    .ret)))) :=
  ⟨foll, Tryz.f33, Tryz.func33, by kernel_rfl, by kernel_rfl, by kernel_rfl, by rw [Tryz.ntmps33]; decide⟩

/-- narrator.pattern.proper -/
theorem fn43 : FnIs Tryz.prog 43 1 [Go.ResultVar.tmp 2] (.seq (.region [⟨some 2, Go.Op.assign (Go.Operand.const (Go.Value.bool false)), 4, none⟩])
    (.seq (.seq (.region [⟨some 5, Go.Op.move (Go.Operand.tmp 0), 22, none⟩,
      ⟨some 6, Go.Op.call { callee := Go.Callee.builtin Go.Builtin.len, args := #[Go.Operand.tmp 5], argTypes := #[22] }, 3, none⟩,
      ⟨some 7, Go.Op.move (Go.Operand.const (Go.Value.int Go.IntKind.i64 0)), 3, none⟩])
    (.block 0
      (.loop
        (.seq (.region [⟨some 8, Go.Op.binOp Go.BinOp.lss 3 (Go.Operand.tmp 7) (Go.Operand.tmp 6) 3, 0, none⟩])
        (.seq (.cond (Go.Operand.tmp 8)
          .skip
          (.exit 0))
        (.seq (.block 1
          (.seq (.region [⟨some 9, Go.Op.move (Go.Operand.tmp 7), 3, none⟩,
            ⟨some 10, Go.Op.indexAddr 22 (Go.Operand.tmp 5) (Go.Operand.tmp 7), 0, none⟩,
            ⟨some 11, Go.Op.load 44 (Go.Operand.tmp 10), 44, none⟩,
            ⟨some 4, Go.Op.alloc 44, 0, none⟩,
            ⟨some 3, Go.Op.assign (Go.Operand.tmp 9), 3, none⟩,
            ⟨none, Go.Op.store 44 (Go.Operand.tmp 4) (Go.Operand.tmp 11), 0, none⟩])
          (.seq (.seq (.region [⟨some 12, Go.Op.fieldAddr 44 (Go.Operand.tmp 4) 0, 0, none⟩,
            ⟨some 13, Go.Op.load 21 (Go.Operand.tmp 12), 21, none⟩,
            ⟨some 14, Go.Op.call { callee := Go.Callee.value (Go.Operand.func 66), args := #[Go.Operand.tmp 13], argTypes := #[21] }, 4, none⟩,
            ⟨some 15, Go.Op.unOp Go.UnOp.not 4 (Go.Operand.tmp 14), 4, none⟩,
            ⟨some 16, Go.Op.move (Go.Operand.tmp 15), 4, none⟩,
            ⟨some 17, Go.Op.fieldAddr 44 (Go.Operand.tmp 4) 1, 0, (some (16, false))⟩,
            ⟨some 18, Go.Op.load 21 (Go.Operand.tmp 17), 21, (some (16, false))⟩,
            ⟨some 19, Go.Op.call { callee := Go.Callee.value (Go.Operand.func 66), args := #[Go.Operand.tmp 18], argTypes := #[21] }, 4, (some (16, false))⟩,
            ⟨some 20, Go.Op.unOp Go.UnOp.not 4 (Go.Operand.tmp 19), 4, (some (16, false))⟩,
            ⟨some 21, Go.Op.pick (Go.Operand.tmp 16) (Go.Operand.const (Go.Value.bool true)) (Go.Operand.tmp 20), 4, none⟩,
            ⟨some 22, Go.Op.move (Go.Operand.tmp 21), 4, none⟩,
            ⟨some 23, Go.Op.fieldAddr 44 (Go.Operand.tmp 4) 0, 0, (some (22, false))⟩,
            ⟨some 24, Go.Op.load 21 (Go.Operand.tmp 23), 21, (some (22, false))⟩,
            ⟨some 25, Go.Op.fieldAddr 44 (Go.Operand.tmp 4) 1, 0, (some (22, false))⟩,
            ⟨some 26, Go.Op.load 21 (Go.Operand.tmp 25), 21, (some (22, false))⟩,
            ⟨some 27, Go.Op.binOp Go.BinOp.gtr 21 (Go.Operand.tmp 24) (Go.Operand.tmp 26) 21, 4, (some (22, false))⟩,
            ⟨some 28, Go.Op.pick (Go.Operand.tmp 22) (Go.Operand.const (Go.Value.bool true)) (Go.Operand.tmp 27), 4, none⟩,
            ⟨some 29, Go.Op.move (Go.Operand.tmp 28), 4, none⟩,
            ⟨some 30, Go.Op.fieldAddr 44 (Go.Operand.tmp 4) 0, 0, (some (29, false))⟩,
            ⟨some 31, Go.Op.load 21 (Go.Operand.tmp 30), 21, (some (29, false))⟩,
            ⟨some 32, Go.Op.binOp Go.BinOp.lss 21 (Go.Operand.tmp 31) (Go.Operand.const (Go.Value.int Go.IntKind.i32 55296)) 21, 4, (some (29, false))⟩,
            ⟨some 33, Go.Op.fieldAddr 44 (Go.Operand.tmp 4) 1, 0, (some (29, false))⟩,
            ⟨some 34, Go.Op.load 21 (Go.Operand.tmp 33), 21, (some (29, false))⟩,
            ⟨some 35, Go.Op.binOp Go.BinOp.lss 21 (Go.Operand.tmp 34) (Go.Operand.const (Go.Value.int Go.IntKind.i32 55296)) 21, 4, (some (29, false))⟩,
            ⟨some 36, Go.Op.binOp Go.BinOp.neq 4 (Go.Operand.tmp 32) (Go.Operand.tmp 35) 4, 4, (some (29, false))⟩,
            ⟨some 37, Go.Op.pick (Go.Operand.tmp 29) (Go.Operand.const (Go.Value.bool true)) (Go.Operand.tmp 36), 4, none⟩])
          (.cond (Go.Operand.tmp 37)
            (.seq (.region [⟨some 2, Go.Op.assign (Go.Operand.const (Go.Value.bool false)), 4, none⟩])
            .ret)
            .skip))
          (.seq (.draw [⟨⟨some 38, Go.Op.move (Go.Operand.tmp 3), 3, none⟩, false, false, false⟩,
            ⟨⟨some 39, Go.Op.binOp Go.BinOp.gtr 3 (Go.Operand.tmp 38) (Go.Operand.const (Go.Value.int Go.IntKind.i64 0)) 3, 4, none⟩, false, false, false⟩,
            ⟨⟨some 40, Go.Op.move (Go.Operand.tmp 39), 4, none⟩, false, false, false⟩,
            ⟨⟨some 41, Go.Op.fieldAddr 44 (Go.Operand.tmp 4) 0, 0, (some (40, true))⟩, false, false, false⟩,
            ⟨⟨some 42, Go.Op.load 21 (Go.Operand.tmp 41), 21, (some (40, true))⟩, false, false, false⟩,
            ⟨⟨some 43, Go.Op.move (Go.Operand.tmp 0), 22, (some (40, true))⟩, false, false, false⟩,
            ⟨⟨some 44, Go.Op.move (Go.Operand.tmp 3), 3, (some (40, true))⟩, false, false, false⟩,
            ⟨⟨some 45, Go.Op.binOp Go.BinOp.sub 3 (Go.Operand.tmp 44) (Go.Operand.const (Go.Value.int Go.IntKind.i64 1)) 3, 3, (some (40, true))⟩, false, false, false⟩,
            ⟨⟨some 46, Go.Op.indexAddr 22 (Go.Operand.tmp 43) (Go.Operand.tmp 45), 0, (some (40, true))⟩, false, false, false⟩,
            ⟨⟨some 47, Go.Op.fieldAddr 44 (Go.Operand.tmp 46) 1, 0, (some (40, true))⟩, false, false, false⟩,
            ⟨⟨some 48, Go.Op.load 21 (Go.Operand.tmp 47), 21, (some (40, true))⟩, false, false, false⟩,
            ⟨⟨some 49, Go.Op.binOp Go.BinOp.sub 21 (Go.Operand.tmp 42) (Go.Operand.tmp 48) 21, 21, (some (40, true))⟩, false, false, false⟩,
            ⟨⟨some 50, Go.Op.binOp Go.BinOp.lss 21 (Go.Operand.tmp 49) (Go.Operand.const (Go.Value.int Go.IntKind.i32 2)) 21, 4, (some (40, true))⟩, false, false, false⟩,
            ⟨⟨some 51, Go.Op.pick (Go.Operand.tmp 40) (Go.Operand.tmp 50) (Go.Operand.const (Go.Value.bool false)), 4, none⟩, false, false, false⟩])
          (.cond (Go.Operand.tmp 51)
            (.seq (.region [⟨some 2, Go.Op.assign (Go.Operand.const (Go.Value.bool false)), 4, none⟩])
            .ret)
            .skip)))))
        (.region [⟨some 52, Go.Op.binOp Go.BinOp.add 3 (Go.Operand.tmp 7) (Go.Operand.const (Go.Value.int Go.IntKind.i64 1)) 3, 3, none⟩,
          ⟨some 7, Go.Op.move (Go.Operand.tmp 52), 3, none⟩])))))))
    (.seq (.region [⟨some 2, Go.Op.assign (Go.Operand.const (Go.Value.bool true)), 4, none⟩])
    .ret))) :=
  ⟨foll, Tryz.f43, Tryz.func43, by kernel_rfl, by kernel_rfl, by kernel_rfl, by rw [Tryz.ntmps43]; decide⟩

/-- narrator.utf8stream.begin -/
theorem fn46 : FnIs Tryz.prog 46 1 [Go.ResultVar.cell 2 72] (.seq (.region [⟨some 2, Go.Op.alloc 72, 0, none⟩])
    (.seq (.region [⟨some 4, Go.Op.build 72 #[(2, Go.Operand.const (Go.Value.int Go.IntKind.u8 128)), (3, Go.Operand.const (Go.Value.int Go.IntKind.u8 191))], 72, none⟩,
      ⟨some 3, Go.Op.alloc 72, 0, none⟩,
      ⟨none, Go.Op.store 72 (Go.Operand.tmp 3) (Go.Operand.tmp 4), 0, none⟩])
    (.seq (.block 0
      (.seq (.region [⟨some 6, Go.Op.move (Go.Operand.tmp 0), 5, none⟩,
        ⟨some 7, Go.Op.binOp Go.BinOp.geq 5 (Go.Operand.tmp 6) (Go.Operand.const (Go.Value.int Go.IntKind.u8 194)) 5, 4, none⟩,
        ⟨some 8, Go.Op.move (Go.Operand.tmp 7), 4, none⟩,
        ⟨some 9, Go.Op.move (Go.Operand.tmp 0), 5, (some (8, true))⟩,
        ⟨some 10, Go.Op.binOp Go.BinOp.leq 5 (Go.Operand.tmp 9) (Go.Operand.const (Go.Value.int Go.IntKind.u8 223)) 5, 4, (some (8, true))⟩,
        ⟨some 11, Go.Op.pick (Go.Operand.tmp 8) (Go.Operand.tmp 10) (Go.Operand.const (Go.Value.bool false)), 4, none⟩,
        ⟨some 5, Go.Op.assign (Go.Operand.tmp 11), 4, none⟩])
      (.cond (Go.Operand.tmp 5)
        (.region [⟨some 12, Go.Op.move (Go.Operand.tmp 0), 5, none⟩,
          ⟨some 13, Go.Op.binOp Go.BinOp.and 5 (Go.Operand.tmp 12) (Go.Operand.const (Go.Value.int Go.IntKind.u8 31)) 5, 5, none⟩,
          ⟨some 14, Go.Op.convert 5 21 (Go.Operand.tmp 13), 21, none⟩,
          ⟨some 15, Go.Op.fieldAddr 72 (Go.Operand.tmp 3) 0, 0, none⟩,
          ⟨none, Go.Op.store 21 (Go.Operand.tmp 15) (Go.Operand.tmp 14), 0, none⟩,
          ⟨some 16, Go.Op.fieldAddr 72 (Go.Operand.tmp 3) 1, 0, none⟩,
          ⟨none, Go.Op.store 3 (Go.Operand.tmp 16) (Go.Operand.const (Go.Value.int Go.IntKind.i64 1)), 0, none⟩])
        (.seq (.region [⟨some 18, Go.Op.move (Go.Operand.tmp 0), 5, none⟩,
          ⟨some 19, Go.Op.binOp Go.BinOp.geq 5 (Go.Operand.tmp 18) (Go.Operand.const (Go.Value.int Go.IntKind.u8 224)) 5, 4, none⟩,
          ⟨some 20, Go.Op.move (Go.Operand.tmp 19), 4, none⟩,
          ⟨some 21, Go.Op.move (Go.Operand.tmp 0), 5, (some (20, true))⟩,
          ⟨some 22, Go.Op.binOp Go.BinOp.leq 5 (Go.Operand.tmp 21) (Go.Operand.const (Go.Value.int Go.IntKind.u8 239)) 5, 4, (some (20, true))⟩,
          ⟨some 23, Go.Op.pick (Go.Operand.tmp 20) (Go.Operand.tmp 22) (Go.Operand.const (Go.Value.bool false)), 4, none⟩,
          ⟨some 17, Go.Op.assign (Go.Operand.tmp 23), 4, none⟩])
        (.cond (Go.Operand.tmp 17)
          (.region [⟨some 24, Go.Op.move (Go.Operand.tmp 0), 5, none⟩,
            ⟨some 25, Go.Op.binOp Go.BinOp.and 5 (Go.Operand.tmp 24) (Go.Operand.const (Go.Value.int Go.IntKind.u8 15)) 5, 5, none⟩,
            ⟨some 26, Go.Op.convert 5 21 (Go.Operand.tmp 25), 21, none⟩,
            ⟨some 27, Go.Op.fieldAddr 72 (Go.Operand.tmp 3) 0, 0, none⟩,
            ⟨none, Go.Op.store 21 (Go.Operand.tmp 27) (Go.Operand.tmp 26), 0, none⟩,
            ⟨some 28, Go.Op.fieldAddr 72 (Go.Operand.tmp 3) 1, 0, none⟩,
            ⟨none, Go.Op.store 3 (Go.Operand.tmp 28) (Go.Operand.const (Go.Value.int Go.IntKind.i64 2)), 0, none⟩])
          (.seq (.region [⟨some 30, Go.Op.move (Go.Operand.tmp 0), 5, none⟩,
            ⟨some 31, Go.Op.binOp Go.BinOp.geq 5 (Go.Operand.tmp 30) (Go.Operand.const (Go.Value.int Go.IntKind.u8 240)) 5, 4, none⟩,
            ⟨some 32, Go.Op.move (Go.Operand.tmp 31), 4, none⟩,
            ⟨some 33, Go.Op.move (Go.Operand.tmp 0), 5, (some (32, true))⟩,
            ⟨some 34, Go.Op.binOp Go.BinOp.leq 5 (Go.Operand.tmp 33) (Go.Operand.const (Go.Value.int Go.IntKind.u8 244)) 5, 4, (some (32, true))⟩,
            ⟨some 35, Go.Op.pick (Go.Operand.tmp 32) (Go.Operand.tmp 34) (Go.Operand.const (Go.Value.bool false)), 4, none⟩,
            ⟨some 29, Go.Op.assign (Go.Operand.tmp 35), 4, none⟩])
          (.cond (Go.Operand.tmp 29)
            (.region [⟨some 36, Go.Op.move (Go.Operand.tmp 0), 5, none⟩,
              ⟨some 37, Go.Op.binOp Go.BinOp.and 5 (Go.Operand.tmp 36) (Go.Operand.const (Go.Value.int Go.IntKind.u8 7)) 5, 5, none⟩,
              ⟨some 38, Go.Op.convert 5 21 (Go.Operand.tmp 37), 21, none⟩,
              ⟨some 39, Go.Op.fieldAddr 72 (Go.Operand.tmp 3) 0, 0, none⟩,
              ⟨none, Go.Op.store 21 (Go.Operand.tmp 39) (Go.Operand.tmp 38), 0, none⟩,
              ⟨some 40, Go.Op.fieldAddr 72 (Go.Operand.tmp 3) 1, 0, none⟩,
              ⟨none, Go.Op.store 3 (Go.Operand.tmp 40) (Go.Operand.const (Go.Value.int Go.IntKind.i64 3)), 0, none⟩])
            .skip)))))))
    (.seq (.seq (.region [⟨some 41, Go.Op.move (Go.Operand.tmp 0), 5, none⟩])
    (.block 1
      (.seq (.region [⟨some 43, Go.Op.binOp Go.BinOp.eql 5 (Go.Operand.tmp 41) (Go.Operand.const (Go.Value.int Go.IntKind.u8 224)) 5, 4, none⟩,
        ⟨some 42, Go.Op.assign (Go.Operand.tmp 43), 4, none⟩])
      (.cond (Go.Operand.tmp 42)
        (.region [⟨some 44, Go.Op.fieldAddr 72 (Go.Operand.tmp 3) 2, 0, none⟩,
          ⟨none, Go.Op.store 5 (Go.Operand.tmp 44) (Go.Operand.const (Go.Value.int Go.IntKind.u8 160)), 0, none⟩])
        (.seq (.region [⟨some 46, Go.Op.binOp Go.BinOp.eql 5 (Go.Operand.tmp 41) (Go.Operand.const (Go.Value.int Go.IntKind.u8 237)) 5, 4, none⟩,
          ⟨some 45, Go.Op.assign (Go.Operand.tmp 46), 4, none⟩])
        (.cond (Go.Operand.tmp 45)
          (.region [⟨some 47, Go.Op.fieldAddr 72 (Go.Operand.tmp 3) 3, 0, none⟩,
            ⟨none, Go.Op.store 5 (Go.Operand.tmp 47) (Go.Operand.const (Go.Value.int Go.IntKind.u8 159)), 0, none⟩])
          (.seq (.region [⟨some 49, Go.Op.binOp Go.BinOp.eql 5 (Go.Operand.tmp 41) (Go.Operand.const (Go.Value.int Go.IntKind.u8 240)) 5, 4, none⟩,
            ⟨some 48, Go.Op.assign (Go.Operand.tmp 49), 4, none⟩])
          (.cond (Go.Operand.tmp 48)
            (.region [⟨some 50, Go.Op.fieldAddr 72 (Go.Operand.tmp 3) 2, 0, none⟩,
              ⟨none, Go.Op.store 5 (Go.Operand.tmp 50) (Go.Operand.const (Go.Value.int Go.IntKind.u8 144)), 0, none⟩])
            (.seq (.region [⟨some 52, Go.Op.binOp Go.BinOp.eql 5 (Go.Operand.tmp 41) (Go.Operand.const (Go.Value.int Go.IntKind.u8 244)) 5, 4, none⟩,
              ⟨some 51, Go.Op.assign (Go.Operand.tmp 52), 4, none⟩])
            (.cond (Go.Operand.tmp 51)
              (.region [⟨some 53, Go.Op.fieldAddr 72 (Go.Operand.tmp 3) 3, 0, none⟩,
                ⟨none, Go.Op.store 5 (Go.Operand.tmp 53) (Go.Operand.const (Go.Value.int Go.IntKind.u8 143)), 0, none⟩])
              .skip))))))))))
    (.seq (.region [⟨some 54, Go.Op.load 72 (Go.Operand.tmp 3), 72, none⟩,
      ⟨none, Go.Op.store 72 (Go.Operand.tmp 2) (Go.Operand.tmp 54), 0, none⟩])
    .ret))))) :=
  ⟨foll, Tryz.f46, Tryz.func46, by kernel_rfl, by kernel_rfl, by kernel_rfl, by rw [Tryz.ntmps46]; decide⟩

/-- slices.ContainsFunc[[]narrator.api.Range,narrator.api.Range] -/
theorem fn47 : FnIs Tryz.prog 47 2 [Go.ResultVar.tmp 4] (.seq (.region [⟨some 4, Go.Op.assign (Go.Operand.const (Go.Value.bool false)), 4, none⟩])
    (.seq (.region [⟨some 5, Go.Op.move (Go.Operand.tmp 0), 22, none⟩,
      ⟨some 6, Go.Op.move (Go.Operand.tmp 1), 76, none⟩,
      ⟨some 7, Go.Op.call { callee := Go.Callee.value (Go.Operand.func 68), args := #[Go.Operand.tmp 5, Go.Operand.tmp 6], argTypes := #[22, 76] }, 3, none⟩,
      ⟨some 8, Go.Op.binOp Go.BinOp.geq 3 (Go.Operand.tmp 7) (Go.Operand.const (Go.Value.int Go.IntKind.i64 0)) 3, 4, none⟩,
      ⟨some 4, Go.Op.assign (Go.Operand.tmp 8), 4, none⟩])
    .ret)) :=
  ⟨foll, Tryz.f47, Tryz.func47, by kernel_rfl, by kernel_rfl, by kernel_rfl, by rw [Tryz.ntmps47]; decide⟩

/-- narrator.pattern.reach$1 -/
theorem fn48 : FnIs Tryz.prog 48 2 [Go.ResultVar.tmp 3] (.seq (.region [⟨some 2, Go.Op.box 44 (Go.Operand.tmp 0), 0, none⟩,
      ⟨some 3, Go.Op.assign (Go.Operand.const (Go.Value.bool false)), 4, none⟩])
    (.seq (.region [⟨some 4, Go.Op.load 21 (Go.Operand.tmp 1), 21, none⟩,
      ⟨some 5, Go.Op.fieldAddr 44 (Go.Operand.tmp 2) 0, 0, none⟩,
      ⟨some 6, Go.Op.load 21 (Go.Operand.tmp 5), 21, none⟩,
      ⟨some 7, Go.Op.binOp Go.BinOp.geq 21 (Go.Operand.tmp 4) (Go.Operand.tmp 6) 21, 4, none⟩,
      ⟨some 8, Go.Op.move (Go.Operand.tmp 7), 4, none⟩,
      ⟨some 9, Go.Op.load 21 (Go.Operand.tmp 1), 21, (some (8, true))⟩,
      ⟨some 10, Go.Op.fieldAddr 44 (Go.Operand.tmp 2) 1, 0, (some (8, true))⟩,
      ⟨some 11, Go.Op.load 21 (Go.Operand.tmp 10), 21, (some (8, true))⟩,
      ⟨some 12, Go.Op.binOp Go.BinOp.leq 21 (Go.Operand.tmp 9) (Go.Operand.tmp 11) 21, 4, (some (8, true))⟩,
      ⟨some 13, Go.Op.pick (Go.Operand.tmp 8) (Go.Operand.tmp 12) (Go.Operand.const (Go.Value.bool false)), 4, none⟩,
      ⟨some 3, Go.Op.assign (Go.Operand.tmp 13), 4, none⟩])
    .ret)) :=
  ⟨foll, Tryz.f48, Tryz.func48, by kernel_rfl, by kernel_rfl, by kernel_rfl, by rw [Tryz.ntmps48]; decide⟩

/-- narrator.pattern.union -/
theorem fn49 : FnIs Tryz.prog 49 2 [Go.ResultVar.tmp 4] (.seq (.region [⟨some 4, Go.Op.assign (Go.Operand.const (Go.Value.bool false)), 4, none⟩])
    (.seq (.region [⟨some 5, Go.Op.assign (Go.Operand.const (Go.Value.bool false)), 4, none⟩])
    (.seq (.seq (.region [⟨some 8, Go.Op.move (Go.Operand.tmp 1), 60, none⟩,
      ⟨some 9, Go.Op.call { callee := Go.Callee.builtin Go.Builtin.len, args := #[Go.Operand.tmp 8], argTypes := #[60] }, 3, none⟩,
      ⟨some 10, Go.Op.move (Go.Operand.const (Go.Value.int Go.IntKind.i64 0)), 3, none⟩])
    (.block 0
      (.loop
        (.seq (.region [⟨some 11, Go.Op.binOp Go.BinOp.lss 3 (Go.Operand.tmp 10) (Go.Operand.tmp 9) 3, 0, none⟩])
        (.seq (.cond (Go.Operand.tmp 11)
          .skip
          (.exit 0))
        (.seq (.block 1
          (.seq (.region [⟨some 12, Go.Op.move (Go.Operand.tmp 10), 3, none⟩,
            ⟨some 13, Go.Op.indexAddr 60 (Go.Operand.tmp 8) (Go.Operand.tmp 10), 0, none⟩,
            ⟨some 14, Go.Op.load 4 (Go.Operand.tmp 13), 4, none⟩,
            ⟨some 6, Go.Op.assign (Go.Operand.tmp 12), 3, none⟩,
            ⟨some 7, Go.Op.assign (Go.Operand.tmp 14), 4, none⟩])
          (.seq (.region [⟨some 15, Go.Op.move (Go.Operand.tmp 7), 4, none⟩,
            ⟨some 16, Go.Op.move (Go.Operand.tmp 15), 4, none⟩,
            ⟨some 17, Go.Op.move (Go.Operand.tmp 0), 60, (some (16, true))⟩,
            ⟨some 18, Go.Op.move (Go.Operand.tmp 6), 3, (some (16, true))⟩,
            ⟨some 19, Go.Op.indexAddr 60 (Go.Operand.tmp 17) (Go.Operand.tmp 18), 0, (some (16, true))⟩,
            ⟨some 20, Go.Op.load 4 (Go.Operand.tmp 19), 4, (some (16, true))⟩,
            ⟨some 21, Go.Op.unOp Go.UnOp.not 4 (Go.Operand.tmp 20), 4, (some (16, true))⟩,
            ⟨some 22, Go.Op.pick (Go.Operand.tmp 16) (Go.Operand.tmp 21) (Go.Operand.const (Go.Value.bool false)), 4, none⟩])
          (.cond (Go.Operand.tmp 22)
            (.region [⟨some 23, Go.Op.move (Go.Operand.tmp 0), 60, none⟩,
              ⟨some 24, Go.Op.move (Go.Operand.tmp 6), 3, none⟩,
              ⟨some 25, Go.Op.indexAddr 60 (Go.Operand.tmp 23) (Go.Operand.tmp 24), 0, none⟩,
              ⟨none, Go.Op.store 4 (Go.Operand.tmp 25) (Go.Operand.const (Go.Value.bool true)), 0, none⟩,
              ⟨some 5, Go.Op.assign (Go.Operand.const (Go.Value.bool true)), 4, none⟩])
            .skip))))
        (.region [⟨some 26, Go.Op.binOp Go.BinOp.add 3 (Go.Operand.tmp 10) (Go.Operand.const (Go.Value.int Go.IntKind.i64 1)) 3, 3, none⟩,
          ⟨some 10, Go.Op.move (Go.Operand.tmp 26), 3, none⟩])))))))
    (.seq (.region [⟨some 27, Go.Op.move (Go.Operand.tmp 5), 4, none⟩,
      ⟨some 4, Go.Op.assign (Go.Operand.tmp 27), 4, none⟩])
    .ret)))) :=
  ⟨foll, Tryz.f49, Tryz.func49, by kernel_rfl, by kernel_rfl, by kernel_rfl, by rw [Tryz.ntmps49]; decide⟩

/-- slices.Clone[[]bool,bool] -/
theorem fn50 : FnIs Tryz.prog 50 1 [Go.ResultVar.tmp 2] (.seq (.region [⟨some 2, Go.Op.assign (Go.Operand.const (Go.Value.slice none 0 0)), 60, none⟩])
    (.seq (.seq (.region [⟨some 3, Go.Op.move (Go.Operand.tmp 0), 60, none⟩,
      ⟨some 4, Go.Op.binOp Go.BinOp.eql 60 (Go.Operand.tmp 3) (Go.Operand.const (Go.Value.slice none 0 0)) 60, 4, none⟩])
    (.cond (Go.Operand.tmp 4)
      (.seq (.region [⟨some 2, Go.Op.assign (Go.Operand.const (Go.Value.slice none 0 0)), 60, none⟩])
      .ret)
      .skip))
    (.seq (.region [⟨some 5, Go.Op.buildSlice 60 0 #[], 60, none⟩,
      ⟨some 6, Go.Op.move (Go.Operand.tmp 0), 60, none⟩,
      ⟨some 7, Go.Op.call { callee := Go.Callee.builtin Go.Builtin.append, args := #[Go.Operand.tmp 5, Go.Operand.tmp 6], argTypes := #[60, 60] }, 60, none⟩,
      ⟨some 2, Go.Op.assign (Go.Operand.tmp 7), 60, none⟩])
    .ret))) :=
  ⟨foll, Tryz.f50, Tryz.func50, by kernel_rfl, by kernel_rfl, by kernel_rfl, by rw [Tryz.ntmps50]; decide⟩

/-- narrator.pattern.character -/
theorem fn66 : FnIs Tryz.prog 66 1 [Go.ResultVar.tmp 2] (.seq (.region [⟨some 2, Go.Op.assign (Go.Operand.const (Go.Value.bool false)), 4, none⟩])
    (.seq (.region [⟨some 3, Go.Op.move (Go.Operand.tmp 0), 21, none⟩,
      ⟨some 4, Go.Op.binOp Go.BinOp.geq 21 (Go.Operand.tmp 3) (Go.Operand.const (Go.Value.int Go.IntKind.i32 0)) 21, 4, none⟩,
      ⟨some 5, Go.Op.move (Go.Operand.tmp 4), 4, none⟩,
      ⟨some 6, Go.Op.move (Go.Operand.tmp 0), 21, (some (5, true))⟩,
      ⟨some 7, Go.Op.binOp Go.BinOp.leq 21 (Go.Operand.tmp 6) (Go.Operand.const (Go.Value.int Go.IntKind.i32 55295)) 21, 4, (some (5, true))⟩,
      ⟨some 8, Go.Op.pick (Go.Operand.tmp 5) (Go.Operand.tmp 7) (Go.Operand.const (Go.Value.bool false)), 4, none⟩,
      ⟨some 9, Go.Op.move (Go.Operand.tmp 8), 4, none⟩,
      ⟨some 10, Go.Op.move (Go.Operand.tmp 0), 21, (some (9, false))⟩,
      ⟨some 11, Go.Op.binOp Go.BinOp.geq 21 (Go.Operand.tmp 10) (Go.Operand.const (Go.Value.int Go.IntKind.i32 57344)) 21, 4, (some (9, false))⟩,
      ⟨some 12, Go.Op.move (Go.Operand.tmp 11), 4, (some (9, false))⟩,
      ⟨some 13, Go.Op.move (Go.Operand.tmp 0), 21, (some (12, true))⟩,
      ⟨some 14, Go.Op.binOp Go.BinOp.leq 21 (Go.Operand.tmp 13) (Go.Operand.const (Go.Value.int Go.IntKind.i32 1114111)) 21, 4, (some (12, true))⟩,
      ⟨some 15, Go.Op.pick (Go.Operand.tmp 12) (Go.Operand.tmp 14) (Go.Operand.const (Go.Value.bool false)), 4, (some (9, false))⟩,
      ⟨some 16, Go.Op.pick (Go.Operand.tmp 9) (Go.Operand.const (Go.Value.bool true)) (Go.Operand.tmp 15), 4, none⟩,
      ⟨some 2, Go.Op.assign (Go.Operand.tmp 16), 4, none⟩])
    .ret)) :=
  ⟨foll, Tryz.f66, Tryz.func66, by kernel_rfl, by kernel_rfl, by kernel_rfl, by rw [Tryz.ntmps66]; decide⟩

/-- slices.IndexFunc[[]narrator.api.Range,narrator.api.Range] -/
theorem fn68 : FnIs Tryz.prog 68 2 [Go.ResultVar.tmp 4] (.seq (.region [⟨some 4, Go.Op.assign (Go.Operand.const (Go.Value.int Go.IntKind.i64 0)), 3, none⟩])
    (.seq (.seq (.region [⟨some 6, Go.Op.move (Go.Operand.tmp 0), 22, none⟩,
      ⟨some 7, Go.Op.call { callee := Go.Callee.builtin Go.Builtin.len, args := #[Go.Operand.tmp 6], argTypes := #[22] }, 3, none⟩,
      ⟨some 8, Go.Op.move (Go.Operand.const (Go.Value.int Go.IntKind.i64 0)), 3, none⟩])
    (.block 0
      (.loop
        (.seq (.region [⟨some 9, Go.Op.binOp Go.BinOp.lss 3 (Go.Operand.tmp 8) (Go.Operand.tmp 7) 3, 0, none⟩])
        (.seq (.cond (Go.Operand.tmp 9)
          .skip
          (.exit 0))
        (.seq (.block 1
          (.seq (.region [⟨some 10, Go.Op.move (Go.Operand.tmp 8), 3, none⟩,
            ⟨some 5, Go.Op.assign (Go.Operand.tmp 10), 3, none⟩])
          (.seq (.region [⟨some 11, Go.Op.move (Go.Operand.tmp 1), 76, none⟩,
            ⟨some 12, Go.Op.move (Go.Operand.tmp 0), 22, none⟩,
            ⟨some 13, Go.Op.move (Go.Operand.tmp 5), 3, none⟩,
            ⟨some 14, Go.Op.indexAddr 22 (Go.Operand.tmp 12) (Go.Operand.tmp 13), 0, none⟩,
            ⟨some 15, Go.Op.load 44 (Go.Operand.tmp 14), 44, none⟩,
            ⟨some 16, Go.Op.call { callee := Go.Callee.value (Go.Operand.tmp 11), args := #[Go.Operand.tmp 15], argTypes := #[44] }, 4, none⟩])
          (.cond (Go.Operand.tmp 16)
            (.seq (.region [⟨some 17, Go.Op.move (Go.Operand.tmp 5), 3, none⟩,
              ⟨some 4, Go.Op.assign (Go.Operand.tmp 17), 3, none⟩])
            .ret)
            .skip))))
        (.region [⟨some 18, Go.Op.binOp Go.BinOp.add 3 (Go.Operand.tmp 8) (Go.Operand.const (Go.Value.int Go.IntKind.i64 1)) 3, 3, none⟩,
          ⟨some 8, Go.Op.move (Go.Operand.tmp 18), 3, none⟩])))))))
    (.seq (.region [⟨some 4, Go.Op.assign (Go.Operand.const (Go.Value.int Go.IntKind.i64 (-1))), 3, none⟩])
    .ret))) :=
  ⟨foll, Tryz.f68, Tryz.func68, by kernel_rfl, by kernel_rfl, by kernel_rfl, by rw [Tryz.ntmps68]; decide⟩

end Go.Proofs.YtebejiilpedlmaaGreatDoor
