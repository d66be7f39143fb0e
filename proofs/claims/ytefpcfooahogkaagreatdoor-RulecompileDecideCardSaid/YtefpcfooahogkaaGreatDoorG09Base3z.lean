/- Facts on the types of this seat's program, and the prepared code of its functions. Written by a program of mine (gen.py) out of what the loaded dump prints. -/
import Derived.Test.YtefpcfooahogkaaGreatDoorProg
import Derived.Test.YtefpcfooahogkaaGreatDoorG08NvP
import Derived.KernelRfl
set_option linter.unusedVariables false
set_option maxRecDepth 100000
namespace Go.Proofs.YtefpcfooahogkaaGreatDoor
open Go Nv

attribute [go_sem] Tryz.underlying0 Tryz.underlying1 Tryz.underlying2 Tryz.underlying3 Tryz.underlying4 Tryz.underlying5 Tryz.underlying6 Tryz.underlying7 Tryz.underlying8 Tryz.underlying9 Tryz.underlying10 Tryz.underlying11 Tryz.underlying12 Tryz.underlying13 Tryz.underlying14 Tryz.underlying15 Tryz.underlying16 Tryz.underlying17 Tryz.underlying18 Tryz.underlying19 Tryz.underlying20 Tryz.underlying21 Tryz.underlying22 Tryz.underlying23 Tryz.underlying24 Tryz.underlying25 Tryz.underlying26 Tryz.underlying27 Tryz.underlying28 Tryz.underlying29 Tryz.underlying30 Tryz.underlying31 Tryz.underlying32 Tryz.underlying33 Tryz.underlying34 Tryz.underlying35 Tryz.underlying36 Tryz.underlying37 Tryz.underlying38 Tryz.underlying39 Tryz.underlying40 Tryz.underlying41 Tryz.underlying42 Tryz.underlying43 Tryz.underlying44 Tryz.underlying45 Tryz.underlying46 Tryz.underlying47 Tryz.underlying48 Tryz.underlying49 Tryz.underlying50 Tryz.underlying51 Tryz.underlying52 Tryz.underlying53 Tryz.underlying54 Tryz.underlying55 Tryz.underlying56 Tryz.underlying57 Tryz.underlying58 Tryz.underlying59 Tryz.underlying60 Tryz.underlying61 Tryz.underlying62 Tryz.underlying63 Tryz.underlying64 Tryz.underlying65 Tryz.underlying66 Tryz.underlying67 Tryz.underlying68 Tryz.underlying69 Tryz.underlying70 Tryz.underlying71 Tryz.underlying72 Tryz.underlying73 Tryz.underlying74 Tryz.underlying75 Tryz.underlying76 Tryz.underlying77 Tryz.underlying78 Tryz.underlying79 Tryz.underlying80 Tryz.underlying81 Tryz.underlying82 Tryz.underlying83 Tryz.underlying84 Tryz.underlying85 Tryz.underlying86 Tryz.underlying87 Tryz.underlying88 Tryz.underlying89 Tryz.underlying90 Tryz.underlying91 Tryz.underlying92 Tryz.underlying93 Tryz.underlying94 Tryz.underlying95 Tryz.underlying96 Tryz.underlying97 Tryz.underlying98 Tryz.underlying99 Tryz.underlying100 Tryz.underlying101 Tryz.underlying102 Tryz.underlying103 Tryz.underlying104 Tryz.underlying105 Tryz.underlying106 Tryz.underlying107 Tryz.underlying108 Tryz.underlying109 Tryz.underlying110 Tryz.underlying111 Tryz.underlying112 Tryz.underlying113 Tryz.underlying114 Tryz.underlying115 Tryz.underlying116 Tryz.underlying117 Tryz.underlying118 Tryz.underlying119 Tryz.underlying120 Tryz.underlying121 Tryz.underlying122 Tryz.underlying123 Tryz.underlying124 Tryz.underlying125 Tryz.underlying126 Tryz.underlying127 Tryz.underlying128 Tryz.underlying129 Tryz.underlying130 Tryz.underlying131 Tryz.underlying132 Tryz.underlying133 Tryz.underlying134 Tryz.underlying135 Tryz.underlying136 Tryz.underlying137 Tryz.underlying138 Tryz.underlying139 Tryz.underlying140 Tryz.underlying141 Tryz.underlying142 Tryz.underlying143 Tryz.underlying144 Tryz.underlying145 Tryz.underlying146 Tryz.underlying147 Tryz.underlying148 Tryz.underlying149 Tryz.underlying150 Tryz.underlying151 Tryz.underlying152 Tryz.underlying153 Tryz.underlying154 Tryz.underlying155 Tryz.underlying156 Tryz.underlying157 Tryz.underlying158 Tryz.underlying159 Tryz.underlying160 Tryz.underlying161 Tryz.underlying162 Tryz.underlying163 Tryz.underlying164 Tryz.underlying165 Tryz.underlying166
@[go_sem] theorem c2 : Tryz.prog.cellsOf 2 = 1 := nrfl (by kernel_rfl)
@[go_sem] theorem by2 : Tryz.prog.bytesOf 2 = 8 := nrfl (by kernel_rfl)
@[go_sem] theorem z2 : zeroA Tryz.prog 2 = (.d (.int .i64 0)) := nrfl (by kernel_rfl)
@[go_sem] theorem c3 : Tryz.prog.cellsOf 3 = 1 := nrfl (by kernel_rfl)
@[go_sem] theorem by3 : Tryz.prog.bytesOf 3 = 8 := nrfl (by kernel_rfl)
@[go_sem] theorem z3 : zeroA Tryz.prog 3 = (.d (.int .i64 0)) := nrfl (by kernel_rfl)
@[go_sem] theorem c4 : Tryz.prog.cellsOf 4 = 1 := nrfl (by kernel_rfl)
@[go_sem] theorem by4 : Tryz.prog.bytesOf 4 = 1 := nrfl (by kernel_rfl)
@[go_sem] theorem z4 : zeroA Tryz.prog 4 = (.d (.bool false)) := nrfl (by kernel_rfl)
@[go_sem] theorem c5 : Tryz.prog.cellsOf 5 = 1 := nrfl (by kernel_rfl)
@[go_sem] theorem by5 : Tryz.prog.bytesOf 5 = 1 := nrfl (by kernel_rfl)
@[go_sem] theorem z5 : zeroA Tryz.prog 5 = (.d (.int .u8 0)) := nrfl (by kernel_rfl)
@[go_sem] theorem c6 : Tryz.prog.cellsOf 6 = 1 := nrfl (by kernel_rfl)
@[go_sem] theorem by6 : Tryz.prog.bytesOf 6 = 1 := nrfl (by kernel_rfl)
@[go_sem] theorem z6 : zeroA Tryz.prog 6 = (.d (.int .u8 0)) := nrfl (by kernel_rfl)
@[go_sem] theorem c7 : Tryz.prog.cellsOf 7 = 4 := nrfl (by kernel_rfl)
@[go_sem] theorem by7 : Tryz.prog.bytesOf 7 = 24 := nrfl (by kernel_rfl)
@[go_sem] theorem z7 : zeroA Tryz.prog 7 = (.agg [(.d (.int .i64 0)), (.d (.int .i64 0)), (.d (.bool false)), (.d (.int .u8 0))]) := nrfl (by kernel_rfl)
@[go_sem] theorem sp7 : structPlaces Tryz.prog 7 = some [(0, 1), (1, 1), (2, 1), (3, 1)] := nrfl (by kernel_rfl)
@[go_sem] theorem fo7_0 : fieldOff Tryz.prog 7 0 = some (0, 2) := by kernel_rfl
@[go_sem] theorem fo7_1 : fieldOff Tryz.prog 7 1 = some (1, 3) := by kernel_rfl
@[go_sem] theorem fo7_2 : fieldOff Tryz.prog 7 2 = some (2, 4) := by kernel_rfl
@[go_sem] theorem fo7_3 : fieldOff Tryz.prog 7 3 = some (3, 6) := by kernel_rfl
@[go_sem] theorem c8 : Tryz.prog.cellsOf 8 = 4 := nrfl (by kernel_rfl)
@[go_sem] theorem by8 : Tryz.prog.bytesOf 8 = 24 := nrfl (by kernel_rfl)
@[go_sem] theorem z8 : zeroA Tryz.prog 8 = (.agg [(.d (.int .i64 0)), (.d (.int .i64 0)), (.d (.bool false)), (.d (.int .u8 0))]) := nrfl (by kernel_rfl)
@[go_sem] theorem sp8 : structPlaces Tryz.prog 8 = some [(0, 1), (1, 1), (2, 1), (3, 1)] := nrfl (by kernel_rfl)
@[go_sem] theorem fo8_0 : fieldOff Tryz.prog 8 0 = some (0, 2) := by kernel_rfl
@[go_sem] theorem fo8_1 : fieldOff Tryz.prog 8 1 = some (1, 3) := by kernel_rfl
@[go_sem] theorem fo8_2 : fieldOff Tryz.prog 8 2 = some (2, 4) := by kernel_rfl
@[go_sem] theorem fo8_3 : fieldOff Tryz.prog 8 3 = some (3, 6) := by kernel_rfl
@[go_sem] theorem c9 : Tryz.prog.cellsOf 9 = 1 := nrfl (by kernel_rfl)
@[go_sem] theorem by9 : Tryz.prog.bytesOf 9 = 16 := nrfl (by kernel_rfl)
@[go_sem] theorem z9 : zeroA Tryz.prog 9 = (.d (.str [])) := nrfl (by kernel_rfl)
@[go_sem] theorem c10 : Tryz.prog.cellsOf 10 = 1 := nrfl (by kernel_rfl)
@[go_sem] theorem by10 : Tryz.prog.bytesOf 10 = 16 := nrfl (by kernel_rfl)
@[go_sem] theorem z10 : zeroA Tryz.prog 10 = (.d (.str [])) := nrfl (by kernel_rfl)
@[go_sem] theorem c11 : Tryz.prog.cellsOf 11 = 1 := nrfl (by kernel_rfl)
@[go_sem] theorem by11 : Tryz.prog.bytesOf 11 = 16 := nrfl (by kernel_rfl)
@[go_sem] theorem z11 : zeroA Tryz.prog 11 = (.d (.str [])) := nrfl (by kernel_rfl)
@[go_sem] theorem c12 : Tryz.prog.cellsOf 12 = 1 := nrfl (by kernel_rfl)
@[go_sem] theorem by12 : Tryz.prog.bytesOf 12 = 8 := nrfl (by kernel_rfl)
@[go_sem] theorem z12 : zeroA Tryz.prog 12 = (.d (.int .u64 0)) := nrfl (by kernel_rfl)
@[go_sem] theorem c13 : Tryz.prog.cellsOf 13 = 2 := nrfl (by kernel_rfl)
@[go_sem] theorem by13 : Tryz.prog.bytesOf 13 = 24 := nrfl (by kernel_rfl)
@[go_sem] theorem z13 : zeroA Tryz.prog 13 = (.agg [(.d (.str [])), (.d (.int .u64 0))]) := nrfl (by kernel_rfl)
@[go_sem] theorem sp13 : structPlaces Tryz.prog 13 = some [(0, 1), (1, 1)] := nrfl (by kernel_rfl)
@[go_sem] theorem fo13_0 : fieldOff Tryz.prog 13 0 = some (0, 9) := by kernel_rfl
@[go_sem] theorem fo13_1 : fieldOff Tryz.prog 13 1 = some (1, 12) := by kernel_rfl
@[go_sem] theorem c14 : Tryz.prog.cellsOf 14 = 2 := nrfl (by kernel_rfl)
@[go_sem] theorem by14 : Tryz.prog.bytesOf 14 = 24 := nrfl (by kernel_rfl)
@[go_sem] theorem z14 : zeroA Tryz.prog 14 = (.agg [(.d (.str [])), (.d (.int .u64 0))]) := nrfl (by kernel_rfl)
@[go_sem] theorem sp14 : structPlaces Tryz.prog 14 = some [(0, 1), (1, 1)] := nrfl (by kernel_rfl)
@[go_sem] theorem fo14_0 : fieldOff Tryz.prog 14 0 = some (0, 9) := by kernel_rfl
@[go_sem] theorem fo14_1 : fieldOff Tryz.prog 14 1 = some (1, 12) := by kernel_rfl
@[go_sem] theorem c15 : Tryz.prog.cellsOf 15 = 1 := nrfl (by kernel_rfl)
@[go_sem] theorem by15 : Tryz.prog.bytesOf 15 = 8 := nrfl (by kernel_rfl)
@[go_sem] theorem z15 : zeroA Tryz.prog 15 = (.d .nilptr) := nrfl (by kernel_rfl)
@[go_sem] theorem c16 : Tryz.prog.cellsOf 16 = 1 := nrfl (by kernel_rfl)
@[go_sem] theorem by16 : Tryz.prog.bytesOf 16 = 8 := nrfl (by kernel_rfl)
@[go_sem] theorem z16 : zeroA Tryz.prog 16 = (.d .nilptr) := nrfl (by kernel_rfl)
@[go_sem] theorem c17 : Tryz.prog.cellsOf 17 = 1 := nrfl (by kernel_rfl)
@[go_sem] theorem by17 : Tryz.prog.bytesOf 17 = 8 := nrfl (by kernel_rfl)
@[go_sem] theorem z17 : zeroA Tryz.prog 17 = (.d .nilptr) := nrfl (by kernel_rfl)
@[go_sem] theorem c18 : Tryz.prog.cellsOf 18 = 1 := nrfl (by kernel_rfl)
@[go_sem] theorem by18 : Tryz.prog.bytesOf 18 = 8 := nrfl (by kernel_rfl)
@[go_sem] theorem z18 : zeroA Tryz.prog 18 = (.agg [(.d .nilptr)]) := nrfl (by kernel_rfl)
@[go_sem] theorem sp18 : structPlaces Tryz.prog 18 = some [(0, 1)] := nrfl (by kernel_rfl)
@[go_sem] theorem fo18_0 : fieldOff Tryz.prog 18 0 = some (0, 17) := by kernel_rfl
@[go_sem] theorem c19 : Tryz.prog.cellsOf 19 = 1 := nrfl (by kernel_rfl)
@[go_sem] theorem by19 : Tryz.prog.bytesOf 19 = 8 := nrfl (by kernel_rfl)
@[go_sem] theorem z19 : zeroA Tryz.prog 19 = (.agg [(.d .nilptr)]) := nrfl (by kernel_rfl)
@[go_sem] theorem sp19 : structPlaces Tryz.prog 19 = some [(0, 1)] := nrfl (by kernel_rfl)
@[go_sem] theorem fo19_0 : fieldOff Tryz.prog 19 0 = some (0, 17) := by kernel_rfl
@[go_sem] theorem c20 : Tryz.prog.cellsOf 20 = 1 := nrfl (by kernel_rfl)
@[go_sem] theorem by20 : Tryz.prog.bytesOf 20 = 16 := nrfl (by kernel_rfl)
@[go_sem] theorem z20 : zeroA Tryz.prog 20 = (.d .niliface) := nrfl (by kernel_rfl)
@[go_sem] theorem c21 : Tryz.prog.cellsOf 21 = 1 := nrfl (by kernel_rfl)
@[go_sem] theorem by21 : Tryz.prog.bytesOf 21 = 4 := nrfl (by kernel_rfl)
@[go_sem] theorem z21 : zeroA Tryz.prog 21 = (.d (.int .i32 0)) := nrfl (by kernel_rfl)
@[go_sem] theorem c22 : Tryz.prog.cellsOf 22 = 1 := nrfl (by kernel_rfl)
@[go_sem] theorem by22 : Tryz.prog.bytesOf 22 = 24 := nrfl (by kernel_rfl)
@[go_sem] theorem z22 : zeroA Tryz.prog 22 = (.d .nilslice) := nrfl (by kernel_rfl)
@[go_sem] theorem c23 : Tryz.prog.cellsOf 23 = 1 := nrfl (by kernel_rfl)
@[go_sem] theorem by23 : Tryz.prog.bytesOf 23 = 24 := nrfl (by kernel_rfl)
@[go_sem] theorem z23 : zeroA Tryz.prog 23 = (.d .nilslice) := nrfl (by kernel_rfl)
@[go_sem] theorem c26 : Tryz.prog.cellsOf 26 = 1 := nrfl (by kernel_rfl)
@[go_sem] theorem by26 : Tryz.prog.bytesOf 26 = 24 := nrfl (by kernel_rfl)
@[go_sem] theorem z26 : zeroA Tryz.prog 26 = (.d .nilslice) := nrfl (by kernel_rfl)
@[go_sem] theorem c27 : Tryz.prog.cellsOf 27 = 1 := nrfl (by kernel_rfl)
@[go_sem] theorem by27 : Tryz.prog.bytesOf 27 = 24 := nrfl (by kernel_rfl)
@[go_sem] theorem z27 : zeroA Tryz.prog 27 = (.d .nilslice) := nrfl (by kernel_rfl)
@[go_sem] theorem c28 : Tryz.prog.cellsOf 28 = 3 := nrfl (by kernel_rfl)
@[go_sem] theorem by28 : Tryz.prog.bytesOf 28 = 56 := nrfl (by kernel_rfl)
@[go_sem] theorem z28 : zeroA Tryz.prog 28 = (.agg [(.d (.int .i64 0)), (.d .nilslice), (.d .nilslice)]) := nrfl (by kernel_rfl)
@[go_sem] theorem sp28 : structPlaces Tryz.prog 28 = some [(0, 1), (1, 1), (2, 1)] := nrfl (by kernel_rfl)
@[go_sem] theorem fo28_0 : fieldOff Tryz.prog 28 0 = some (0, 3) := by kernel_rfl
@[go_sem] theorem fo28_1 : fieldOff Tryz.prog 28 1 = some (1, 26) := by kernel_rfl
@[go_sem] theorem fo28_2 : fieldOff Tryz.prog 28 2 = some (2, 27) := by kernel_rfl
@[go_sem] theorem c29 : Tryz.prog.cellsOf 29 = 3 := nrfl (by kernel_rfl)
@[go_sem] theorem by29 : Tryz.prog.bytesOf 29 = 56 := nrfl (by kernel_rfl)
@[go_sem] theorem z29 : zeroA Tryz.prog 29 = (.agg [(.d (.int .i64 0)), (.d .nilslice), (.d .nilslice)]) := nrfl (by kernel_rfl)
@[go_sem] theorem sp29 : structPlaces Tryz.prog 29 = some [(0, 1), (1, 1), (2, 1)] := nrfl (by kernel_rfl)
@[go_sem] theorem fo29_0 : fieldOff Tryz.prog 29 0 = some (0, 3) := by kernel_rfl
@[go_sem] theorem fo29_1 : fieldOff Tryz.prog 29 1 = some (1, 26) := by kernel_rfl
@[go_sem] theorem fo29_2 : fieldOff Tryz.prog 29 2 = some (2, 27) := by kernel_rfl
@[go_sem] theorem c32 : Tryz.prog.cellsOf 32 = 6 := nrfl (by kernel_rfl)
@[go_sem] theorem by32 : Tryz.prog.bytesOf 32 = 64 := nrfl (by kernel_rfl)
@[go_sem] theorem z32 : zeroA Tryz.prog 32 = (.agg [(.d (.str [])), (.d (.str [])), (.d (.int .i64 0)), (.d (.int .i64 0)), (.d (.int .i64 0)), (.d (.int .i64 0))]) := nrfl (by kernel_rfl)
@[go_sem] theorem sp32 : structPlaces Tryz.prog 32 = some [(0, 1), (1, 1), (2, 1), (3, 1), (4, 1), (5, 1)] := nrfl (by kernel_rfl)
@[go_sem] theorem fo32_0 : fieldOff Tryz.prog 32 0 = some (0, 9) := by kernel_rfl
@[go_sem] theorem fo32_1 : fieldOff Tryz.prog 32 1 = some (1, 9) := by kernel_rfl
@[go_sem] theorem fo32_2 : fieldOff Tryz.prog 32 2 = some (2, 3) := by kernel_rfl
@[go_sem] theorem fo32_3 : fieldOff Tryz.prog 32 3 = some (3, 3) := by kernel_rfl
@[go_sem] theorem fo32_4 : fieldOff Tryz.prog 32 4 = some (4, 3) := by kernel_rfl
@[go_sem] theorem fo32_5 : fieldOff Tryz.prog 32 5 = some (5, 3) := by kernel_rfl
@[go_sem] theorem sk32 : structKinds Tryz.prog 32 = some [2, 2, 0, 0, 0, 0] := nrfl (by kernel_rfl)
@[go_sem] theorem c33 : Tryz.prog.cellsOf 33 = 6 := nrfl (by kernel_rfl)
@[go_sem] theorem by33 : Tryz.prog.bytesOf 33 = 64 := nrfl (by kernel_rfl)
@[go_sem] theorem z33 : zeroA Tryz.prog 33 = (.agg [(.d (.str [])), (.d (.str [])), (.d (.int .i64 0)), (.d (.int .i64 0)), (.d (.int .i64 0)), (.d (.int .i64 0))]) := nrfl (by kernel_rfl)
@[go_sem] theorem sp33 : structPlaces Tryz.prog 33 = some [(0, 1), (1, 1), (2, 1), (3, 1), (4, 1), (5, 1)] := nrfl (by kernel_rfl)
@[go_sem] theorem fo33_0 : fieldOff Tryz.prog 33 0 = some (0, 9) := by kernel_rfl
@[go_sem] theorem fo33_1 : fieldOff Tryz.prog 33 1 = some (1, 9) := by kernel_rfl
@[go_sem] theorem fo33_2 : fieldOff Tryz.prog 33 2 = some (2, 3) := by kernel_rfl
@[go_sem] theorem fo33_3 : fieldOff Tryz.prog 33 3 = some (3, 3) := by kernel_rfl
@[go_sem] theorem fo33_4 : fieldOff Tryz.prog 33 4 = some (4, 3) := by kernel_rfl
@[go_sem] theorem fo33_5 : fieldOff Tryz.prog 33 5 = some (5, 3) := by kernel_rfl
@[go_sem] theorem sk33 : structKinds Tryz.prog 33 = some [2, 2, 0, 0, 0, 0] := nrfl (by kernel_rfl)
@[go_sem] theorem c34 : Tryz.prog.cellsOf 34 = 1 := nrfl (by kernel_rfl)
@[go_sem] theorem by34 : Tryz.prog.bytesOf 34 = 24 := nrfl (by kernel_rfl)
@[go_sem] theorem z34 : zeroA Tryz.prog 34 = (.d .nilslice) := nrfl (by kernel_rfl)
@[go_sem] theorem c37 : Tryz.prog.cellsOf 37 = 2 := nrfl (by kernel_rfl)
@[go_sem] theorem by37 : Tryz.prog.bytesOf 37 = 16 := nrfl (by kernel_rfl)
@[go_sem] theorem z37 : zeroA Tryz.prog 37 = (.agg [(.d (.int .i64 0)), (.d (.int .i64 0))]) := nrfl (by kernel_rfl)
@[go_sem] theorem sp37 : structPlaces Tryz.prog 37 = some [(0, 1), (1, 1)] := nrfl (by kernel_rfl)
@[go_sem] theorem fo37_0 : fieldOff Tryz.prog 37 0 = some (0, 3) := by kernel_rfl
@[go_sem] theorem fo37_1 : fieldOff Tryz.prog 37 1 = some (1, 3) := by kernel_rfl
@[go_sem] theorem sk37 : structKinds Tryz.prog 37 = some [0, 0] := nrfl (by kernel_rfl)
@[go_sem] theorem c38 : Tryz.prog.cellsOf 38 = 2 := nrfl (by kernel_rfl)
@[go_sem] theorem by38 : Tryz.prog.bytesOf 38 = 16 := nrfl (by kernel_rfl)
@[go_sem] theorem z38 : zeroA Tryz.prog 38 = (.agg [(.d (.int .i64 0)), (.d (.int .i64 0))]) := nrfl (by kernel_rfl)
@[go_sem] theorem sp38 : structPlaces Tryz.prog 38 = some [(0, 1), (1, 1)] := nrfl (by kernel_rfl)
@[go_sem] theorem fo38_0 : fieldOff Tryz.prog 38 0 = some (0, 3) := by kernel_rfl
@[go_sem] theorem fo38_1 : fieldOff Tryz.prog 38 1 = some (1, 3) := by kernel_rfl
@[go_sem] theorem sk38 : structKinds Tryz.prog 38 = some [0, 0] := nrfl (by kernel_rfl)
@[go_sem] theorem c40 : Tryz.prog.cellsOf 40 = 1 := nrfl (by kernel_rfl)
@[go_sem] theorem by40 : Tryz.prog.bytesOf 40 = 24 := nrfl (by kernel_rfl)
@[go_sem] theorem z40 : zeroA Tryz.prog 40 = (.d .nilslice) := nrfl (by kernel_rfl)
@[go_sem] theorem c41 : Tryz.prog.cellsOf 41 = 1 := nrfl (by kernel_rfl)
@[go_sem] theorem by41 : Tryz.prog.bytesOf 41 = 8 := nrfl (by kernel_rfl)
@[go_sem] theorem z41 : zeroA Tryz.prog 41 = (.d (.int .i64 0)) := nrfl (by kernel_rfl)
@[go_sem] theorem c49 : Tryz.prog.cellsOf 49 = 1 := nrfl (by kernel_rfl)
@[go_sem] theorem by49 : Tryz.prog.bytesOf 49 = 24 := nrfl (by kernel_rfl)
@[go_sem] theorem z49 : zeroA Tryz.prog 49 = (.d .nilslice) := nrfl (by kernel_rfl)
@[go_sem] theorem c50 : Tryz.prog.cellsOf 50 = 1 := nrfl (by kernel_rfl)
@[go_sem] theorem by50 : Tryz.prog.bytesOf 50 = 24 := nrfl (by kernel_rfl)
@[go_sem] theorem z50 : zeroA Tryz.prog 50 = (.d .nilslice) := nrfl (by kernel_rfl)
@[go_sem] theorem c51 : Tryz.prog.cellsOf 51 = 5 := nrfl (by kernel_rfl)
@[go_sem] theorem by51 : Tryz.prog.bytesOf 51 = 72 := nrfl (by kernel_rfl)
@[go_sem] theorem z51 : zeroA Tryz.prog 51 = (.agg [(.d (.int .i64 0)), (.d .nilslice), (.d .nilslice), (.d (.int .i64 0)), (.d (.int .i64 0))]) := nrfl (by kernel_rfl)
@[go_sem] theorem sp51 : structPlaces Tryz.prog 51 = some [(0, 1), (1, 1), (2, 1), (3, 1), (4, 1)] := nrfl (by kernel_rfl)
@[go_sem] theorem fo51_0 : fieldOff Tryz.prog 51 0 = some (0, 3) := by kernel_rfl
@[go_sem] theorem fo51_1 : fieldOff Tryz.prog 51 1 = some (1, 49) := by kernel_rfl
@[go_sem] theorem fo51_2 : fieldOff Tryz.prog 51 2 = some (2, 50) := by kernel_rfl
@[go_sem] theorem fo51_3 : fieldOff Tryz.prog 51 3 = some (3, 3) := by kernel_rfl
@[go_sem] theorem fo51_4 : fieldOff Tryz.prog 51 4 = some (4, 3) := by kernel_rfl
@[go_sem] theorem c52 : Tryz.prog.cellsOf 52 = 5 := nrfl (by kernel_rfl)
@[go_sem] theorem by52 : Tryz.prog.bytesOf 52 = 72 := nrfl (by kernel_rfl)
@[go_sem] theorem z52 : zeroA Tryz.prog 52 = (.agg [(.d (.int .i64 0)), (.d .nilslice), (.d .nilslice), (.d (.int .i64 0)), (.d (.int .i64 0))]) := nrfl (by kernel_rfl)
@[go_sem] theorem sp52 : structPlaces Tryz.prog 52 = some [(0, 1), (1, 1), (2, 1), (3, 1), (4, 1)] := nrfl (by kernel_rfl)
@[go_sem] theorem fo52_0 : fieldOff Tryz.prog 52 0 = some (0, 3) := by kernel_rfl
@[go_sem] theorem fo52_1 : fieldOff Tryz.prog 52 1 = some (1, 49) := by kernel_rfl
@[go_sem] theorem fo52_2 : fieldOff Tryz.prog 52 2 = some (2, 50) := by kernel_rfl
@[go_sem] theorem fo52_3 : fieldOff Tryz.prog 52 3 = some (3, 3) := by kernel_rfl
@[go_sem] theorem fo52_4 : fieldOff Tryz.prog 52 4 = some (4, 3) := by kernel_rfl
@[go_sem] theorem c57 : Tryz.prog.cellsOf 57 = 2 := nrfl (by kernel_rfl)
@[go_sem] theorem by57 : Tryz.prog.bytesOf 57 = 8 := nrfl (by kernel_rfl)
@[go_sem] theorem z57 : zeroA Tryz.prog 57 = (.agg [(.d (.int .i32 0)), (.d (.int .i32 0))]) := nrfl (by kernel_rfl)
@[go_sem] theorem sp57 : structPlaces Tryz.prog 57 = some [(0, 1), (1, 1)] := nrfl (by kernel_rfl)
@[go_sem] theorem fo57_0 : fieldOff Tryz.prog 57 0 = some (0, 21) := by kernel_rfl
@[go_sem] theorem fo57_1 : fieldOff Tryz.prog 57 1 = some (1, 21) := by kernel_rfl
@[go_sem] theorem sk57 : structKinds Tryz.prog 57 = some [0, 0] := nrfl (by kernel_rfl)
@[go_sem] theorem c58 : Tryz.prog.cellsOf 58 = 2 := nrfl (by kernel_rfl)
@[go_sem] theorem by58 : Tryz.prog.bytesOf 58 = 8 := nrfl (by kernel_rfl)
@[go_sem] theorem z58 : zeroA Tryz.prog 58 = (.agg [(.d (.int .i32 0)), (.d (.int .i32 0))]) := nrfl (by kernel_rfl)
@[go_sem] theorem sp58 : structPlaces Tryz.prog 58 = some [(0, 1), (1, 1)] := nrfl (by kernel_rfl)
@[go_sem] theorem fo58_0 : fieldOff Tryz.prog 58 0 = some (0, 21) := by kernel_rfl
@[go_sem] theorem fo58_1 : fieldOff Tryz.prog 58 1 = some (1, 21) := by kernel_rfl
@[go_sem] theorem sk58 : structKinds Tryz.prog 58 = some [0, 0] := nrfl (by kernel_rfl)
@[go_sem] theorem c59 : Tryz.prog.cellsOf 59 = 3 := nrfl (by kernel_rfl)
@[go_sem] theorem by59 : Tryz.prog.bytesOf 59 = 16 := nrfl (by kernel_rfl)
@[go_sem] theorem z59 : zeroA Tryz.prog 59 = (.agg [(.d (.int .i32 0)), (.d (.int .i32 0)), (.d (.int .i64 0))]) := nrfl (by kernel_rfl)
@[go_sem] theorem sp59 : structPlaces Tryz.prog 59 = some [(0, 2), (2, 1)] := nrfl (by kernel_rfl)
@[go_sem] theorem fo59_0 : fieldOff Tryz.prog 59 0 = some (0, 58) := by kernel_rfl
@[go_sem] theorem fo59_1 : fieldOff Tryz.prog 59 1 = some (2, 3) := by kernel_rfl
@[go_sem] theorem c60 : Tryz.prog.cellsOf 60 = 3 := nrfl (by kernel_rfl)
@[go_sem] theorem by60 : Tryz.prog.bytesOf 60 = 16 := nrfl (by kernel_rfl)
@[go_sem] theorem z60 : zeroA Tryz.prog 60 = (.agg [(.d (.int .i32 0)), (.d (.int .i32 0)), (.d (.int .i64 0))]) := nrfl (by kernel_rfl)
@[go_sem] theorem sp60 : structPlaces Tryz.prog 60 = some [(0, 2), (2, 1)] := nrfl (by kernel_rfl)
@[go_sem] theorem fo60_0 : fieldOff Tryz.prog 60 0 = some (0, 58) := by kernel_rfl
@[go_sem] theorem fo60_1 : fieldOff Tryz.prog 60 1 = some (2, 3) := by kernel_rfl
@[go_sem] theorem c62 : Tryz.prog.cellsOf 62 = 1 := nrfl (by kernel_rfl)
@[go_sem] theorem by62 : Tryz.prog.bytesOf 62 = 24 := nrfl (by kernel_rfl)
@[go_sem] theorem z62 : zeroA Tryz.prog 62 = (.d .nilslice) := nrfl (by kernel_rfl)
@[go_sem] theorem c69 : Tryz.prog.cellsOf 69 = 1 := nrfl (by kernel_rfl)
@[go_sem] theorem by69 : Tryz.prog.bytesOf 69 = 8 := nrfl (by kernel_rfl)
@[go_sem] theorem z69 : zeroA Tryz.prog 69 = (.d .nilmap) := nrfl (by kernel_rfl)
@[go_sem] theorem c74 : Tryz.prog.cellsOf 74 = 1 := nrfl (by kernel_rfl)
@[go_sem] theorem by74 : Tryz.prog.bytesOf 74 = 8 := nrfl (by kernel_rfl)
@[go_sem] theorem z74 : zeroA Tryz.prog 74 = (.d (.int .u64 0)) := nrfl (by kernel_rfl)
@[go_sem] theorem c75 : Tryz.prog.cellsOf 75 = 0 := nrfl (by kernel_rfl)
@[go_sem] theorem by75 : Tryz.prog.bytesOf 75 = 0 := nrfl (by kernel_rfl)
@[go_sem] theorem z75 : zeroA Tryz.prog 75 = (.agg []) := nrfl (by kernel_rfl)
@[go_sem] theorem sp75 : structPlaces Tryz.prog 75 = some [] := nrfl (by kernel_rfl)
@[go_sem] theorem c76 : Tryz.prog.cellsOf 76 = 0 := nrfl (by kernel_rfl)
@[go_sem] theorem by76 : Tryz.prog.bytesOf 76 = 0 := nrfl (by kernel_rfl)
@[go_sem] theorem z76 : zeroA Tryz.prog 76 = (.agg []) := nrfl (by kernel_rfl)
@[go_sem] theorem sp76 : structPlaces Tryz.prog 76 = some [] := nrfl (by kernel_rfl)
@[go_sem] theorem c78 : Tryz.prog.cellsOf 78 = 1 := nrfl (by kernel_rfl)
@[go_sem] theorem by78 : Tryz.prog.bytesOf 78 = 8 := nrfl (by kernel_rfl)
@[go_sem] theorem z78 : zeroA Tryz.prog 78 = (.d .nilptr) := nrfl (by kernel_rfl)
@[go_sem] theorem c79 : Tryz.prog.cellsOf 79 = 2 := nrfl (by kernel_rfl)
@[go_sem] theorem by79 : Tryz.prog.bytesOf 79 = 32 := nrfl (by kernel_rfl)
@[go_sem] theorem z79 : zeroA Tryz.prog 79 = (.agg [(.d .nilslice), (.d (.int .i64 0))]) := nrfl (by kernel_rfl)
@[go_sem] theorem sp79 : structPlaces Tryz.prog 79 = some [(0, 1), (1, 1)] := nrfl (by kernel_rfl)
@[go_sem] theorem fo79_0 : fieldOff Tryz.prog 79 0 = some (0, 62) := by kernel_rfl
@[go_sem] theorem fo79_1 : fieldOff Tryz.prog 79 1 = some (1, 3) := by kernel_rfl
@[go_sem] theorem c80 : Tryz.prog.cellsOf 80 = 2 := nrfl (by kernel_rfl)
@[go_sem] theorem by80 : Tryz.prog.bytesOf 80 = 32 := nrfl (by kernel_rfl)
@[go_sem] theorem z80 : zeroA Tryz.prog 80 = (.agg [(.d .nilslice), (.d (.int .i64 0))]) := nrfl (by kernel_rfl)
@[go_sem] theorem sp80 : structPlaces Tryz.prog 80 = some [(0, 1), (1, 1)] := nrfl (by kernel_rfl)
@[go_sem] theorem fo80_0 : fieldOff Tryz.prog 80 0 = some (0, 62) := by kernel_rfl
@[go_sem] theorem fo80_1 : fieldOff Tryz.prog 80 1 = some (1, 3) := by kernel_rfl
@[go_sem] theorem c84 : Tryz.prog.cellsOf 84 = 1 := nrfl (by kernel_rfl)
@[go_sem] theorem by84 : Tryz.prog.bytesOf 84 = 24 := nrfl (by kernel_rfl)
@[go_sem] theorem z84 : zeroA Tryz.prog 84 = (.d .nilslice) := nrfl (by kernel_rfl)
@[go_sem] theorem c88 : Tryz.prog.cellsOf 88 = 1 := nrfl (by kernel_rfl)
@[go_sem] theorem by88 : Tryz.prog.bytesOf 88 = 24 := nrfl (by kernel_rfl)
@[go_sem] theorem z88 : zeroA Tryz.prog 88 = (.d .nilslice) := nrfl (by kernel_rfl)
@[go_sem] theorem c94 : Tryz.prog.cellsOf 94 = 1 := nrfl (by kernel_rfl)
@[go_sem] theorem by94 : Tryz.prog.bytesOf 94 = 8 := nrfl (by kernel_rfl)
@[go_sem] theorem z94 : zeroA Tryz.prog 94 = (.d (.int .i64 0)) := nrfl (by kernel_rfl)
@[go_sem] theorem c103 : Tryz.prog.cellsOf 103 = 1 := nrfl (by kernel_rfl)
@[go_sem] theorem by103 : Tryz.prog.bytesOf 103 = 4 := nrfl (by kernel_rfl)
@[go_sem] theorem z103 : zeroA Tryz.prog 103 = (.d (.int .u32 0)) := nrfl (by kernel_rfl)
@[go_sem] theorem c105 : Tryz.prog.cellsOf 105 = 1 := nrfl (by kernel_rfl)
@[go_sem] theorem by105 : Tryz.prog.bytesOf 105 = 8 := nrfl (by kernel_rfl)
@[go_sem] theorem z105 : zeroA Tryz.prog 105 = (.d (.int .u64 0)) := nrfl (by kernel_rfl)
@[go_sem] theorem c107 : Tryz.prog.cellsOf 107 = 4 := nrfl (by kernel_rfl)
@[go_sem] theorem by107 : Tryz.prog.bytesOf 107 = 24 := nrfl (by kernel_rfl)
@[go_sem] theorem z107 : zeroA Tryz.prog 107 = (.agg [(.d (.int .i32 0)), (.d (.int .i64 0)), (.d (.int .u8 0)), (.d (.int .u8 0))]) := nrfl (by kernel_rfl)
@[go_sem] theorem sp107 : structPlaces Tryz.prog 107 = some [(0, 1), (1, 1), (2, 1), (3, 1)] := nrfl (by kernel_rfl)
@[go_sem] theorem fo107_0 : fieldOff Tryz.prog 107 0 = some (0, 21) := by kernel_rfl
@[go_sem] theorem fo107_1 : fieldOff Tryz.prog 107 1 = some (1, 3) := by kernel_rfl
@[go_sem] theorem fo107_2 : fieldOff Tryz.prog 107 2 = some (2, 5) := by kernel_rfl
@[go_sem] theorem fo107_3 : fieldOff Tryz.prog 107 3 = some (3, 5) := by kernel_rfl
@[go_sem] theorem sk107 : structKinds Tryz.prog 107 = some [0, 0, 0, 0] := nrfl (by kernel_rfl)
@[go_sem] theorem c108 : Tryz.prog.cellsOf 108 = 4 := nrfl (by kernel_rfl)
@[go_sem] theorem by108 : Tryz.prog.bytesOf 108 = 24 := nrfl (by kernel_rfl)
@[go_sem] theorem z108 : zeroA Tryz.prog 108 = (.agg [(.d (.int .i32 0)), (.d (.int .i64 0)), (.d (.int .u8 0)), (.d (.int .u8 0))]) := nrfl (by kernel_rfl)
@[go_sem] theorem sp108 : structPlaces Tryz.prog 108 = some [(0, 1), (1, 1), (2, 1), (3, 1)] := nrfl (by kernel_rfl)
@[go_sem] theorem fo108_0 : fieldOff Tryz.prog 108 0 = some (0, 21) := by kernel_rfl
@[go_sem] theorem fo108_1 : fieldOff Tryz.prog 108 1 = some (1, 3) := by kernel_rfl
@[go_sem] theorem fo108_2 : fieldOff Tryz.prog 108 2 = some (2, 5) := by kernel_rfl
@[go_sem] theorem fo108_3 : fieldOff Tryz.prog 108 3 = some (3, 5) := by kernel_rfl
@[go_sem] theorem sk108 : structKinds Tryz.prog 108 = some [0, 0, 0, 0] := nrfl (by kernel_rfl)
@[go_sem] theorem c115 : Tryz.prog.cellsOf 115 = 1 := nrfl (by kernel_rfl)
@[go_sem] theorem by115 : Tryz.prog.bytesOf 115 = 8 := nrfl (by kernel_rfl)
@[go_sem] theorem z115 : zeroA Tryz.prog 115 = (.d (.int .u64 0)) := nrfl (by kernel_rfl)
@[go_sem] theorem c119 : Tryz.prog.cellsOf 119 = 1 := nrfl (by kernel_rfl)
@[go_sem] theorem by119 : Tryz.prog.bytesOf 119 = 8 := nrfl (by kernel_rfl)
@[go_sem] theorem z119 : zeroA Tryz.prog 119 = (.d .nilptr) := nrfl (by kernel_rfl)
@[go_sem] theorem c122 : Tryz.prog.cellsOf 122 = 256 := nrfl (by kernel_rfl)
@[go_sem] theorem by122 : Tryz.prog.bytesOf 122 = 256 := nrfl (by kernel_rfl)
@[go_sem] theorem z122 : zeroA Tryz.prog 122 = (.agg [(.d (.int .u8 0)), (.d (.int .u8 0)), (.d (.int .u8 0)), (.d (.int .u8 0)), (.d (.int .u8 0)), (.d (.int .u8 0)), (.d (.int .u8 0)), (.d (.int .u8 0)), (.d (.int .u8 0)), (.d (.int .u8 0)), (.d (.int .u8 0)), (.d (.int .u8 0)), (.d (.int .u8 0)), (.d (.int .u8 0)), (.d (.int .u8 0)), (.d (.int .u8 0)), (.d (.int .u8 0)), (.d (.int .u8 0)), (.d (.int .u8 0)), (.d (.int .u8 0)), (.d (.int .u8 0)), (.d (.int .u8 0)), (.d (.int .u8 0)), (.d (.int .u8 0)), (.d (.int .u8 0)), (.d (.int .u8 0)), (.d (.int .u8 0)), (.d (.int .u8 0)), (.d (.int .u8 0)), (.d (.int .u8 0)), (.d (.int .u8 0)), (.d (.int .u8 0)), (.d (.int .u8 0)), (.d (.int .u8 0)), (.d (.int .u8 0)), (.d (.int .u8 0)), (.d (.int .u8 0)), (.d (.int .u8 0)), (.d (.int .u8 0)), (.d (.int .u8 0)), (.d (.int .u8 0)), (.d (.int .u8 0)), (.d (.int .u8 0)), (.d (.int .u8 0)), (.d (.int .u8 0)), (.d (.int .u8 0)), (.d (.int .u8 0)), (.d (.int .u8 0)), (.d (.int .u8 0)), (.d (.int .u8 0)), (.d (.int .u8 0)), (.d (.int .u8 0)), (.d (.int .u8 0)), (.d (.int .u8 0)), (.d (.int .u8 0)), (.d (.int .u8 0)), (.d (.int .u8 0)), (.d (.int .u8 0)), (.d (.int .u8 0)), (.d (.int .u8 0)), (.d (.int .u8 0)), (.d (.int .u8 0)), (.d (.int .u8 0)), (.d (.int .u8 0)), (.d (.int .u8 0)), (.d (.int .u8 0)), (.d (.int .u8 0)), (.d (.int .u8 0)), (.d (.int .u8 0)), (.d (.int .u8 0)), (.d (.int .u8 0)), (.d (.int .u8 0)), (.d (.int .u8 0)), (.d (.int .u8 0)), (.d (.int .u8 0)), (.d (.int .u8 0)), (.d (.int .u8 0)), (.d (.int .u8 0)), (.d (.int .u8 0)), (.d (.int .u8 0)), (.d (.int .u8 0)), (.d (.int .u8 0)), (.d (.int .u8 0)), (.d (.int .u8 0)), (.d (.int .u8 0)), (.d (.int .u8 0)), (.d (.int .u8 0)), (.d (.int .u8 0)), (.d (.int .u8 0)), (.d (.int .u8 0)), (.d (.int .u8 0)), (.d (.int .u8 0)), (.d (.int .u8 0)), (.d (.int .u8 0)), (.d (.int .u8 0)), (.d (.int .u8 0)), (.d (.int .u8 0)), (.d (.int .u8 0)), (.d (.int .u8 0)), (.d (.int .u8 0)), (.d (.int .u8 0)), (.d (.int .u8 0)), (.d (.int .u8 0)), (.d (.int .u8 0)), (.d (.int .u8 0)), (.d (.int .u8 0)), (.d (.int .u8 0)), (.d (.int .u8 0)), (.d (.int .u8 0)), (.d (.int .u8 0)), (.d (.int .u8 0)), (.d (.int .u8 0)), (.d (.int .u8 0)), (.d (.int .u8 0)), (.d (.int .u8 0)), (.d (.int .u8 0)), (.d (.int .u8 0)), (.d (.int .u8 0)), (.d (.int .u8 0)), (.d (.int .u8 0)), (.d (.int .u8 0)), (.d (.int .u8 0)), (.d (.int .u8 0)), (.d (.int .u8 0)), (.d (.int .u8 0)), (.d (.int .u8 0)), (.d (.int .u8 0)), (.d (.int .u8 0)), (.d (.int .u8 0)), (.d (.int .u8 0)), (.d (.int .u8 0)), (.d (.int .u8 0)), (.d (.int .u8 0)), (.d (.int .u8 0)), (.d (.int .u8 0)), (.d (.int .u8 0)), (.d (.int .u8 0)), (.d (.int .u8 0)), (.d (.int .u8 0)), (.d (.int .u8 0)), (.d (.int .u8 0)), (.d (.int .u8 0)), (.d (.int .u8 0)), (.d (.int .u8 0)), (.d (.int .u8 0)), (.d (.int .u8 0)), (.d (.int .u8 0)), (.d (.int .u8 0)), (.d (.int .u8 0)), (.d (.int .u8 0)), (.d (.int .u8 0)), (.d (.int .u8 0)), (.d (.int .u8 0)), (.d (.int .u8 0)), (.d (.int .u8 0)), (.d (.int .u8 0)), (.d (.int .u8 0)), (.d (.int .u8 0)), (.d (.int .u8 0)), (.d (.int .u8 0)), (.d (.int .u8 0)), (.d (.int .u8 0)), (.d (.int .u8 0)), (.d (.int .u8 0)), (.d (.int .u8 0)), (.d (.int .u8 0)), (.d (.int .u8 0)), (.d (.int .u8 0)), (.d (.int .u8 0)), (.d (.int .u8 0)), (.d (.int .u8 0)), (.d (.int .u8 0)), (.d (.int .u8 0)), (.d (.int .u8 0)), (.d (.int .u8 0)), (.d (.int .u8 0)), (.d (.int .u8 0)), (.d (.int .u8 0)), (.d (.int .u8 0)), (.d (.int .u8 0)), (.d (.int .u8 0)), (.d (.int .u8 0)), (.d (.int .u8 0)), (.d (.int .u8 0)), (.d (.int .u8 0)), (.d (.int .u8 0)), (.d (.int .u8 0)), (.d (.int .u8 0)), (.d (.int .u8 0)), (.d (.int .u8 0)), (.d (.int .u8 0)), (.d (.int .u8 0)), (.d (.int .u8 0)), (.d (.int .u8 0)), (.d (.int .u8 0)), (.d (.int .u8 0)), (.d (.int .u8 0)), (.d (.int .u8 0)), (.d (.int .u8 0)), (.d (.int .u8 0)), (.d (.int .u8 0)), (.d (.int .u8 0)), (.d (.int .u8 0)), (.d (.int .u8 0)), (.d (.int .u8 0)), (.d (.int .u8 0)), (.d (.int .u8 0)), (.d (.int .u8 0)), (.d (.int .u8 0)), (.d (.int .u8 0)), (.d (.int .u8 0)), (.d (.int .u8 0)), (.d (.int .u8 0)), (.d (.int .u8 0)), (.d (.int .u8 0)), (.d (.int .u8 0)), (.d (.int .u8 0)), (.d (.int .u8 0)), (.d (.int .u8 0)), (.d (.int .u8 0)), (.d (.int .u8 0)), (.d (.int .u8 0)), (.d (.int .u8 0)), (.d (.int .u8 0)), (.d (.int .u8 0)), (.d (.int .u8 0)), (.d (.int .u8 0)), (.d (.int .u8 0)), (.d (.int .u8 0)), (.d (.int .u8 0)), (.d (.int .u8 0)), (.d (.int .u8 0)), (.d (.int .u8 0)), (.d (.int .u8 0)), (.d (.int .u8 0)), (.d (.int .u8 0)), (.d (.int .u8 0)), (.d (.int .u8 0)), (.d (.int .u8 0)), (.d (.int .u8 0)), (.d (.int .u8 0)), (.d (.int .u8 0)), (.d (.int .u8 0)), (.d (.int .u8 0)), (.d (.int .u8 0)), (.d (.int .u8 0)), (.d (.int .u8 0)), (.d (.int .u8 0)), (.d (.int .u8 0)), (.d (.int .u8 0)), (.d (.int .u8 0)), (.d (.int .u8 0)), (.d (.int .u8 0)), (.d (.int .u8 0)), (.d (.int .u8 0)), (.d (.int .u8 0))]) := nrfl (by kernel_rfl)
@[go_sem] theorem c123 : Tryz.prog.cellsOf 123 = 2 := nrfl (by kernel_rfl)
@[go_sem] theorem by123 : Tryz.prog.bytesOf 123 = 2 := nrfl (by kernel_rfl)
@[go_sem] theorem z123 : zeroA Tryz.prog 123 = (.agg [(.d (.int .u8 0)), (.d (.int .u8 0))]) := nrfl (by kernel_rfl)
@[go_sem] theorem sp123 : structPlaces Tryz.prog 123 = some [(0, 1), (1, 1)] := nrfl (by kernel_rfl)
@[go_sem] theorem fo123_0 : fieldOff Tryz.prog 123 0 = some (0, 5) := by kernel_rfl
@[go_sem] theorem fo123_1 : fieldOff Tryz.prog 123 1 = some (1, 5) := by kernel_rfl
@[go_sem] theorem sk123 : structKinds Tryz.prog 123 = some [0, 0] := nrfl (by kernel_rfl)
@[go_sem] theorem c124 : Tryz.prog.cellsOf 124 = 2 := nrfl (by kernel_rfl)
@[go_sem] theorem by124 : Tryz.prog.bytesOf 124 = 2 := nrfl (by kernel_rfl)
@[go_sem] theorem z124 : zeroA Tryz.prog 124 = (.agg [(.d (.int .u8 0)), (.d (.int .u8 0))]) := nrfl (by kernel_rfl)
@[go_sem] theorem sp124 : structPlaces Tryz.prog 124 = some [(0, 1), (1, 1)] := nrfl (by kernel_rfl)
@[go_sem] theorem fo124_0 : fieldOff Tryz.prog 124 0 = some (0, 5) := by kernel_rfl
@[go_sem] theorem fo124_1 : fieldOff Tryz.prog 124 1 = some (1, 5) := by kernel_rfl
@[go_sem] theorem sk124 : structKinds Tryz.prog 124 = some [0, 0] := nrfl (by kernel_rfl)
@[go_sem] theorem c125 : Tryz.prog.cellsOf 125 = 32 := nrfl (by kernel_rfl)
@[go_sem] theorem by125 : Tryz.prog.bytesOf 125 = 32 := nrfl (by kernel_rfl)
@[go_sem] theorem z125 : zeroA Tryz.prog 125 = (.agg [(.d (.int .u8 0)), (.d (.int .u8 0)), (.d (.int .u8 0)), (.d (.int .u8 0)), (.d (.int .u8 0)), (.d (.int .u8 0)), (.d (.int .u8 0)), (.d (.int .u8 0)), (.d (.int .u8 0)), (.d (.int .u8 0)), (.d (.int .u8 0)), (.d (.int .u8 0)), (.d (.int .u8 0)), (.d (.int .u8 0)), (.d (.int .u8 0)), (.d (.int .u8 0)), (.d (.int .u8 0)), (.d (.int .u8 0)), (.d (.int .u8 0)), (.d (.int .u8 0)), (.d (.int .u8 0)), (.d (.int .u8 0)), (.d (.int .u8 0)), (.d (.int .u8 0)), (.d (.int .u8 0)), (.d (.int .u8 0)), (.d (.int .u8 0)), (.d (.int .u8 0)), (.d (.int .u8 0)), (.d (.int .u8 0)), (.d (.int .u8 0)), (.d (.int .u8 0))]) := nrfl (by kernel_rfl)
@[go_sem] theorem c128 : Tryz.prog.cellsOf 128 = 1 := nrfl (by kernel_rfl)
@[go_sem] theorem by128 : Tryz.prog.bytesOf 128 = 8 := nrfl (by kernel_rfl)
@[go_sem] theorem z128 : zeroA Tryz.prog 128 = (.d .nilptr) := nrfl (by kernel_rfl)
@[go_sem] theorem c153 : Tryz.prog.cellsOf 153 = 4 := nrfl (by kernel_rfl)
@[go_sem] theorem by153 : Tryz.prog.bytesOf 153 = 40 := nrfl (by kernel_rfl)
@[go_sem] theorem z153 : zeroA Tryz.prog 153 = (.agg [(.d .nilptr), (.d .nilptr), (.d .nilptr), (.d (.str []))]) := nrfl (by kernel_rfl)
@[go_sem] theorem sp153 : structPlaces Tryz.prog 153 = some [(0, 1), (1, 1), (2, 1), (3, 1)] := nrfl (by kernel_rfl)
@[go_sem] theorem fo153_0 : fieldOff Tryz.prog 153 0 = some (0, 17) := by kernel_rfl
@[go_sem] theorem fo153_1 : fieldOff Tryz.prog 153 1 = some (1, 17) := by kernel_rfl
@[go_sem] theorem fo153_2 : fieldOff Tryz.prog 153 2 = some (2, 17) := by kernel_rfl
@[go_sem] theorem fo153_3 : fieldOff Tryz.prog 153 3 = some (3, 9) := by kernel_rfl
@[go_sem] theorem c154 : Tryz.prog.cellsOf 154 = 4 := nrfl (by kernel_rfl)
@[go_sem] theorem by154 : Tryz.prog.bytesOf 154 = 40 := nrfl (by kernel_rfl)
@[go_sem] theorem z154 : zeroA Tryz.prog 154 = (.agg [(.d .nilptr), (.d .nilptr), (.d .nilptr), (.d (.str []))]) := nrfl (by kernel_rfl)
@[go_sem] theorem sp154 : structPlaces Tryz.prog 154 = some [(0, 1), (1, 1), (2, 1), (3, 1)] := nrfl (by kernel_rfl)
@[go_sem] theorem fo154_0 : fieldOff Tryz.prog 154 0 = some (0, 17) := by kernel_rfl
@[go_sem] theorem fo154_1 : fieldOff Tryz.prog 154 1 = some (1, 17) := by kernel_rfl
@[go_sem] theorem fo154_2 : fieldOff Tryz.prog 154 2 = some (2, 17) := by kernel_rfl
@[go_sem] theorem fo154_3 : fieldOff Tryz.prog 154 3 = some (3, 9) := by kernel_rfl
@[go_sem] theorem c155 : Tryz.prog.cellsOf 155 = 0 := nrfl (by kernel_rfl)
@[go_sem] theorem by155 : Tryz.prog.bytesOf 155 = 0 := nrfl (by kernel_rfl)
@[go_sem] theorem z155 : zeroA Tryz.prog 155 = (.agg []) := nrfl (by kernel_rfl)
@[go_sem] theorem c156 : Tryz.prog.cellsOf 156 = 0 := nrfl (by kernel_rfl)
@[go_sem] theorem by156 : Tryz.prog.bytesOf 156 = 0 := nrfl (by kernel_rfl)
@[go_sem] theorem z156 : zeroA Tryz.prog 156 = (.agg []) := nrfl (by kernel_rfl)
@[go_sem] theorem sp156 : structPlaces Tryz.prog 156 = some [(0, 0)] := nrfl (by kernel_rfl)
@[go_sem] theorem c157 : Tryz.prog.cellsOf 157 = 0 := nrfl (by kernel_rfl)
@[go_sem] theorem by157 : Tryz.prog.bytesOf 157 = 0 := nrfl (by kernel_rfl)
@[go_sem] theorem z157 : zeroA Tryz.prog 157 = (.agg []) := nrfl (by kernel_rfl)
@[go_sem] theorem sp157 : structPlaces Tryz.prog 157 = some [(0, 0)] := nrfl (by kernel_rfl)
@[go_sem] theorem c158 : Tryz.prog.cellsOf 158 = 1 := nrfl (by kernel_rfl)
@[go_sem] theorem by158 : Tryz.prog.bytesOf 158 = 1 := nrfl (by kernel_rfl)
@[go_sem] theorem z158 : zeroA Tryz.prog 158 = (.d (.int .u8 0)) := nrfl (by kernel_rfl)
@[go_sem] theorem c159 : Tryz.prog.cellsOf 159 = 1 := nrfl (by kernel_rfl)
@[go_sem] theorem by159 : Tryz.prog.bytesOf 159 = 1 := nrfl (by kernel_rfl)
@[go_sem] theorem z159 : zeroA Tryz.prog 159 = (.d (.int .u8 0)) := nrfl (by kernel_rfl)
@[go_sem] theorem c161 : Tryz.prog.cellsOf 161 = 1 := nrfl (by kernel_rfl)
@[go_sem] theorem by161 : Tryz.prog.bytesOf 161 = 8 := nrfl (by kernel_rfl)
@[go_sem] theorem z161 : zeroA Tryz.prog 161 = (.d .nilptr) := nrfl (by kernel_rfl)
@[go_sem] theorem c162 : Tryz.prog.cellsOf 162 = 1 := nrfl (by kernel_rfl)
@[go_sem] theorem by162 : Tryz.prog.bytesOf 162 = 4 := nrfl (by kernel_rfl)
@[go_sem] theorem z162 : zeroA Tryz.prog 162 = (.d (.int .i32 0)) := nrfl (by kernel_rfl)
@[go_sem] theorem c163 : Tryz.prog.cellsOf 163 = 1 := nrfl (by kernel_rfl)
@[go_sem] theorem by163 : Tryz.prog.bytesOf 163 = 4 := nrfl (by kernel_rfl)
@[go_sem] theorem z163 : zeroA Tryz.prog 163 = (.d (.int .i32 0)) := nrfl (by kernel_rfl)
@[go_sem] theorem c164 : Tryz.prog.cellsOf 164 = 11 := nrfl (by kernel_rfl)
@[go_sem] theorem by164 : Tryz.prog.bytesOf 164 = 48 := nrfl (by kernel_rfl)
@[go_sem] theorem z164 : zeroA Tryz.prog 164 = (.agg [(.d (.int .u64 0)), (.d (.int .u64 0)), (.d (.int .u32 0)), (.d (.int .u8 0)), (.d (.int .u8 0)), (.d (.int .u8 0)), (.d (.int .u8 0)), (.d .nilfunc), (.d .nilptr), (.d (.int .i32 0)), (.d (.int .i32 0))]) := nrfl (by kernel_rfl)
@[go_sem] theorem sp164 : structPlaces Tryz.prog 164 = some [(0, 1), (1, 1), (2, 1), (3, 1), (4, 1), (5, 1), (6, 1), (7, 1), (8, 1), (9, 1), (10, 1)] := nrfl (by kernel_rfl)
@[go_sem] theorem fo164_0 : fieldOff Tryz.prog 164 0 = some (0, 12) := by kernel_rfl
@[go_sem] theorem fo164_1 : fieldOff Tryz.prog 164 1 = some (1, 12) := by kernel_rfl
@[go_sem] theorem fo164_2 : fieldOff Tryz.prog 164 2 = some (2, 103) := by kernel_rfl
@[go_sem] theorem fo164_3 : fieldOff Tryz.prog 164 3 = some (3, 158) := by kernel_rfl
@[go_sem] theorem fo164_4 : fieldOff Tryz.prog 164 4 = some (4, 5) := by kernel_rfl
@[go_sem] theorem fo164_5 : fieldOff Tryz.prog 164 5 = some (5, 5) := by kernel_rfl
@[go_sem] theorem fo164_6 : fieldOff Tryz.prog 164 6 = some (6, 159) := by kernel_rfl
@[go_sem] theorem fo164_7 : fieldOff Tryz.prog 164 7 = some (7, 160) := by kernel_rfl
@[go_sem] theorem fo164_8 : fieldOff Tryz.prog 164 8 = some (8, 161) := by kernel_rfl
@[go_sem] theorem fo164_9 : fieldOff Tryz.prog 164 9 = some (9, 162) := by kernel_rfl
@[go_sem] theorem fo164_10 : fieldOff Tryz.prog 164 10 = some (10, 163) := by kernel_rfl
@[go_sem] theorem c165 : Tryz.prog.cellsOf 165 = 11 := nrfl (by kernel_rfl)
@[go_sem] theorem by165 : Tryz.prog.bytesOf 165 = 48 := nrfl (by kernel_rfl)
@[go_sem] theorem z165 : zeroA Tryz.prog 165 = (.agg [(.d (.int .u64 0)), (.d (.int .u64 0)), (.d (.int .u32 0)), (.d (.int .u8 0)), (.d (.int .u8 0)), (.d (.int .u8 0)), (.d (.int .u8 0)), (.d .nilfunc), (.d .nilptr), (.d (.int .i32 0)), (.d (.int .i32 0))]) := nrfl (by kernel_rfl)
@[go_sem] theorem sp165 : structPlaces Tryz.prog 165 = some [(0, 1), (1, 1), (2, 1), (3, 1), (4, 1), (5, 1), (6, 1), (7, 1), (8, 1), (9, 1), (10, 1)] := nrfl (by kernel_rfl)
@[go_sem] theorem fo165_0 : fieldOff Tryz.prog 165 0 = some (0, 12) := by kernel_rfl
@[go_sem] theorem fo165_1 : fieldOff Tryz.prog 165 1 = some (1, 12) := by kernel_rfl
@[go_sem] theorem fo165_2 : fieldOff Tryz.prog 165 2 = some (2, 103) := by kernel_rfl
@[go_sem] theorem fo165_3 : fieldOff Tryz.prog 165 3 = some (3, 158) := by kernel_rfl
@[go_sem] theorem fo165_4 : fieldOff Tryz.prog 165 4 = some (4, 5) := by kernel_rfl
@[go_sem] theorem fo165_5 : fieldOff Tryz.prog 165 5 = some (5, 5) := by kernel_rfl
@[go_sem] theorem fo165_6 : fieldOff Tryz.prog 165 6 = some (6, 159) := by kernel_rfl
@[go_sem] theorem fo165_7 : fieldOff Tryz.prog 165 7 = some (7, 160) := by kernel_rfl
@[go_sem] theorem fo165_8 : fieldOff Tryz.prog 165 8 = some (8, 161) := by kernel_rfl
@[go_sem] theorem fo165_9 : fieldOff Tryz.prog 165 9 = some (9, 162) := by kernel_rfl
@[go_sem] theorem fo165_10 : fieldOff Tryz.prog 165 10 = some (10, 163) := by kernel_rfl
@[go_sem] theorem c166 : Tryz.prog.cellsOf 166 = 1 := nrfl (by kernel_rfl)
@[go_sem] theorem by166 : Tryz.prog.bytesOf 166 = 8 := nrfl (by kernel_rfl)
@[go_sem] theorem z166 : zeroA Tryz.prog 166 = (.d .nilptr) := nrfl (by kernel_rfl)

theorem foll : Tryz.prog.follows .mixedOrders = true := by kernel_rfl
@[go_sem] theorem pf0 : plainFn Tryz.prog 0 = false := nrfl (by kernel_rfl)
@[go_sem] theorem pf1 : plainFn Tryz.prog 1 = false := nrfl (by kernel_rfl)
@[go_sem] theorem pf2 : plainFn Tryz.prog 2 = true := nrfl (by kernel_rfl)
@[go_sem] theorem pf3 : plainFn Tryz.prog 3 = true := nrfl (by kernel_rfl)
@[go_sem] theorem pf4 : plainFn Tryz.prog 4 = true := nrfl (by kernel_rfl)
@[go_sem] theorem pf5 : plainFn Tryz.prog 5 = true := nrfl (by kernel_rfl)
@[go_sem] theorem pf6 : plainFn Tryz.prog 6 = true := nrfl (by kernel_rfl)
@[go_sem] theorem pf7 : plainFn Tryz.prog 7 = true := nrfl (by kernel_rfl)
@[go_sem] theorem pf8 : plainFn Tryz.prog 8 = true := nrfl (by kernel_rfl)
@[go_sem] theorem pf9 : plainFn Tryz.prog 9 = true := nrfl (by kernel_rfl)
@[go_sem] theorem pf10 : plainFn Tryz.prog 10 = true := nrfl (by kernel_rfl)
@[go_sem] theorem pf11 : plainFn Tryz.prog 11 = true := nrfl (by kernel_rfl)
@[go_sem] theorem pf12 : plainFn Tryz.prog 12 = true := nrfl (by kernel_rfl)
@[go_sem] theorem pf13 : plainFn Tryz.prog 13 = true := nrfl (by kernel_rfl)
@[go_sem] theorem pf14 : plainFn Tryz.prog 14 = true := nrfl (by kernel_rfl)
@[go_sem] theorem pf15 : plainFn Tryz.prog 15 = true := nrfl (by kernel_rfl)
@[go_sem] theorem pf16 : plainFn Tryz.prog 16 = true := nrfl (by kernel_rfl)
@[go_sem] theorem pf17 : plainFn Tryz.prog 17 = true := nrfl (by kernel_rfl)
@[go_sem] theorem pf18 : plainFn Tryz.prog 18 = true := nrfl (by kernel_rfl)
@[go_sem] theorem pf19 : plainFn Tryz.prog 19 = true := nrfl (by kernel_rfl)
@[go_sem] theorem pf20 : plainFn Tryz.prog 20 = true := nrfl (by kernel_rfl)
@[go_sem] theorem pf21 : plainFn Tryz.prog 21 = true := nrfl (by kernel_rfl)
@[go_sem] theorem pf22 : plainFn Tryz.prog 22 = true := nrfl (by kernel_rfl)
@[go_sem] theorem pf23 : plainFn Tryz.prog 23 = true := nrfl (by kernel_rfl)
@[go_sem] theorem pf24 : plainFn Tryz.prog 24 = true := nrfl (by kernel_rfl)
@[go_sem] theorem pf25 : plainFn Tryz.prog 25 = true := nrfl (by kernel_rfl)
@[go_sem] theorem pf26 : plainFn Tryz.prog 26 = true := nrfl (by kernel_rfl)
@[go_sem] theorem pf27 : plainFn Tryz.prog 27 = true := nrfl (by kernel_rfl)
@[go_sem] theorem pf28 : plainFn Tryz.prog 28 = true := nrfl (by kernel_rfl)
@[go_sem] theorem pf29 : plainFn Tryz.prog 29 = true := nrfl (by kernel_rfl)
@[go_sem] theorem pf30 : plainFn Tryz.prog 30 = true := nrfl (by kernel_rfl)
@[go_sem] theorem pf31 : plainFn Tryz.prog 31 = true := nrfl (by kernel_rfl)
@[go_sem] theorem pf32 : plainFn Tryz.prog 32 = true := nrfl (by kernel_rfl)
@[go_sem] theorem pf33 : plainFn Tryz.prog 33 = true := nrfl (by kernel_rfl)
@[go_sem] theorem pf34 : plainFn Tryz.prog 34 = true := nrfl (by kernel_rfl)
@[go_sem] theorem pf35 : plainFn Tryz.prog 35 = true := nrfl (by kernel_rfl)
@[go_sem] theorem pf36 : plainFn Tryz.prog 36 = true := nrfl (by kernel_rfl)
@[go_sem] theorem pf37 : plainFn Tryz.prog 37 = true := nrfl (by kernel_rfl)
@[go_sem] theorem pf38 : plainFn Tryz.prog 38 = true := nrfl (by kernel_rfl)
@[go_sem] theorem pf39 : plainFn Tryz.prog 39 = true := nrfl (by kernel_rfl)
@[go_sem] theorem pf40 : plainFn Tryz.prog 40 = true := nrfl (by kernel_rfl)
@[go_sem] theorem pf41 : plainFn Tryz.prog 41 = true := nrfl (by kernel_rfl)
@[go_sem] theorem pf42 : plainFn Tryz.prog 42 = true := nrfl (by kernel_rfl)
@[go_sem] theorem pf43 : plainFn Tryz.prog 43 = true := nrfl (by kernel_rfl)
@[go_sem] theorem pf44 : plainFn Tryz.prog 44 = true := nrfl (by kernel_rfl)
@[go_sem] theorem pf45 : plainFn Tryz.prog 45 = true := nrfl (by kernel_rfl)
@[go_sem] theorem pf46 : plainFn Tryz.prog 46 = true := nrfl (by kernel_rfl)
@[go_sem] theorem pf47 : plainFn Tryz.prog 47 = true := nrfl (by kernel_rfl)
@[go_sem] theorem pf48 : plainFn Tryz.prog 48 = true := nrfl (by kernel_rfl)
@[go_sem] theorem pf49 : plainFn Tryz.prog 49 = true := nrfl (by kernel_rfl)
@[go_sem] theorem pf50 : plainFn Tryz.prog 50 = true := nrfl (by kernel_rfl)
@[go_sem] theorem pf51 : plainFn Tryz.prog 51 = true := nrfl (by kernel_rfl)
@[go_sem] theorem pf52 : plainFn Tryz.prog 52 = true := nrfl (by kernel_rfl)
@[go_sem] theorem pf53 : plainFn Tryz.prog 53 = true := nrfl (by kernel_rfl)
@[go_sem] theorem pf54 : plainFn Tryz.prog 54 = true := nrfl (by kernel_rfl)
@[go_sem] theorem pf55 : plainFn Tryz.prog 55 = true := nrfl (by kernel_rfl)
@[go_sem] theorem pf56 : plainFn Tryz.prog 56 = true := nrfl (by kernel_rfl)
@[go_sem] theorem pf57 : plainFn Tryz.prog 57 = true := nrfl (by kernel_rfl)
@[go_sem] theorem pf58 : plainFn Tryz.prog 58 = true := nrfl (by kernel_rfl)
@[go_sem] theorem pf59 : plainFn Tryz.prog 59 = true := nrfl (by kernel_rfl)
@[go_sem] theorem pf60 : plainFn Tryz.prog 60 = true := nrfl (by kernel_rfl)
@[go_sem] theorem pf61 : plainFn Tryz.prog 61 = true := nrfl (by kernel_rfl)
@[go_sem] theorem pf62 : plainFn Tryz.prog 62 = true := nrfl (by kernel_rfl)
@[go_sem] theorem pf63 : plainFn Tryz.prog 63 = true := nrfl (by kernel_rfl)
@[go_sem] theorem pf64 : plainFn Tryz.prog 64 = true := nrfl (by kernel_rfl)
@[go_sem] theorem pf65 : plainFn Tryz.prog 65 = true := nrfl (by kernel_rfl)
@[go_sem] theorem pf66 : plainFn Tryz.prog 66 = true := nrfl (by kernel_rfl)
@[go_sem] theorem pf67 : plainFn Tryz.prog 67 = true := nrfl (by kernel_rfl)
@[go_sem] theorem pf68 : plainFn Tryz.prog 68 = true := nrfl (by kernel_rfl)
@[go_sem] theorem pf69 : plainFn Tryz.prog 69 = true := nrfl (by kernel_rfl)
@[go_sem] theorem pf70 : plainFn Tryz.prog 70 = true := nrfl (by kernel_rfl)
@[go_sem] theorem pf71 : plainFn Tryz.prog 71 = true := nrfl (by kernel_rfl)
@[go_sem] theorem pf72 : plainFn Tryz.prog 72 = true := nrfl (by kernel_rfl)
@[go_sem] theorem pf73 : plainFn Tryz.prog 73 = true := nrfl (by kernel_rfl)
@[go_sem] theorem pf74 : plainFn Tryz.prog 74 = true := nrfl (by kernel_rfl)
@[go_sem] theorem pf75 : plainFn Tryz.prog 75 = true := nrfl (by kernel_rfl)
@[go_sem] theorem pf76 : plainFn Tryz.prog 76 = true := nrfl (by kernel_rfl)
@[go_sem] theorem pf77 : plainFn Tryz.prog 77 = true := nrfl (by kernel_rfl)
@[go_sem] theorem pf78 : plainFn Tryz.prog 78 = true := nrfl (by kernel_rfl)
@[go_sem] theorem pf79 : plainFn Tryz.prog 79 = true := nrfl (by kernel_rfl)
@[go_sem] theorem pf80 : plainFn Tryz.prog 80 = true := nrfl (by kernel_rfl)
@[go_sem] theorem pf81 : plainFn Tryz.prog 81 = true := nrfl (by kernel_rfl)
@[go_sem] theorem pf82 : plainFn Tryz.prog 82 = true := nrfl (by kernel_rfl)
@[go_sem] theorem pf83 : plainFn Tryz.prog 83 = true := nrfl (by kernel_rfl)
@[go_sem] theorem pf84 : plainFn Tryz.prog 84 = true := nrfl (by kernel_rfl)
@[go_sem] theorem pf85 : plainFn Tryz.prog 85 = false := nrfl (by kernel_rfl)
@[go_sem] theorem pf86 : plainFn Tryz.prog 86 = true := nrfl (by kernel_rfl)
@[go_sem] theorem pf87 : plainFn Tryz.prog 87 = true := nrfl (by kernel_rfl)
@[go_sem] theorem pf88 : plainFn Tryz.prog 88 = true := nrfl (by kernel_rfl)
@[go_sem] theorem pf89 : plainFn Tryz.prog 89 = true := nrfl (by kernel_rfl)
@[go_sem] theorem pf90 : plainFn Tryz.prog 90 = true := nrfl (by kernel_rfl)
@[go_sem] theorem pf91 : plainFn Tryz.prog 91 = false := nrfl (by kernel_rfl)
@[go_sem] theorem pf92 : plainFn Tryz.prog 92 = true := nrfl (by kernel_rfl)
@[go_sem] theorem pf93 : plainFn Tryz.prog 93 = true := nrfl (by kernel_rfl)
@[go_sem] theorem pf94 : plainFn Tryz.prog 94 = true := nrfl (by kernel_rfl)
@[go_sem] theorem pf95 : plainFn Tryz.prog 95 = true := nrfl (by kernel_rfl)
@[go_sem] theorem pf96 : plainFn Tryz.prog 96 = true := nrfl (by kernel_rfl)
@[go_sem] theorem pf97 : plainFn Tryz.prog 97 = true := nrfl (by kernel_rfl)
@[go_sem] theorem pf98 : plainFn Tryz.prog 98 = true := nrfl (by kernel_rfl)
@[go_sem] theorem pf99 : plainFn Tryz.prog 99 = true := nrfl (by kernel_rfl)
@[go_sem] theorem pf100 : plainFn Tryz.prog 100 = true := nrfl (by kernel_rfl)
@[go_sem] theorem pf101 : plainFn Tryz.prog 101 = true := nrfl (by kernel_rfl)
@[go_sem] theorem pf102 : plainFn Tryz.prog 102 = true := nrfl (by kernel_rfl)
@[go_sem] theorem pf103 : plainFn Tryz.prog 103 = true := nrfl (by kernel_rfl)
@[go_sem] theorem pf104 : plainFn Tryz.prog 104 = true := nrfl (by kernel_rfl)
@[go_sem] theorem pf105 : plainFn Tryz.prog 105 = true := nrfl (by kernel_rfl)
@[go_sem] theorem pf106 : plainFn Tryz.prog 106 = true := nrfl (by kernel_rfl)
@[go_sem] theorem pf107 : plainFn Tryz.prog 107 = true := nrfl (by kernel_rfl)
@[go_sem] theorem pf108 : plainFn Tryz.prog 108 = true := nrfl (by kernel_rfl)
@[go_sem] theorem pf109 : plainFn Tryz.prog 109 = true := nrfl (by kernel_rfl)
@[go_sem] theorem pf110 : plainFn Tryz.prog 110 = true := nrfl (by kernel_rfl)
@[go_sem] theorem pf111 : plainFn Tryz.prog 111 = true := nrfl (by kernel_rfl)
@[go_sem] theorem pf112 : plainFn Tryz.prog 112 = true := nrfl (by kernel_rfl)
@[go_sem] theorem pf113 : plainFn Tryz.prog 113 = true := nrfl (by kernel_rfl)
@[go_sem] theorem pf114 : plainFn Tryz.prog 114 = false := nrfl (by kernel_rfl)
@[go_sem] theorem pf115 : plainFn Tryz.prog 115 = false := nrfl (by kernel_rfl)
@[go_sem] theorem pf116 : plainFn Tryz.prog 116 = false := nrfl (by kernel_rfl)
@[go_sem] theorem pf117 : plainFn Tryz.prog 117 = false := nrfl (by kernel_rfl)
@[go_sem] theorem pf118 : plainFn Tryz.prog 118 = false := nrfl (by kernel_rfl)
@[go_sem] theorem pf119 : plainFn Tryz.prog 119 = false := nrfl (by kernel_rfl)
@[go_sem] theorem pf120 : plainFn Tryz.prog 120 = false := nrfl (by kernel_rfl)
@[go_sem] theorem pf121 : plainFn Tryz.prog 121 = false := nrfl (by kernel_rfl)
@[go_sem] theorem pf122 : plainFn Tryz.prog 122 = false := nrfl (by kernel_rfl)
@[go_sem] theorem pf123 : plainFn Tryz.prog 123 = false := nrfl (by kernel_rfl)
@[go_sem] theorem pf124 : plainFn Tryz.prog 124 = false := nrfl (by kernel_rfl)
@[go_sem] theorem pf125 : plainFn Tryz.prog 125 = false := nrfl (by kernel_rfl)
@[go_sem] theorem pf126 : plainFn Tryz.prog 126 = false := nrfl (by kernel_rfl)
@[go_sem] theorem pf127 : plainFn Tryz.prog 127 = false := nrfl (by kernel_rfl)
@[go_sem] theorem pf128 : plainFn Tryz.prog 128 = false := nrfl (by kernel_rfl)
@[go_sem] theorem pf129 : plainFn Tryz.prog 129 = false := nrfl (by kernel_rfl)
@[go_sem] theorem pf130 : plainFn Tryz.prog 130 = false := nrfl (by kernel_rfl)
@[go_sem] theorem pf131 : plainFn Tryz.prog 131 = false := nrfl (by kernel_rfl)
@[go_sem] theorem pf132 : plainFn Tryz.prog 132 = false := nrfl (by kernel_rfl)
@[go_sem] theorem pf133 : plainFn Tryz.prog 133 = false := nrfl (by kernel_rfl)
@[go_sem] theorem pf134 : plainFn Tryz.prog 134 = true := nrfl (by kernel_rfl)

/-- narrator.pattern.Check -/
theorem fn37 : FnIs Tryz.prog 37 1 [Go.ResultVar.tmp 2] (.seq (.region [⟨some 1, Go.Op.box 52 (Go.Operand.tmp 0), 0, none⟩,
      ⟨some 2, Go.Op.assign (Go.Operand.const (Go.Value.int Go.IntKind.i64 0)), 41, none⟩])
    (.seq (.seq (.region [⟨some 3, Go.Op.load 52 (Go.Operand.tmp 1), 52, none⟩,
      ⟨some 4, Go.Op.call { callee := Go.Callee.value (Go.Operand.func 60), args := #[Go.Operand.tmp 3, Go.Operand.const (Go.Value.int Go.IntKind.i64 120)], argTypes := #[52, 3] }, 3, none⟩,
      ⟨some 5, Go.Op.binOp Go.BinOp.gtr 3 (Go.Operand.tmp 4) (Go.Operand.const (Go.Value.int Go.IntKind.i64 120)) 3, 4, none⟩])
    (.cond (Go.Operand.tmp 5)
      (.seq (.region [⟨some 2, Go.Op.assign (Go.Operand.const (Go.Value.int Go.IntKind.i64 5)), 41, none⟩])
      .ret)
      .skip))
    (.seq (.region [⟨some 6, Go.Op.load 52 (Go.Operand.tmp 1), 52, none⟩,
      ⟨some 7, Go.Op.call { callee := Go.Callee.value (Go.Operand.func 61), args := #[Go.Operand.tmp 6], argTypes := #[52] }, 41, none⟩,
      ⟨some 2, Go.Op.assign (Go.Operand.tmp 7), 41, none⟩])
    .ret))) :=
  ⟨foll, Tryz.f37, Tryz.func37, by kernel_rfl, by kernel_rfl, by kernel_rfl, by rw [Tryz.ntmps37]; decide⟩

/-- narrator.pattern.count -/
theorem fn60 : FnIs Tryz.prog 60 2 [Go.ResultVar.tmp 4] (.seq (.region [⟨some 2, Go.Op.box 52 (Go.Operand.tmp 0), 0, none⟩,
      ⟨some 4, Go.Op.assign (Go.Operand.const (Go.Value.int Go.IntKind.i64 0)), 3, none⟩])
    (.seq (.region [⟨some 5, Go.Op.assign (Go.Operand.const (Go.Value.int Go.IntKind.i64 1)), 3, none⟩])
    (.seq (.seq (.region [⟨some 8, Go.Op.fieldAddr 52 (Go.Operand.tmp 2) 2, 0, none⟩,
      ⟨some 9, Go.Op.load 50 (Go.Operand.tmp 8), 50, none⟩,
      ⟨some 10, Go.Op.call { callee := Go.Callee.builtin Go.Builtin.len, args := #[Go.Operand.tmp 9], argTypes := #[50] }, 3, none⟩,
      ⟨some 11, Go.Op.move (Go.Operand.const (Go.Value.int Go.IntKind.i64 0)), 3, none⟩])
    (.block 0
      (.loop
        (.seq (.region [⟨some 12, Go.Op.binOp Go.BinOp.lss 3 (Go.Operand.tmp 11) (Go.Operand.tmp 10) 3, 0, none⟩])
        (.seq (.cond (Go.Operand.tmp 12)
          .skip
          (.exit 0))
        (.seq (.block 1
          (.seq (.region [⟨some 13, Go.Op.indexAddr 50 (Go.Operand.tmp 9) (Go.Operand.tmp 11), 0, none⟩,
            ⟨some 14, Go.Op.load 52 (Go.Operand.tmp 13), 52, none⟩,
            ⟨some 7, Go.Op.alloc 52, 0, none⟩,
            ⟨none, Go.Op.store 52 (Go.Operand.tmp 7) (Go.Operand.tmp 14), 0, none⟩])
          (.seq (.seq (.region [⟨some 15, Go.Op.move (Go.Operand.tmp 5), 3, none⟩,
            ⟨some 16, Go.Op.move (Go.Operand.tmp 1), 3, none⟩,
            ⟨some 17, Go.Op.binOp Go.BinOp.gtr 3 (Go.Operand.tmp 15) (Go.Operand.tmp 16) 3, 4, none⟩])
          (.cond (Go.Operand.tmp 17)
            (.exit 0)
            .skip))
          (.region [⟨some 18, Go.Op.move (Go.Operand.tmp 5), 3, none⟩,
            ⟨some 19, Go.Op.load 52 (Go.Operand.tmp 7), 52, none⟩,
            ⟨some 20, Go.Op.move (Go.Operand.tmp 1), 3, none⟩,
            ⟨some 21, Go.Op.move (Go.Operand.tmp 5), 3, none⟩,
            ⟨some 22, Go.Op.binOp Go.BinOp.sub 3 (Go.Operand.tmp 20) (Go.Operand.tmp 21) 3, 3, none⟩,
            ⟨some 23, Go.Op.call { callee := Go.Callee.value (Go.Operand.func 60), args := #[Go.Operand.tmp 19, Go.Operand.tmp 22], argTypes := #[52, 3] }, 3, none⟩,
            ⟨some 24, Go.Op.binOp Go.BinOp.add 3 (Go.Operand.tmp 18) (Go.Operand.tmp 23) 3, 3, none⟩,
            ⟨some 5, Go.Op.assign (Go.Operand.tmp 24), 3, none⟩]))))
        (.region [⟨some 25, Go.Op.binOp Go.BinOp.add 3 (Go.Operand.tmp 11) (Go.Operand.const (Go.Value.int Go.IntKind.i64 1)) 3, 3, none⟩,
          ⟨some 11, Go.Op.move (Go.Operand.tmp 25), 3, none⟩])))))))
    (.seq (.region [⟨some 26, Go.Op.move (Go.Operand.tmp 5), 3, none⟩,
      ⟨some 4, Go.Op.assign (Go.Operand.tmp 26), 3, none⟩])
    .ret)))) :=
  ⟨foll, Tryz.f60, Tryz.func60, by kernel_rfl, by kernel_rfl, by kernel_rfl, by rw [Tryz.ntmps60]; decide⟩

/-- narrator.pattern.check -/
theorem fn61 : FnIs Tryz.prog 61 1 [Go.ResultVar.tmp 2] (.seq (.region [⟨some 1, Go.Op.box 52 (Go.Operand.tmp 0), 0, none⟩,
      ⟨some 2, Go.Op.assign (Go.Operand.const (Go.Value.int Go.IntKind.i64 0)), 41, none⟩])
    (.seq (.region [⟨some 3, Go.Op.assign (Go.Operand.const (Go.Value.bool false)), 4, none⟩])
    (.seq (.seq (.region [⟨some 7, Go.Op.fieldAddr 52 (Go.Operand.tmp 1) 0, 0, none⟩,
      ⟨some 8, Go.Op.load 3 (Go.Operand.tmp 7), 3, none⟩])
    (.block 0
      (.seq (.region [⟨some 10, Go.Op.binOp Go.BinOp.eql 3 (Go.Operand.tmp 8) (Go.Operand.const (Go.Value.int Go.IntKind.i64 1)) 3, 4, none⟩,
        ⟨some 9, Go.Op.assign (Go.Operand.tmp 10), 4, none⟩])
      (.cond (Go.Operand.tmp 9)
        (.region [⟨some 11, Go.Op.fieldAddr 52 (Go.Operand.tmp 1) 2, 0, none⟩,
          ⟨some 12, Go.Op.load 50 (Go.Operand.tmp 11), 50, none⟩,
          ⟨some 13, Go.Op.call { callee := Go.Callee.builtin Go.Builtin.len, args := #[Go.Operand.tmp 12], argTypes := #[50] }, 3, none⟩,
          ⟨some 14, Go.Op.binOp Go.BinOp.eql 3 (Go.Operand.tmp 13) (Go.Operand.const (Go.Value.int Go.IntKind.i64 0)) 3, 4, none⟩,
          ⟨some 3, Go.Op.assign (Go.Operand.tmp 14), 4, none⟩])
        (.seq (.region [⟨some 16, Go.Op.binOp Go.BinOp.eql 3 (Go.Operand.tmp 8) (Go.Operand.const (Go.Value.int Go.IntKind.i64 2)) 3, 4, none⟩,
          ⟨some 15, Go.Op.assign (Go.Operand.tmp 16), 4, none⟩])
        (.cond (Go.Operand.tmp 15)
          (.region [⟨some 17, Go.Op.fieldAddr 52 (Go.Operand.tmp 1) 2, 0, none⟩,
            ⟨some 18, Go.Op.load 50 (Go.Operand.tmp 17), 50, none⟩,
            ⟨some 19, Go.Op.call { callee := Go.Callee.builtin Go.Builtin.len, args := #[Go.Operand.tmp 18], argTypes := #[50] }, 3, none⟩,
            ⟨some 20, Go.Op.binOp Go.BinOp.eql 3 (Go.Operand.tmp 19) (Go.Operand.const (Go.Value.int Go.IntKind.i64 0)) 3, 4, none⟩,
            ⟨some 21, Go.Op.move (Go.Operand.tmp 20), 4, none⟩,
            ⟨some 22, Go.Op.fieldAddr 52 (Go.Operand.tmp 1) 1, 0, (some (21, true))⟩,
            ⟨some 23, Go.Op.load 49 (Go.Operand.tmp 22), 49, (some (21, true))⟩,
            ⟨some 24, Go.Op.call { callee := Go.Callee.value (Go.Operand.func 76), args := #[Go.Operand.tmp 23], argTypes := #[49] }, 4, (some (21, true))⟩,
            ⟨some 25, Go.Op.pick (Go.Operand.tmp 21) (Go.Operand.tmp 24) (Go.Operand.const (Go.Value.bool false)), 4, none⟩,
            ⟨some 3, Go.Op.assign (Go.Operand.tmp 25), 4, none⟩])
          (.seq (.seq (.region [⟨some 27, Go.Op.binOp Go.BinOp.eql 3 (Go.Operand.tmp 8) (Go.Operand.const (Go.Value.int Go.IntKind.i64 3)) 3, 4, none⟩,
            ⟨some 26, Go.Op.assign (Go.Operand.tmp 27), 4, none⟩])
          (.cond (Go.Operand.tmp 26)
            .skip
            (.region [⟨some 28, Go.Op.binOp Go.BinOp.eql 3 (Go.Operand.tmp 8) (Go.Operand.const (Go.Value.int Go.IntKind.i64 4)) 3, 4, none⟩,
              ⟨some 26, Go.Op.assign (Go.Operand.tmp 28), 4, none⟩])))
          (.cond (Go.Operand.tmp 26)
            (.region [⟨some 29, Go.Op.fieldAddr 52 (Go.Operand.tmp 1) 2, 0, none⟩,
              ⟨some 30, Go.Op.load 50 (Go.Operand.tmp 29), 50, none⟩,
              ⟨some 31, Go.Op.call { callee := Go.Callee.builtin Go.Builtin.len, args := #[Go.Operand.tmp 30], argTypes := #[50] }, 3, none⟩,
              ⟨some 32, Go.Op.binOp Go.BinOp.geq 3 (Go.Operand.tmp 31) (Go.Operand.const (Go.Value.int Go.IntKind.i64 2)) 3, 4, none⟩,
              ⟨some 3, Go.Op.assign (Go.Operand.tmp 32), 4, none⟩])
            (.seq (.region [⟨some 34, Go.Op.binOp Go.BinOp.eql 3 (Go.Operand.tmp 8) (Go.Operand.const (Go.Value.int Go.IntKind.i64 5)) 3, 4, none⟩,
              ⟨some 33, Go.Op.assign (Go.Operand.tmp 34), 4, none⟩])
            (.cond (Go.Operand.tmp 33)
              (.region [⟨some 35, Go.Op.fieldAddr 52 (Go.Operand.tmp 1) 2, 0, none⟩,
                ⟨some 36, Go.Op.load 50 (Go.Operand.tmp 35), 50, none⟩,
                ⟨some 37, Go.Op.call { callee := Go.Callee.builtin Go.Builtin.len, args := #[Go.Operand.tmp 36], argTypes := #[50] }, 3, none⟩,
                ⟨some 38, Go.Op.binOp Go.BinOp.eql 3 (Go.Operand.tmp 37) (Go.Operand.const (Go.Value.int Go.IntKind.i64 1)) 3, 4, none⟩,
                ⟨some 39, Go.Op.move (Go.Operand.tmp 38), 4, none⟩,
                ⟨some 40, Go.Op.fieldAddr 52 (Go.Operand.tmp 1) 3, 0, (some (39, true))⟩,
                ⟨some 41, Go.Op.load 3 (Go.Operand.tmp 40), 3, (some (39, true))⟩,
                ⟨some 42, Go.Op.binOp Go.BinOp.geq 3 (Go.Operand.tmp 41) (Go.Operand.const (Go.Value.int Go.IntKind.i64 0)) 3, 4, (some (39, true))⟩,
                ⟨some 43, Go.Op.pick (Go.Operand.tmp 39) (Go.Operand.tmp 42) (Go.Operand.const (Go.Value.bool false)), 4, none⟩,
                ⟨some 44, Go.Op.move (Go.Operand.tmp 43), 4, none⟩,
                ⟨some 45, Go.Op.fieldAddr 52 (Go.Operand.tmp 1) 3, 0, (some (44, true))⟩,
                ⟨some 46, Go.Op.load 3 (Go.Operand.tmp 45), 3, (some (44, true))⟩,
                ⟨some 47, Go.Op.binOp Go.BinOp.leq 3 (Go.Operand.tmp 46) (Go.Operand.const (Go.Value.int Go.IntKind.i64 20)) 3, 4, (some (44, true))⟩,
                ⟨some 48, Go.Op.pick (Go.Operand.tmp 44) (Go.Operand.tmp 47) (Go.Operand.const (Go.Value.bool false)), 4, none⟩,
                ⟨some 49, Go.Op.move (Go.Operand.tmp 48), 4, none⟩,
                ⟨some 50, Go.Op.fieldAddr 52 (Go.Operand.tmp 1) 4, 0, (some (49, true))⟩,
                ⟨some 51, Go.Op.load 3 (Go.Operand.tmp 50), 3, (some (49, true))⟩,
                ⟨some 52, Go.Op.binOp Go.BinOp.eql 3 (Go.Operand.tmp 51) (Go.Operand.const (Go.Value.int Go.IntKind.i64 (-1))) 3, 4, (some (49, true))⟩,
                ⟨some 53, Go.Op.move (Go.Operand.tmp 52), 4, (some (49, true))⟩,
                ⟨some 54, Go.Op.fieldAddr 52 (Go.Operand.tmp 1) 4, 0, (some (53, false))⟩,
                ⟨some 55, Go.Op.load 3 (Go.Operand.tmp 54), 3, (some (53, false))⟩,
                ⟨some 56, Go.Op.fieldAddr 52 (Go.Operand.tmp 1) 3, 0, (some (53, false))⟩,
                ⟨some 57, Go.Op.load 3 (Go.Operand.tmp 56), 3, (some (53, false))⟩,
                ⟨some 58, Go.Op.binOp Go.BinOp.geq 3 (Go.Operand.tmp 55) (Go.Operand.tmp 57) 3, 4, (some (53, false))⟩,
                ⟨some 59, Go.Op.move (Go.Operand.tmp 58), 4, (some (53, false))⟩,
                ⟨some 60, Go.Op.fieldAddr 52 (Go.Operand.tmp 1) 4, 0, (some (59, true))⟩,
                ⟨some 61, Go.Op.load 3 (Go.Operand.tmp 60), 3, (some (59, true))⟩,
                ⟨some 62, Go.Op.binOp Go.BinOp.leq 3 (Go.Operand.tmp 61) (Go.Operand.const (Go.Value.int Go.IntKind.i64 20)) 3, 4, (some (59, true))⟩,
                ⟨some 63, Go.Op.pick (Go.Operand.tmp 59) (Go.Operand.tmp 62) (Go.Operand.const (Go.Value.bool false)), 4, (some (53, false))⟩,
                ⟨some 64, Go.Op.pick (Go.Operand.tmp 53) (Go.Operand.const (Go.Value.bool true)) (Go.Operand.tmp 63), 4, (some (49, true))⟩,
                ⟨some 65, Go.Op.pick (Go.Operand.tmp 49) (Go.Operand.tmp 64) (Go.Operand.const (Go.Value.bool false)), 4, none⟩,
                ⟨some 3, Go.Op.assign (Go.Operand.tmp 65), 4, none⟩])
              (.seq (.region [⟨some 2, Go.Op.assign (Go.Operand.const (Go.Value.int Go.IntKind.i64 9)), 41, none⟩])
              .ret)))))))))))
    (.seq (.seq (.region [⟨some 66, Go.Op.move (Go.Operand.tmp 3), 4, none⟩,
      ⟨some 67, Go.Op.unOp Go.UnOp.not 4 (Go.Operand.tmp 66), 4, none⟩,
      ⟨some 68, Go.Op.move (Go.Operand.tmp 67), 4, none⟩,
      ⟨some 69, Go.Op.fieldAddr 52 (Go.Operand.tmp 1) 0, 0, (some (68, false))⟩,
      ⟨some 70, Go.Op.load 3 (Go.Operand.tmp 69), 3, (some (68, false))⟩,
      ⟨some 71, Go.Op.binOp Go.BinOp.neq 3 (Go.Operand.tmp 70) (Go.Operand.const (Go.Value.int Go.IntKind.i64 2)) 3, 4, (some (68, false))⟩,
      ⟨some 72, Go.Op.move (Go.Operand.tmp 71), 4, (some (68, false))⟩,
      ⟨some 73, Go.Op.fieldAddr 52 (Go.Operand.tmp 1) 1, 0, (some (72, true))⟩,
      ⟨some 74, Go.Op.load 49 (Go.Operand.tmp 73), 49, (some (72, true))⟩,
      ⟨some 75, Go.Op.call { callee := Go.Callee.builtin Go.Builtin.len, args := #[Go.Operand.tmp 74], argTypes := #[49] }, 3, (some (72, true))⟩,
      ⟨some 76, Go.Op.binOp Go.BinOp.gtr 3 (Go.Operand.tmp 75) (Go.Operand.const (Go.Value.int Go.IntKind.i64 0)) 3, 4, (some (72, true))⟩,
      ⟨some 77, Go.Op.pick (Go.Operand.tmp 72) (Go.Operand.tmp 76) (Go.Operand.const (Go.Value.bool false)), 4, (some (68, false))⟩,
      ⟨some 78, Go.Op.pick (Go.Operand.tmp 68) (Go.Operand.const (Go.Value.bool true)) (Go.Operand.tmp 77), 4, none⟩,
      ⟨some 79, Go.Op.move (Go.Operand.tmp 78), 4, none⟩,
      ⟨some 80, Go.Op.fieldAddr 52 (Go.Operand.tmp 1) 0, 0, (some (79, false))⟩,
      ⟨some 81, Go.Op.load 3 (Go.Operand.tmp 80), 3, (some (79, false))⟩,
      ⟨some 82, Go.Op.binOp Go.BinOp.neq 3 (Go.Operand.tmp 81) (Go.Operand.const (Go.Value.int Go.IntKind.i64 5)) 3, 4, (some (79, false))⟩,
      ⟨some 83, Go.Op.move (Go.Operand.tmp 82), 4, (some (79, false))⟩,
      ⟨some 84, Go.Op.fieldAddr 52 (Go.Operand.tmp 1) 3, 0, (some (83, true))⟩,
      ⟨some 85, Go.Op.load 3 (Go.Operand.tmp 84), 3, (some (83, true))⟩,
      ⟨some 86, Go.Op.binOp Go.BinOp.neq 3 (Go.Operand.tmp 85) (Go.Operand.const (Go.Value.int Go.IntKind.i64 0)) 3, 4, (some (83, true))⟩,
      ⟨some 87, Go.Op.move (Go.Operand.tmp 86), 4, (some (83, true))⟩,
      ⟨some 88, Go.Op.fieldAddr 52 (Go.Operand.tmp 1) 4, 0, (some (87, false))⟩,
      ⟨some 89, Go.Op.load 3 (Go.Operand.tmp 88), 3, (some (87, false))⟩,
      ⟨some 90, Go.Op.binOp Go.BinOp.neq 3 (Go.Operand.tmp 89) (Go.Operand.const (Go.Value.int Go.IntKind.i64 0)) 3, 4, (some (87, false))⟩,
      ⟨some 91, Go.Op.pick (Go.Operand.tmp 87) (Go.Operand.const (Go.Value.bool true)) (Go.Operand.tmp 90), 4, (some (83, true))⟩,
      ⟨some 92, Go.Op.pick (Go.Operand.tmp 83) (Go.Operand.tmp 91) (Go.Operand.const (Go.Value.bool false)), 4, (some (79, false))⟩,
      ⟨some 93, Go.Op.pick (Go.Operand.tmp 79) (Go.Operand.const (Go.Value.bool true)) (Go.Operand.tmp 92), 4, none⟩])
    (.cond (Go.Operand.tmp 93)
      (.seq (.region [⟨some 2, Go.Op.assign (Go.Operand.const (Go.Value.int Go.IntKind.i64 1)), 41, none⟩])
      .ret)
      .skip))
    (.seq (.seq (.region [⟨some 94, Go.Op.fieldAddr 52 (Go.Operand.tmp 1) 2, 0, none⟩,
      ⟨some 95, Go.Op.load 50 (Go.Operand.tmp 94), 50, none⟩,
      ⟨some 96, Go.Op.call { callee := Go.Callee.builtin Go.Builtin.len, args := #[Go.Operand.tmp 95], argTypes := #[50] }, 3, none⟩,
      ⟨some 97, Go.Op.move (Go.Operand.const (Go.Value.int Go.IntKind.i64 0)), 3, none⟩])
    (.block 1
      (.loop
        (.seq (.region [⟨some 98, Go.Op.binOp Go.BinOp.lss 3 (Go.Operand.tmp 97) (Go.Operand.tmp 96) 3, 0, none⟩])
        (.seq (.cond (Go.Operand.tmp 98)
          .skip
          (.exit 1))
        (.seq (.block 2
          (.seq (.region [⟨some 99, Go.Op.indexAddr 50 (Go.Operand.tmp 95) (Go.Operand.tmp 97), 0, none⟩,
            ⟨some 100, Go.Op.load 52 (Go.Operand.tmp 99), 52, none⟩,
            ⟨some 5, Go.Op.alloc 52, 0, none⟩,
            ⟨none, Go.Op.store 52 (Go.Operand.tmp 5) (Go.Operand.tmp 100), 0, none⟩])
          (.seq (.region [⟨some 101, Go.Op.load 52 (Go.Operand.tmp 5), 52, none⟩,
            ⟨some 102, Go.Op.call { callee := Go.Callee.value (Go.Operand.func 61), args := #[Go.Operand.tmp 101], argTypes := #[52] }, 41, none⟩,
            ⟨some 6, Go.Op.assign (Go.Operand.tmp 102), 41, none⟩])
          (.seq (.region [⟨some 103, Go.Op.move (Go.Operand.tmp 6), 41, none⟩,
            ⟨some 104, Go.Op.binOp Go.BinOp.neq 41 (Go.Operand.tmp 103) (Go.Operand.const (Go.Value.int Go.IntKind.i64 0)) 41, 4, none⟩])
          (.cond (Go.Operand.tmp 104)
            (.seq (.region [⟨some 105, Go.Op.move (Go.Operand.tmp 6), 41, none⟩,
              ⟨some 2, Go.Op.assign (Go.Operand.tmp 105), 41, none⟩])
            .ret)
            .skip)))))
        (.region [⟨some 106, Go.Op.binOp Go.BinOp.add 3 (Go.Operand.tmp 97) (Go.Operand.const (Go.Value.int Go.IntKind.i64 1)) 3, 3, none⟩,
          ⟨some 97, Go.Op.move (Go.Operand.tmp 106), 3, none⟩])))))))
    (.seq (.region [⟨some 2, Go.Op.assign (Go.Operand.const (Go.Value.int Go.IntKind.i64 0)), 41, none⟩])
    .ret)))))) :=
  ⟨foll, Tryz.f61, Tryz.func61, by kernel_rfl, by kernel_rfl, by kernel_rfl, by rw [Tryz.ntmps61]; decide⟩

/-- narrator.pattern.proper -/
theorem fn76 : FnIs Tryz.prog 76 1 [Go.ResultVar.tmp 2] (.seq (.region [⟨some 2, Go.Op.assign (Go.Operand.const (Go.Value.bool false)), 4, none⟩])
    (.seq (.seq (.region [⟨some 5, Go.Op.move (Go.Operand.tmp 0), 49, none⟩,
      ⟨some 6, Go.Op.call { callee := Go.Callee.builtin Go.Builtin.len, args := #[Go.Operand.tmp 5], argTypes := #[49] }, 3, none⟩,
      ⟨some 7, Go.Op.move (Go.Operand.const (Go.Value.int Go.IntKind.i64 0)), 3, none⟩])
    (.block 0
      (.loop
        (.seq (.region [⟨some 8, Go.Op.binOp Go.BinOp.lss 3 (Go.Operand.tmp 7) (Go.Operand.tmp 6) 3, 0, none⟩])
        (.seq (.cond (Go.Operand.tmp 8)
          .skip
          (.exit 0))
        (.seq (.block 1
          (.seq (.region [⟨some 9, Go.Op.move (Go.Operand.tmp 7), 3, none⟩,
            ⟨some 10, Go.Op.indexAddr 49 (Go.Operand.tmp 5) (Go.Operand.tmp 7), 0, none⟩,
            ⟨some 11, Go.Op.load 58 (Go.Operand.tmp 10), 58, none⟩,
            ⟨some 4, Go.Op.alloc 58, 0, none⟩,
            ⟨some 3, Go.Op.assign (Go.Operand.tmp 9), 3, none⟩,
            ⟨none, Go.Op.store 58 (Go.Operand.tmp 4) (Go.Operand.tmp 11), 0, none⟩])
          (.seq (.seq (.region [⟨some 12, Go.Op.fieldAddr 58 (Go.Operand.tmp 4) 0, 0, none⟩,
            ⟨some 13, Go.Op.load 21 (Go.Operand.tmp 12), 21, none⟩,
            ⟨some 14, Go.Op.call { callee := Go.Callee.value (Go.Operand.func 83), args := #[Go.Operand.tmp 13], argTypes := #[21] }, 4, none⟩,
            ⟨some 15, Go.Op.unOp Go.UnOp.not 4 (Go.Operand.tmp 14), 4, none⟩,
            ⟨some 16, Go.Op.move (Go.Operand.tmp 15), 4, none⟩,
            ⟨some 17, Go.Op.fieldAddr 58 (Go.Operand.tmp 4) 1, 0, (some (16, false))⟩,
            ⟨some 18, Go.Op.load 21 (Go.Operand.tmp 17), 21, (some (16, false))⟩,
            ⟨some 19, Go.Op.call { callee := Go.Callee.value (Go.Operand.func 83), args := #[Go.Operand.tmp 18], argTypes := #[21] }, 4, (some (16, false))⟩,
            ⟨some 20, Go.Op.unOp Go.UnOp.not 4 (Go.Operand.tmp 19), 4, (some (16, false))⟩,
            ⟨some 21, Go.Op.pick (Go.Operand.tmp 16) (Go.Operand.const (Go.Value.bool true)) (Go.Operand.tmp 20), 4, none⟩,
            ⟨some 22, Go.Op.move (Go.Operand.tmp 21), 4, none⟩,
            ⟨some 23, Go.Op.fieldAddr 58 (Go.Operand.tmp 4) 0, 0, (some (22, false))⟩,
            ⟨some 24, Go.Op.load 21 (Go.Operand.tmp 23), 21, (some (22, false))⟩,
            ⟨some 25, Go.Op.fieldAddr 58 (Go.Operand.tmp 4) 1, 0, (some (22, false))⟩,
            ⟨some 26, Go.Op.load 21 (Go.Operand.tmp 25), 21, (some (22, false))⟩,
            ⟨some 27, Go.Op.binOp Go.BinOp.gtr 21 (Go.Operand.tmp 24) (Go.Operand.tmp 26) 21, 4, (some (22, false))⟩,
            ⟨some 28, Go.Op.pick (Go.Operand.tmp 22) (Go.Operand.const (Go.Value.bool true)) (Go.Operand.tmp 27), 4, none⟩,
            ⟨some 29, Go.Op.move (Go.Operand.tmp 28), 4, none⟩,
            ⟨some 30, Go.Op.fieldAddr 58 (Go.Operand.tmp 4) 0, 0, (some (29, false))⟩,
            ⟨some 31, Go.Op.load 21 (Go.Operand.tmp 30), 21, (some (29, false))⟩,
            ⟨some 32, Go.Op.binOp Go.BinOp.lss 21 (Go.Operand.tmp 31) (Go.Operand.const (Go.Value.int Go.IntKind.i32 55296)) 21, 4, (some (29, false))⟩,
            ⟨some 33, Go.Op.fieldAddr 58 (Go.Operand.tmp 4) 1, 0, (some (29, false))⟩,
            ⟨some 34, Go.Op.load 21 (Go.Operand.tmp 33), 21, (some (29, false))⟩,
            ⟨some 35, Go.Op.binOp Go.BinOp.lss 21 (Go.Operand.tmp 34) (Go.Operand.const (Go.Value.int Go.IntKind.i32 55296)) 21, 4, (some (29, false))⟩,
            ⟨some 36, Go.Op.binOp Go.BinOp.neq 4 (Go.Operand.tmp 32) (Go.Operand.tmp 35) 4, 4, (some (29, false))⟩,
            ⟨some 37, Go.Op.pick (Go.Operand.tmp 29) (Go.Operand.const (Go.Value.bool true)) (Go.Operand.tmp 36), 4, none⟩])
          (.cond (Go.Operand.tmp 37)
            (.seq (.region [⟨some 2, Go.Op.assign (Go.Operand.const (Go.Value.bool false)), 4, none⟩])
            .ret)
            .skip))
          (.seq (.draw [⟨⟨some 38, Go.Op.move (Go.Operand.tmp 3), 3, none⟩, false, false, false⟩,
            ⟨⟨some 39, Go.Op.binOp Go.BinOp.gtr 3 (Go.Operand.tmp 38) (Go.Operand.const (Go.Value.int Go.IntKind.i64 0)) 3, 4, none⟩, false, false, false⟩,
            ⟨⟨some 40, Go.Op.move (Go.Operand.tmp 39), 4, none⟩, false, false, false⟩,
            ⟨⟨some 41, Go.Op.fieldAddr 58 (Go.Operand.tmp 4) 0, 0, (some (40, true))⟩, false, false, false⟩,
            ⟨⟨some 42, Go.Op.load 21 (Go.Operand.tmp 41), 21, (some (40, true))⟩, false, false, false⟩,
            ⟨⟨some 43, Go.Op.move (Go.Operand.tmp 0), 49, (some (40, true))⟩, false, false, false⟩,
            ⟨⟨some 44, Go.Op.move (Go.Operand.tmp 3), 3, (some (40, true))⟩, false, false, false⟩,
            ⟨⟨some 45, Go.Op.binOp Go.BinOp.sub 3 (Go.Operand.tmp 44) (Go.Operand.const (Go.Value.int Go.IntKind.i64 1)) 3, 3, (some (40, true))⟩, false, false, false⟩,
            ⟨⟨some 46, Go.Op.indexAddr 49 (Go.Operand.tmp 43) (Go.Operand.tmp 45), 0, (some (40, true))⟩, false, false, false⟩,
            ⟨⟨some 47, Go.Op.fieldAddr 58 (Go.Operand.tmp 46) 1, 0, (some (40, true))⟩, false, false, false⟩,
            ⟨⟨some 48, Go.Op.load 21 (Go.Operand.tmp 47), 21, (some (40, true))⟩, false, false, false⟩,
            ⟨⟨some 49, Go.Op.binOp Go.BinOp.sub 21 (Go.Operand.tmp 42) (Go.Operand.tmp 48) 21, 21, (some (40, true))⟩, false, false, false⟩,
            ⟨⟨some 50, Go.Op.binOp Go.BinOp.lss 21 (Go.Operand.tmp 49) (Go.Operand.const (Go.Value.int Go.IntKind.i32 2)) 21, 4, (some (40, true))⟩, false, false, false⟩,
            ⟨⟨some 51, Go.Op.pick (Go.Operand.tmp 40) (Go.Operand.tmp 50) (Go.Operand.const (Go.Value.bool false)), 4, none⟩, false, false, false⟩])
          (.cond (Go.Operand.tmp 51)
            (.seq (.region [⟨some 2, Go.Op.assign (Go.Operand.const (Go.Value.bool false)), 4, none⟩])
            .ret)
            .skip)))))
        (.region [⟨some 52, Go.Op.binOp Go.BinOp.add 3 (Go.Operand.tmp 7) (Go.Operand.const (Go.Value.int Go.IntKind.i64 1)) 3, 3, none⟩,
          ⟨some 7, Go.Op.move (Go.Operand.tmp 52), 3, none⟩])))))))
    (.seq (.region [⟨some 2, Go.Op.assign (Go.Operand.const (Go.Value.bool true)), 4, none⟩])
    .ret))) :=
  ⟨foll, Tryz.f76, Tryz.func76, by kernel_rfl, by kernel_rfl, by kernel_rfl, by rw [Tryz.ntmps76]; decide⟩

/-- narrator.pattern.character -/
theorem fn83 : FnIs Tryz.prog 83 1 [Go.ResultVar.tmp 2] (.seq (.region [⟨some 2, Go.Op.assign (Go.Operand.const (Go.Value.bool false)), 4, none⟩])
    (.seq (.region [⟨some 3, Go.Op.move (Go.Operand.tmp 0), 21, none⟩,
      ⟨some 4, Go.Op.binOp Go.BinOp.geq 21 (Go.Operand.tmp 3) (Go.Operand.const (Go.Value.int Go.IntKind.i32 0)) 21, 4, none⟩,
      ⟨some 5, Go.Op.move (Go.Operand.tmp 4), 4, none⟩,
      ⟨some 6, Go.Op.move (Go.Operand.tmp 0), 21, (some (5, true))⟩,
      ⟨some 7, Go.Op.binOp Go.BinOp.leq 21 (Go.Operand.tmp 6) (Go.Operand.const (Go.Value.int Go.IntKind.i32 55295)) 21, 4, (some (5, true))⟩,
      ⟨some 8, Go.Op.pick (Go.Operand.tmp 5) (Go.Operand.tmp 7) (Go.Operand.const (Go.Value.bool false)), 4, none⟩,
      ⟨some 9, Go.Op.move (Go.Operand.tmp 8), 4, none⟩,
      ⟨some 10, Go.Op.move (Go.Operand.tmp 0), 21, (some (9, false))⟩,
      ⟨some 11, Go.Op.binOp Go.BinOp.geq 21 (Go.Operand.tmp 10) (Go.Operand.const (Go.Value.int Go.IntKind.i32 57344)) 21, 4, (some (9, false))⟩,
      ⟨some 12, Go.Op.move (Go.Operand.tmp 11), 4, (some (9, false))⟩,
      ⟨some 13, Go.Op.move (Go.Operand.tmp 0), 21, (some (12, true))⟩,
      ⟨some 14, Go.Op.binOp Go.BinOp.leq 21 (Go.Operand.tmp 13) (Go.Operand.const (Go.Value.int Go.IntKind.i32 1114111)) 21, 4, (some (12, true))⟩,
      ⟨some 15, Go.Op.pick (Go.Operand.tmp 12) (Go.Operand.tmp 14) (Go.Operand.const (Go.Value.bool false)), 4, (some (9, false))⟩,
      ⟨some 16, Go.Op.pick (Go.Operand.tmp 9) (Go.Operand.const (Go.Value.bool true)) (Go.Operand.tmp 15), 4, none⟩,
      ⟨some 2, Go.Op.assign (Go.Operand.tmp 16), 4, none⟩])
    .ret)) :=
  ⟨foll, Tryz.f83, Tryz.func83, by kernel_rfl, by kernel_rfl, by kernel_rfl, by rw [Tryz.ntmps83]; decide⟩

end Go.Proofs.YtefpcfooahogkaaGreatDoor
