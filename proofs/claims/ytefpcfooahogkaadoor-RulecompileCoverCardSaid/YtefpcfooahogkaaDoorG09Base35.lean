/- Facts on the types of this seat's program, and the prepared code of its functions. Written by a program of mine (gen.py) out of what the loaded dump prints. -/
import Derived.Test.YtefpcfooahogkaaDoorProg
import Derived.Test.YtefpcfooahogkaaDoorG08NvP
import Derived.KernelRfl
set_option linter.unusedVariables false
set_option maxRecDepth 100000
namespace Go.Proofs.YtefpcfooahogkaaDoor
open Go Nv

attribute [go_sem] Tryd.underlying0 Tryd.underlying1 Tryd.underlying2 Tryd.underlying3 Tryd.underlying4 Tryd.underlying5 Tryd.underlying6 Tryd.underlying7 Tryd.underlying8 Tryd.underlying9 Tryd.underlying10 Tryd.underlying11 Tryd.underlying12 Tryd.underlying13 Tryd.underlying14 Tryd.underlying15 Tryd.underlying16 Tryd.underlying17 Tryd.underlying18 Tryd.underlying19 Tryd.underlying20 Tryd.underlying21 Tryd.underlying22 Tryd.underlying23 Tryd.underlying24 Tryd.underlying25 Tryd.underlying26 Tryd.underlying27 Tryd.underlying28 Tryd.underlying29 Tryd.underlying30 Tryd.underlying31 Tryd.underlying32 Tryd.underlying33 Tryd.underlying34 Tryd.underlying35 Tryd.underlying36 Tryd.underlying37 Tryd.underlying38 Tryd.underlying39 Tryd.underlying40 Tryd.underlying41 Tryd.underlying42 Tryd.underlying43 Tryd.underlying44 Tryd.underlying45 Tryd.underlying46 Tryd.underlying47 Tryd.underlying48 Tryd.underlying49 Tryd.underlying50 Tryd.underlying51 Tryd.underlying52 Tryd.underlying53 Tryd.underlying54 Tryd.underlying55 Tryd.underlying56 Tryd.underlying57 Tryd.underlying58 Tryd.underlying59 Tryd.underlying60 Tryd.underlying61 Tryd.underlying62 Tryd.underlying63 Tryd.underlying64 Tryd.underlying65 Tryd.underlying66 Tryd.underlying67 Tryd.underlying68 Tryd.underlying69 Tryd.underlying70 Tryd.underlying71 Tryd.underlying72 Tryd.underlying73 Tryd.underlying74 Tryd.underlying75 Tryd.underlying76 Tryd.underlying77 Tryd.underlying78 Tryd.underlying79 Tryd.underlying80 Tryd.underlying81 Tryd.underlying82 Tryd.underlying83 Tryd.underlying84 Tryd.underlying85 Tryd.underlying86 Tryd.underlying87 Tryd.underlying88 Tryd.underlying89 Tryd.underlying90 Tryd.underlying91 Tryd.underlying92 Tryd.underlying93 Tryd.underlying94 Tryd.underlying95 Tryd.underlying96 Tryd.underlying97 Tryd.underlying98 Tryd.underlying99 Tryd.underlying100 Tryd.underlying101 Tryd.underlying102 Tryd.underlying103 Tryd.underlying104 Tryd.underlying105 Tryd.underlying106 Tryd.underlying107 Tryd.underlying108 Tryd.underlying109 Tryd.underlying110 Tryd.underlying111 Tryd.underlying112 Tryd.underlying113 Tryd.underlying114 Tryd.underlying115 Tryd.underlying116 Tryd.underlying117 Tryd.underlying118 Tryd.underlying119 Tryd.underlying120 Tryd.underlying121 Tryd.underlying122 Tryd.underlying123 Tryd.underlying124 Tryd.underlying125 Tryd.underlying126 Tryd.underlying127 Tryd.underlying128 Tryd.underlying129 Tryd.underlying130 Tryd.underlying131 Tryd.underlying132 Tryd.underlying133 Tryd.underlying134 Tryd.underlying135 Tryd.underlying136 Tryd.underlying137 Tryd.underlying138 Tryd.underlying139 Tryd.underlying140 Tryd.underlying141 Tryd.underlying142 Tryd.underlying143 Tryd.underlying144 Tryd.underlying145 Tryd.underlying146 Tryd.underlying147
@[go_sem] theorem c2 : Tryd.prog.cellsOf 2 = 1 := nrfl (by kernel_rfl)
@[go_sem] theorem by2 : Tryd.prog.bytesOf 2 = 8 := nrfl (by kernel_rfl)
@[go_sem] theorem z2 : zeroA Tryd.prog 2 = (.d (.int .i64 0)) := nrfl (by kernel_rfl)
@[go_sem] theorem c3 : Tryd.prog.cellsOf 3 = 1 := nrfl (by kernel_rfl)
@[go_sem] theorem by3 : Tryd.prog.bytesOf 3 = 8 := nrfl (by kernel_rfl)
@[go_sem] theorem z3 : zeroA Tryd.prog 3 = (.d (.int .i64 0)) := nrfl (by kernel_rfl)
@[go_sem] theorem c4 : Tryd.prog.cellsOf 4 = 1 := nrfl (by kernel_rfl)
@[go_sem] theorem by4 : Tryd.prog.bytesOf 4 = 1 := nrfl (by kernel_rfl)
@[go_sem] theorem z4 : zeroA Tryd.prog 4 = (.d (.bool false)) := nrfl (by kernel_rfl)
@[go_sem] theorem c5 : Tryd.prog.cellsOf 5 = 1 := nrfl (by kernel_rfl)
@[go_sem] theorem by5 : Tryd.prog.bytesOf 5 = 1 := nrfl (by kernel_rfl)
@[go_sem] theorem z5 : zeroA Tryd.prog 5 = (.d (.int .u8 0)) := nrfl (by kernel_rfl)
@[go_sem] theorem c6 : Tryd.prog.cellsOf 6 = 1 := nrfl (by kernel_rfl)
@[go_sem] theorem by6 : Tryd.prog.bytesOf 6 = 1 := nrfl (by kernel_rfl)
@[go_sem] theorem z6 : zeroA Tryd.prog 6 = (.d (.int .u8 0)) := nrfl (by kernel_rfl)
@[go_sem] theorem c7 : Tryd.prog.cellsOf 7 = 4 := nrfl (by kernel_rfl)
@[go_sem] theorem by7 : Tryd.prog.bytesOf 7 = 24 := nrfl (by kernel_rfl)
@[go_sem] theorem z7 : zeroA Tryd.prog 7 = (.agg [(.d (.int .i64 0)), (.d (.int .i64 0)), (.d (.bool false)), (.d (.int .u8 0))]) := nrfl (by kernel_rfl)
@[go_sem] theorem sp7 : structPlaces Tryd.prog 7 = some [(0, 1), (1, 1), (2, 1), (3, 1)] := nrfl (by kernel_rfl)
@[go_sem] theorem fo7_0 : fieldOff Tryd.prog 7 0 = some (0, 2) := by kernel_rfl
@[go_sem] theorem fo7_1 : fieldOff Tryd.prog 7 1 = some (1, 3) := by kernel_rfl
@[go_sem] theorem fo7_2 : fieldOff Tryd.prog 7 2 = some (2, 4) := by kernel_rfl
@[go_sem] theorem fo7_3 : fieldOff Tryd.prog 7 3 = some (3, 6) := by kernel_rfl
@[go_sem] theorem c8 : Tryd.prog.cellsOf 8 = 4 := nrfl (by kernel_rfl)
@[go_sem] theorem by8 : Tryd.prog.bytesOf 8 = 24 := nrfl (by kernel_rfl)
@[go_sem] theorem z8 : zeroA Tryd.prog 8 = (.agg [(.d (.int .i64 0)), (.d (.int .i64 0)), (.d (.bool false)), (.d (.int .u8 0))]) := nrfl (by kernel_rfl)
@[go_sem] theorem sp8 : structPlaces Tryd.prog 8 = some [(0, 1), (1, 1), (2, 1), (3, 1)] := nrfl (by kernel_rfl)
@[go_sem] theorem fo8_0 : fieldOff Tryd.prog 8 0 = some (0, 2) := by kernel_rfl
@[go_sem] theorem fo8_1 : fieldOff Tryd.prog 8 1 = some (1, 3) := by kernel_rfl
@[go_sem] theorem fo8_2 : fieldOff Tryd.prog 8 2 = some (2, 4) := by kernel_rfl
@[go_sem] theorem fo8_3 : fieldOff Tryd.prog 8 3 = some (3, 6) := by kernel_rfl
@[go_sem] theorem c9 : Tryd.prog.cellsOf 9 = 1 := nrfl (by kernel_rfl)
@[go_sem] theorem by9 : Tryd.prog.bytesOf 9 = 16 := nrfl (by kernel_rfl)
@[go_sem] theorem z9 : zeroA Tryd.prog 9 = (.d (.str [])) := nrfl (by kernel_rfl)
@[go_sem] theorem c10 : Tryd.prog.cellsOf 10 = 1 := nrfl (by kernel_rfl)
@[go_sem] theorem by10 : Tryd.prog.bytesOf 10 = 16 := nrfl (by kernel_rfl)
@[go_sem] theorem z10 : zeroA Tryd.prog 10 = (.d (.str [])) := nrfl (by kernel_rfl)
@[go_sem] theorem c11 : Tryd.prog.cellsOf 11 = 1 := nrfl (by kernel_rfl)
@[go_sem] theorem by11 : Tryd.prog.bytesOf 11 = 16 := nrfl (by kernel_rfl)
@[go_sem] theorem z11 : zeroA Tryd.prog 11 = (.d (.str [])) := nrfl (by kernel_rfl)
@[go_sem] theorem c12 : Tryd.prog.cellsOf 12 = 1 := nrfl (by kernel_rfl)
@[go_sem] theorem by12 : Tryd.prog.bytesOf 12 = 8 := nrfl (by kernel_rfl)
@[go_sem] theorem z12 : zeroA Tryd.prog 12 = (.d (.int .u64 0)) := nrfl (by kernel_rfl)
@[go_sem] theorem c13 : Tryd.prog.cellsOf 13 = 2 := nrfl (by kernel_rfl)
@[go_sem] theorem by13 : Tryd.prog.bytesOf 13 = 24 := nrfl (by kernel_rfl)
@[go_sem] theorem z13 : zeroA Tryd.prog 13 = (.agg [(.d (.str [])), (.d (.int .u64 0))]) := nrfl (by kernel_rfl)
@[go_sem] theorem sp13 : structPlaces Tryd.prog 13 = some [(0, 1), (1, 1)] := nrfl (by kernel_rfl)
@[go_sem] theorem fo13_0 : fieldOff Tryd.prog 13 0 = some (0, 9) := by kernel_rfl
@[go_sem] theorem fo13_1 : fieldOff Tryd.prog 13 1 = some (1, 12) := by kernel_rfl
@[go_sem] theorem c14 : Tryd.prog.cellsOf 14 = 2 := nrfl (by kernel_rfl)
@[go_sem] theorem by14 : Tryd.prog.bytesOf 14 = 24 := nrfl (by kernel_rfl)
@[go_sem] theorem z14 : zeroA Tryd.prog 14 = (.agg [(.d (.str [])), (.d (.int .u64 0))]) := nrfl (by kernel_rfl)
@[go_sem] theorem sp14 : structPlaces Tryd.prog 14 = some [(0, 1), (1, 1)] := nrfl (by kernel_rfl)
@[go_sem] theorem fo14_0 : fieldOff Tryd.prog 14 0 = some (0, 9) := by kernel_rfl
@[go_sem] theorem fo14_1 : fieldOff Tryd.prog 14 1 = some (1, 12) := by kernel_rfl
@[go_sem] theorem c15 : Tryd.prog.cellsOf 15 = 1 := nrfl (by kernel_rfl)
@[go_sem] theorem by15 : Tryd.prog.bytesOf 15 = 8 := nrfl (by kernel_rfl)
@[go_sem] theorem z15 : zeroA Tryd.prog 15 = (.d .nilptr) := nrfl (by kernel_rfl)
@[go_sem] theorem c16 : Tryd.prog.cellsOf 16 = 1 := nrfl (by kernel_rfl)
@[go_sem] theorem by16 : Tryd.prog.bytesOf 16 = 8 := nrfl (by kernel_rfl)
@[go_sem] theorem z16 : zeroA Tryd.prog 16 = (.d .nilptr) := nrfl (by kernel_rfl)
@[go_sem] theorem c17 : Tryd.prog.cellsOf 17 = 1 := nrfl (by kernel_rfl)
@[go_sem] theorem by17 : Tryd.prog.bytesOf 17 = 8 := nrfl (by kernel_rfl)
@[go_sem] theorem z17 : zeroA Tryd.prog 17 = (.d .nilptr) := nrfl (by kernel_rfl)
@[go_sem] theorem c18 : Tryd.prog.cellsOf 18 = 1 := nrfl (by kernel_rfl)
@[go_sem] theorem by18 : Tryd.prog.bytesOf 18 = 8 := nrfl (by kernel_rfl)
@[go_sem] theorem z18 : zeroA Tryd.prog 18 = (.agg [(.d .nilptr)]) := nrfl (by kernel_rfl)
@[go_sem] theorem sp18 : structPlaces Tryd.prog 18 = some [(0, 1)] := nrfl (by kernel_rfl)
@[go_sem] theorem fo18_0 : fieldOff Tryd.prog 18 0 = some (0, 17) := by kernel_rfl
@[go_sem] theorem c19 : Tryd.prog.cellsOf 19 = 1 := nrfl (by kernel_rfl)
@[go_sem] theorem by19 : Tryd.prog.bytesOf 19 = 8 := nrfl (by kernel_rfl)
@[go_sem] theorem z19 : zeroA Tryd.prog 19 = (.agg [(.d .nilptr)]) := nrfl (by kernel_rfl)
@[go_sem] theorem sp19 : structPlaces Tryd.prog 19 = some [(0, 1)] := nrfl (by kernel_rfl)
@[go_sem] theorem fo19_0 : fieldOff Tryd.prog 19 0 = some (0, 17) := by kernel_rfl
@[go_sem] theorem c20 : Tryd.prog.cellsOf 20 = 1 := nrfl (by kernel_rfl)
@[go_sem] theorem by20 : Tryd.prog.bytesOf 20 = 16 := nrfl (by kernel_rfl)
@[go_sem] theorem z20 : zeroA Tryd.prog 20 = (.d .niliface) := nrfl (by kernel_rfl)
@[go_sem] theorem c21 : Tryd.prog.cellsOf 21 = 1 := nrfl (by kernel_rfl)
@[go_sem] theorem by21 : Tryd.prog.bytesOf 21 = 4 := nrfl (by kernel_rfl)
@[go_sem] theorem z21 : zeroA Tryd.prog 21 = (.d (.int .i32 0)) := nrfl (by kernel_rfl)
@[go_sem] theorem c22 : Tryd.prog.cellsOf 22 = 1 := nrfl (by kernel_rfl)
@[go_sem] theorem by22 : Tryd.prog.bytesOf 22 = 24 := nrfl (by kernel_rfl)
@[go_sem] theorem z22 : zeroA Tryd.prog 22 = (.d .nilslice) := nrfl (by kernel_rfl)
@[go_sem] theorem c24 : Tryd.prog.cellsOf 24 = 1 := nrfl (by kernel_rfl)
@[go_sem] theorem by24 : Tryd.prog.bytesOf 24 = 24 := nrfl (by kernel_rfl)
@[go_sem] theorem z24 : zeroA Tryd.prog 24 = (.d .nilslice) := nrfl (by kernel_rfl)
@[go_sem] theorem c26 : Tryd.prog.cellsOf 26 = 1 := nrfl (by kernel_rfl)
@[go_sem] theorem by26 : Tryd.prog.bytesOf 26 = 8 := nrfl (by kernel_rfl)
@[go_sem] theorem z26 : zeroA Tryd.prog 26 = (.d (.int .i64 0)) := nrfl (by kernel_rfl)
@[go_sem] theorem c28 : Tryd.prog.cellsOf 28 = 2 := nrfl (by kernel_rfl)
@[go_sem] theorem by28 : Tryd.prog.bytesOf 28 = 16 := nrfl (by kernel_rfl)
@[go_sem] theorem z28 : zeroA Tryd.prog 28 = (.agg [(.d (.int .i64 0)), (.d (.int .i64 0))]) := nrfl (by kernel_rfl)
@[go_sem] theorem sp28 : structPlaces Tryd.prog 28 = some [(0, 1), (1, 1)] := nrfl (by kernel_rfl)
@[go_sem] theorem fo28_0 : fieldOff Tryd.prog 28 0 = some (0, 3) := by kernel_rfl
@[go_sem] theorem fo28_1 : fieldOff Tryd.prog 28 1 = some (1, 3) := by kernel_rfl
@[go_sem] theorem sk28 : structKinds Tryd.prog 28 = some [0, 0] := nrfl (by kernel_rfl)
@[go_sem] theorem c29 : Tryd.prog.cellsOf 29 = 2 := nrfl (by kernel_rfl)
@[go_sem] theorem by29 : Tryd.prog.bytesOf 29 = 16 := nrfl (by kernel_rfl)
@[go_sem] theorem z29 : zeroA Tryd.prog 29 = (.agg [(.d (.int .i64 0)), (.d (.int .i64 0))]) := nrfl (by kernel_rfl)
@[go_sem] theorem sp29 : structPlaces Tryd.prog 29 = some [(0, 1), (1, 1)] := nrfl (by kernel_rfl)
@[go_sem] theorem fo29_0 : fieldOff Tryd.prog 29 0 = some (0, 3) := by kernel_rfl
@[go_sem] theorem fo29_1 : fieldOff Tryd.prog 29 1 = some (1, 3) := by kernel_rfl
@[go_sem] theorem sk29 : structKinds Tryd.prog 29 = some [0, 0] := nrfl (by kernel_rfl)
@[go_sem] theorem c30 : Tryd.prog.cellsOf 30 = 6 := nrfl (by kernel_rfl)
@[go_sem] theorem by30 : Tryd.prog.bytesOf 30 = 64 := nrfl (by kernel_rfl)
@[go_sem] theorem z30 : zeroA Tryd.prog 30 = (.agg [(.d (.str [])), (.d (.str [])), (.d (.int .i64 0)), (.d (.int .i64 0)), (.d (.int .i64 0)), (.d (.int .i64 0))]) := nrfl (by kernel_rfl)
@[go_sem] theorem sp30 : structPlaces Tryd.prog 30 = some [(0, 1), (1, 1), (2, 1), (3, 1), (4, 1), (5, 1)] := nrfl (by kernel_rfl)
@[go_sem] theorem fo30_0 : fieldOff Tryd.prog 30 0 = some (0, 9) := by kernel_rfl
@[go_sem] theorem fo30_1 : fieldOff Tryd.prog 30 1 = some (1, 9) := by kernel_rfl
@[go_sem] theorem fo30_2 : fieldOff Tryd.prog 30 2 = some (2, 3) := by kernel_rfl
@[go_sem] theorem fo30_3 : fieldOff Tryd.prog 30 3 = some (3, 3) := by kernel_rfl
@[go_sem] theorem fo30_4 : fieldOff Tryd.prog 30 4 = some (4, 3) := by kernel_rfl
@[go_sem] theorem fo30_5 : fieldOff Tryd.prog 30 5 = some (5, 3) := by kernel_rfl
@[go_sem] theorem sk30 : structKinds Tryd.prog 30 = some [2, 2, 0, 0, 0, 0] := nrfl (by kernel_rfl)
@[go_sem] theorem c31 : Tryd.prog.cellsOf 31 = 6 := nrfl (by kernel_rfl)
@[go_sem] theorem by31 : Tryd.prog.bytesOf 31 = 64 := nrfl (by kernel_rfl)
@[go_sem] theorem z31 : zeroA Tryd.prog 31 = (.agg [(.d (.str [])), (.d (.str [])), (.d (.int .i64 0)), (.d (.int .i64 0)), (.d (.int .i64 0)), (.d (.int .i64 0))]) := nrfl (by kernel_rfl)
@[go_sem] theorem sp31 : structPlaces Tryd.prog 31 = some [(0, 1), (1, 1), (2, 1), (3, 1), (4, 1), (5, 1)] := nrfl (by kernel_rfl)
@[go_sem] theorem fo31_0 : fieldOff Tryd.prog 31 0 = some (0, 9) := by kernel_rfl
@[go_sem] theorem fo31_1 : fieldOff Tryd.prog 31 1 = some (1, 9) := by kernel_rfl
@[go_sem] theorem fo31_2 : fieldOff Tryd.prog 31 2 = some (2, 3) := by kernel_rfl
@[go_sem] theorem fo31_3 : fieldOff Tryd.prog 31 3 = some (3, 3) := by kernel_rfl
@[go_sem] theorem fo31_4 : fieldOff Tryd.prog 31 4 = some (4, 3) := by kernel_rfl
@[go_sem] theorem fo31_5 : fieldOff Tryd.prog 31 5 = some (5, 3) := by kernel_rfl
@[go_sem] theorem sk31 : structKinds Tryd.prog 31 = some [2, 2, 0, 0, 0, 0] := nrfl (by kernel_rfl)
@[go_sem] theorem c35 : Tryd.prog.cellsOf 35 = 1 := nrfl (by kernel_rfl)
@[go_sem] theorem by35 : Tryd.prog.bytesOf 35 = 24 := nrfl (by kernel_rfl)
@[go_sem] theorem z35 : zeroA Tryd.prog 35 = (.d .nilslice) := nrfl (by kernel_rfl)
@[go_sem] theorem c38 : Tryd.prog.cellsOf 38 = 1 := nrfl (by kernel_rfl)
@[go_sem] theorem by38 : Tryd.prog.bytesOf 38 = 8 := nrfl (by kernel_rfl)
@[go_sem] theorem z38 : zeroA Tryd.prog 38 = (.d .nilmap) := nrfl (by kernel_rfl)
@[go_sem] theorem c43 : Tryd.prog.cellsOf 43 = 1 := nrfl (by kernel_rfl)
@[go_sem] theorem by43 : Tryd.prog.bytesOf 43 = 24 := nrfl (by kernel_rfl)
@[go_sem] theorem z43 : zeroA Tryd.prog 43 = (.d .nilslice) := nrfl (by kernel_rfl)
@[go_sem] theorem c44 : Tryd.prog.cellsOf 44 = 1 := nrfl (by kernel_rfl)
@[go_sem] theorem by44 : Tryd.prog.bytesOf 44 = 24 := nrfl (by kernel_rfl)
@[go_sem] theorem z44 : zeroA Tryd.prog 44 = (.d .nilslice) := nrfl (by kernel_rfl)
@[go_sem] theorem c45 : Tryd.prog.cellsOf 45 = 5 := nrfl (by kernel_rfl)
@[go_sem] theorem by45 : Tryd.prog.bytesOf 45 = 72 := nrfl (by kernel_rfl)
@[go_sem] theorem z45 : zeroA Tryd.prog 45 = (.agg [(.d (.int .i64 0)), (.d .nilslice), (.d .nilslice), (.d (.int .i64 0)), (.d (.int .i64 0))]) := nrfl (by kernel_rfl)
@[go_sem] theorem sp45 : structPlaces Tryd.prog 45 = some [(0, 1), (1, 1), (2, 1), (3, 1), (4, 1)] := nrfl (by kernel_rfl)
@[go_sem] theorem fo45_0 : fieldOff Tryd.prog 45 0 = some (0, 3) := by kernel_rfl
@[go_sem] theorem fo45_1 : fieldOff Tryd.prog 45 1 = some (1, 43) := by kernel_rfl
@[go_sem] theorem fo45_2 : fieldOff Tryd.prog 45 2 = some (2, 44) := by kernel_rfl
@[go_sem] theorem fo45_3 : fieldOff Tryd.prog 45 3 = some (3, 3) := by kernel_rfl
@[go_sem] theorem fo45_4 : fieldOff Tryd.prog 45 4 = some (4, 3) := by kernel_rfl
@[go_sem] theorem c46 : Tryd.prog.cellsOf 46 = 5 := nrfl (by kernel_rfl)
@[go_sem] theorem by46 : Tryd.prog.bytesOf 46 = 72 := nrfl (by kernel_rfl)
@[go_sem] theorem z46 : zeroA Tryd.prog 46 = (.agg [(.d (.int .i64 0)), (.d .nilslice), (.d .nilslice), (.d (.int .i64 0)), (.d (.int .i64 0))]) := nrfl (by kernel_rfl)
@[go_sem] theorem sp46 : structPlaces Tryd.prog 46 = some [(0, 1), (1, 1), (2, 1), (3, 1), (4, 1)] := nrfl (by kernel_rfl)
@[go_sem] theorem fo46_0 : fieldOff Tryd.prog 46 0 = some (0, 3) := by kernel_rfl
@[go_sem] theorem fo46_1 : fieldOff Tryd.prog 46 1 = some (1, 43) := by kernel_rfl
@[go_sem] theorem fo46_2 : fieldOff Tryd.prog 46 2 = some (2, 44) := by kernel_rfl
@[go_sem] theorem fo46_3 : fieldOff Tryd.prog 46 3 = some (3, 3) := by kernel_rfl
@[go_sem] theorem fo46_4 : fieldOff Tryd.prog 46 4 = some (4, 3) := by kernel_rfl
@[go_sem] theorem c53 : Tryd.prog.cellsOf 53 = 1 := nrfl (by kernel_rfl)
@[go_sem] theorem by53 : Tryd.prog.bytesOf 53 = 8 := nrfl (by kernel_rfl)
@[go_sem] theorem z53 : zeroA Tryd.prog 53 = (.d (.int .u64 0)) := nrfl (by kernel_rfl)
@[go_sem] theorem c55 : Tryd.prog.cellsOf 55 = 0 := nrfl (by kernel_rfl)
@[go_sem] theorem by55 : Tryd.prog.bytesOf 55 = 0 := nrfl (by kernel_rfl)
@[go_sem] theorem z55 : zeroA Tryd.prog 55 = (.agg []) := nrfl (by kernel_rfl)
@[go_sem] theorem sp55 : structPlaces Tryd.prog 55 = some [] := nrfl (by kernel_rfl)
@[go_sem] theorem c56 : Tryd.prog.cellsOf 56 = 0 := nrfl (by kernel_rfl)
@[go_sem] theorem by56 : Tryd.prog.bytesOf 56 = 0 := nrfl (by kernel_rfl)
@[go_sem] theorem z56 : zeroA Tryd.prog 56 = (.agg []) := nrfl (by kernel_rfl)
@[go_sem] theorem sp56 : structPlaces Tryd.prog 56 = some [] := nrfl (by kernel_rfl)
@[go_sem] theorem c58 : Tryd.prog.cellsOf 58 = 1 := nrfl (by kernel_rfl)
@[go_sem] theorem by58 : Tryd.prog.bytesOf 58 = 8 := nrfl (by kernel_rfl)
@[go_sem] theorem z58 : zeroA Tryd.prog 58 = (.d .nilptr) := nrfl (by kernel_rfl)
@[go_sem] theorem c59 : Tryd.prog.cellsOf 59 = 1 := nrfl (by kernel_rfl)
@[go_sem] theorem by59 : Tryd.prog.bytesOf 59 = 24 := nrfl (by kernel_rfl)
@[go_sem] theorem z59 : zeroA Tryd.prog 59 = (.d .nilslice) := nrfl (by kernel_rfl)
@[go_sem] theorem c60 : Tryd.prog.cellsOf 60 = 2 := nrfl (by kernel_rfl)
@[go_sem] theorem by60 : Tryd.prog.bytesOf 60 = 32 := nrfl (by kernel_rfl)
@[go_sem] theorem z60 : zeroA Tryd.prog 60 = (.agg [(.d .nilslice), (.d (.int .i64 0))]) := nrfl (by kernel_rfl)
@[go_sem] theorem sp60 : structPlaces Tryd.prog 60 = some [(0, 1), (1, 1)] := nrfl (by kernel_rfl)
@[go_sem] theorem fo60_0 : fieldOff Tryd.prog 60 0 = some (0, 59) := by kernel_rfl
@[go_sem] theorem fo60_1 : fieldOff Tryd.prog 60 1 = some (1, 3) := by kernel_rfl
@[go_sem] theorem c61 : Tryd.prog.cellsOf 61 = 2 := nrfl (by kernel_rfl)
@[go_sem] theorem by61 : Tryd.prog.bytesOf 61 = 32 := nrfl (by kernel_rfl)
@[go_sem] theorem z61 : zeroA Tryd.prog 61 = (.agg [(.d .nilslice), (.d (.int .i64 0))]) := nrfl (by kernel_rfl)
@[go_sem] theorem sp61 : structPlaces Tryd.prog 61 = some [(0, 1), (1, 1)] := nrfl (by kernel_rfl)
@[go_sem] theorem fo61_0 : fieldOff Tryd.prog 61 0 = some (0, 59) := by kernel_rfl
@[go_sem] theorem fo61_1 : fieldOff Tryd.prog 61 1 = some (1, 3) := by kernel_rfl
@[go_sem] theorem c68 : Tryd.prog.cellsOf 68 = 1 := nrfl (by kernel_rfl)
@[go_sem] theorem by68 : Tryd.prog.bytesOf 68 = 24 := nrfl (by kernel_rfl)
@[go_sem] theorem z68 : zeroA Tryd.prog 68 = (.d .nilslice) := nrfl (by kernel_rfl)
@[go_sem] theorem c71 : Tryd.prog.cellsOf 71 = 1 := nrfl (by kernel_rfl)
@[go_sem] theorem by71 : Tryd.prog.bytesOf 71 = 8 := nrfl (by kernel_rfl)
@[go_sem] theorem z71 : zeroA Tryd.prog 71 = (.d (.int .i64 0)) := nrfl (by kernel_rfl)
@[go_sem] theorem c80 : Tryd.prog.cellsOf 80 = 1 := nrfl (by kernel_rfl)
@[go_sem] theorem by80 : Tryd.prog.bytesOf 80 = 4 := nrfl (by kernel_rfl)
@[go_sem] theorem z80 : zeroA Tryd.prog 80 = (.d (.int .u32 0)) := nrfl (by kernel_rfl)
@[go_sem] theorem c82 : Tryd.prog.cellsOf 82 = 1 := nrfl (by kernel_rfl)
@[go_sem] theorem by82 : Tryd.prog.bytesOf 82 = 8 := nrfl (by kernel_rfl)
@[go_sem] theorem z82 : zeroA Tryd.prog 82 = (.d (.int .u64 0)) := nrfl (by kernel_rfl)
@[go_sem] theorem c86 : Tryd.prog.cellsOf 86 = 4 := nrfl (by kernel_rfl)
@[go_sem] theorem by86 : Tryd.prog.bytesOf 86 = 24 := nrfl (by kernel_rfl)
@[go_sem] theorem z86 : zeroA Tryd.prog 86 = (.agg [(.d (.int .i32 0)), (.d (.int .i64 0)), (.d (.int .u8 0)), (.d (.int .u8 0))]) := nrfl (by kernel_rfl)
@[go_sem] theorem sp86 : structPlaces Tryd.prog 86 = some [(0, 1), (1, 1), (2, 1), (3, 1)] := nrfl (by kernel_rfl)
@[go_sem] theorem fo86_0 : fieldOff Tryd.prog 86 0 = some (0, 21) := by kernel_rfl
@[go_sem] theorem fo86_1 : fieldOff Tryd.prog 86 1 = some (1, 3) := by kernel_rfl
@[go_sem] theorem fo86_2 : fieldOff Tryd.prog 86 2 = some (2, 5) := by kernel_rfl
@[go_sem] theorem fo86_3 : fieldOff Tryd.prog 86 3 = some (3, 5) := by kernel_rfl
@[go_sem] theorem sk86 : structKinds Tryd.prog 86 = some [0, 0, 0, 0] := nrfl (by kernel_rfl)
@[go_sem] theorem c87 : Tryd.prog.cellsOf 87 = 4 := nrfl (by kernel_rfl)
@[go_sem] theorem by87 : Tryd.prog.bytesOf 87 = 24 := nrfl (by kernel_rfl)
@[go_sem] theorem z87 : zeroA Tryd.prog 87 = (.agg [(.d (.int .i32 0)), (.d (.int .i64 0)), (.d (.int .u8 0)), (.d (.int .u8 0))]) := nrfl (by kernel_rfl)
@[go_sem] theorem sp87 : structPlaces Tryd.prog 87 = some [(0, 1), (1, 1), (2, 1), (3, 1)] := nrfl (by kernel_rfl)
@[go_sem] theorem fo87_0 : fieldOff Tryd.prog 87 0 = some (0, 21) := by kernel_rfl
@[go_sem] theorem fo87_1 : fieldOff Tryd.prog 87 1 = some (1, 3) := by kernel_rfl
@[go_sem] theorem fo87_2 : fieldOff Tryd.prog 87 2 = some (2, 5) := by kernel_rfl
@[go_sem] theorem fo87_3 : fieldOff Tryd.prog 87 3 = some (3, 5) := by kernel_rfl
@[go_sem] theorem sk87 : structKinds Tryd.prog 87 = some [0, 0, 0, 0] := nrfl (by kernel_rfl)
@[go_sem] theorem c90 : Tryd.prog.cellsOf 90 = 2 := nrfl (by kernel_rfl)
@[go_sem] theorem by90 : Tryd.prog.bytesOf 90 = 8 := nrfl (by kernel_rfl)
@[go_sem] theorem z90 : zeroA Tryd.prog 90 = (.agg [(.d (.int .i32 0)), (.d (.int .i32 0))]) := nrfl (by kernel_rfl)
@[go_sem] theorem sp90 : structPlaces Tryd.prog 90 = some [(0, 1), (1, 1)] := nrfl (by kernel_rfl)
@[go_sem] theorem fo90_0 : fieldOff Tryd.prog 90 0 = some (0, 21) := by kernel_rfl
@[go_sem] theorem fo90_1 : fieldOff Tryd.prog 90 1 = some (1, 21) := by kernel_rfl
@[go_sem] theorem sk90 : structKinds Tryd.prog 90 = some [0, 0] := nrfl (by kernel_rfl)
@[go_sem] theorem c91 : Tryd.prog.cellsOf 91 = 2 := nrfl (by kernel_rfl)
@[go_sem] theorem by91 : Tryd.prog.bytesOf 91 = 8 := nrfl (by kernel_rfl)
@[go_sem] theorem z91 : zeroA Tryd.prog 91 = (.agg [(.d (.int .i32 0)), (.d (.int .i32 0))]) := nrfl (by kernel_rfl)
@[go_sem] theorem sp91 : structPlaces Tryd.prog 91 = some [(0, 1), (1, 1)] := nrfl (by kernel_rfl)
@[go_sem] theorem fo91_0 : fieldOff Tryd.prog 91 0 = some (0, 21) := by kernel_rfl
@[go_sem] theorem fo91_1 : fieldOff Tryd.prog 91 1 = some (1, 21) := by kernel_rfl
@[go_sem] theorem sk91 : structKinds Tryd.prog 91 = some [0, 0] := nrfl (by kernel_rfl)
@[go_sem] theorem c95 : Tryd.prog.cellsOf 95 = 1 := nrfl (by kernel_rfl)
@[go_sem] theorem by95 : Tryd.prog.bytesOf 95 = 8 := nrfl (by kernel_rfl)
@[go_sem] theorem z95 : zeroA Tryd.prog 95 = (.d (.int .u64 0)) := nrfl (by kernel_rfl)
@[go_sem] theorem c99 : Tryd.prog.cellsOf 99 = 1 := nrfl (by kernel_rfl)
@[go_sem] theorem by99 : Tryd.prog.bytesOf 99 = 8 := nrfl (by kernel_rfl)
@[go_sem] theorem z99 : zeroA Tryd.prog 99 = (.d .nilptr) := nrfl (by kernel_rfl)
@[go_sem] theorem c103 : Tryd.prog.cellsOf 103 = 256 := nrfl (by kernel_rfl)
@[go_sem] theorem by103 : Tryd.prog.bytesOf 103 = 256 := nrfl (by kernel_rfl)
@[go_sem] theorem z103 : zeroA Tryd.prog 103 = (.agg [(.d (.int .u8 0)), (.d (.int .u8 0)), (.d (.int .u8 0)), (.d (.int .u8 0)), (.d (.int .u8 0)), (.d (.int .u8 0)), (.d (.int .u8 0)), (.d (.int .u8 0)), (.d (.int .u8 0)), (.d (.int .u8 0)), (.d (.int .u8 0)), (.d (.int .u8 0)), (.d (.int .u8 0)), (.d (.int .u8 0)), (.d (.int .u8 0)), (.d (.int .u8 0)), (.d (.int .u8 0)), (.d (.int .u8 0)), (.d (.int .u8 0)), (.d (.int .u8 0)), (.d (.int .u8 0)), (.d (.int .u8 0)), (.d (.int .u8 0)), (.d (.int .u8 0)), (.d (.int .u8 0)), (.d (.int .u8 0)), (.d (.int .u8 0)), (.d (.int .u8 0)), (.d (.int .u8 0)), (.d (.int .u8 0)), (.d (.int .u8 0)), (.d (.int .u8 0)), (.d (.int .u8 0)), (.d (.int .u8 0)), (.d (.int .u8 0)), (.d (.int .u8 0)), (.d (.int .u8 0)), (.d (.int .u8 0)), (.d (.int .u8 0)), (.d (.int .u8 0)), (.d (.int .u8 0)), (.d (.int .u8 0)), (.d (.int .u8 0)), (.d (.int .u8 0)), (.d (.int .u8 0)), (.d (.int .u8 0)), (.d (.int .u8 0)), (.d (.int .u8 0)), (.d (.int .u8 0)), (.d (.int .u8 0)), (.d (.int .u8 0)), (.d (.int .u8 0)), (.d (.int .u8 0)), (.d (.int .u8 0)), (.d (.int .u8 0)), (.d (.int .u8 0)), (.d (.int .u8 0)), (.d (.int .u8 0)), (.d (.int .u8 0)), (.d (.int .u8 0)), (.d (.int .u8 0)), (.d (.int .u8 0)), (.d (.int .u8 0)), (.d (.int .u8 0)), (.d (.int .u8 0)), (.d (.int .u8 0)), (.d (.int .u8 0)), (.d (.int .u8 0)), (.d (.int .u8 0)), (.d (.int .u8 0)), (.d (.int .u8 0)), (.d (.int .u8 0)), (.d (.int .u8 0)), (.d (.int .u8 0)), (.d (.int .u8 0)), (.d (.int .u8 0)), (.d (.int .u8 0)), (.d (.int .u8 0)), (.d (.int .u8 0)), (.d (.int .u8 0)), (.d (.int .u8 0)), (.d (.int .u8 0)), (.d (.int .u8 0)), (.d (.int .u8 0)), (.d (.int .u8 0)), (.d (.int .u8 0)), (.d (.int .u8 0)), (.d (.int .u8 0)), (.d (.int .u8 0)), (.d (.int .u8 0)), (.d (.int .u8 0)), (.d (.int .u8 0)), (.d (.int .u8 0)), (.d (.int .u8 0)), (.d (.int .u8 0)), (.d (.int .u8 0)), (.d (.int .u8 0)), (.d (.int .u8 0)), (.d (.int .u8 0)), (.d (.int .u8 0)), (.d (.int .u8 0)), (.d (.int .u8 0)), (.d (.int .u8 0)), (.d (.int .u8 0)), (.d (.int .u8 0)), (.d (.int .u8 0)), (.d (.int .u8 0)), (.d (.int .u8 0)), (.d (.int .u8 0)), (.d (.int .u8 0)), (.d (.int .u8 0)), (.d (.int .u8 0)), (.d (.int .u8 0)), (.d (.int .u8 0)), (.d (.int .u8 0)), (.d (.int .u8 0)), (.d (.int .u8 0)), (.d (.int .u8 0)), (.d (.int .u8 0)), (.d (.int .u8 0)), (.d (.int .u8 0)), (.d (.int .u8 0)), (.d (.int .u8 0)), (.d (.int .u8 0)), (.d (.int .u8 0)), (.d (.int .u8 0)), (.d (.int .u8 0)), (.d (.int .u8 0)), (.d (.int .u8 0)), (.d (.int .u8 0)), (.d (.int .u8 0)), (.d (.int .u8 0)), (.d (.int .u8 0)), (.d (.int .u8 0)), (.d (.int .u8 0)), (.d (.int .u8 0)), (.d (.int .u8 0)), (.d (.int .u8 0)), (.d (.int .u8 0)), (.d (.int .u8 0)), (.d (.int .u8 0)), (.d (.int .u8 0)), (.d (.int .u8 0)), (.d (.int .u8 0)), (.d (.int .u8 0)), (.d (.int .u8 0)), (.d (.int .u8 0)), (.d (.int .u8 0)), (.d (.int .u8 0)), (.d (.int .u8 0)), (.d (.int .u8 0)), (.d (.int .u8 0)), (.d (.int .u8 0)), (.d (.int .u8 0)), (.d (.int .u8 0)), (.d (.int .u8 0)), (.d (.int .u8 0)), (.d (.int .u8 0)), (.d (.int .u8 0)), (.d (.int .u8 0)), (.d (.int .u8 0)), (.d (.int .u8 0)), (.d (.int .u8 0)), (.d (.int .u8 0)), (.d (.int .u8 0)), (.d (.int .u8 0)), (.d (.int .u8 0)), (.d (.int .u8 0)), (.d (.int .u8 0)), (.d (.int .u8 0)), (.d (.int .u8 0)), (.d (.int .u8 0)), (.d (.int .u8 0)), (.d (.int .u8 0)), (.d (.int .u8 0)), (.d (.int .u8 0)), (.d (.int .u8 0)), (.d (.int .u8 0)), (.d (.int .u8 0)), (.d (.int .u8 0)), (.d (.int .u8 0)), (.d (.int .u8 0)), (.d (.int .u8 0)), (.d (.int .u8 0)), (.d (.int .u8 0)), (.d (.int .u8 0)), (.d (.int .u8 0)), (.d (.int .u8 0)), (.d (.int .u8 0)), (.d (.int .u8 0)), (.d (.int .u8 0)), (.d (.int .u8 0)), (.d (.int .u8 0)), (.d (.int .u8 0)), (.d (.int .u8 0)), (.d (.int .u8 0)), (.d (.int .u8 0)), (.d (.int .u8 0)), (.d (.int .u8 0)), (.d (.int .u8 0)), (.d (.int .u8 0)), (.d (.int .u8 0)), (.d (.int .u8 0)), (.d (.int .u8 0)), (.d (.int .u8 0)), (.d (.int .u8 0)), (.d (.int .u8 0)), (.d (.int .u8 0)), (.d (.int .u8 0)), (.d (.int .u8 0)), (.d (.int .u8 0)), (.d (.int .u8 0)), (.d (.int .u8 0)), (.d (.int .u8 0)), (.d (.int .u8 0)), (.d (.int .u8 0)), (.d (.int .u8 0)), (.d (.int .u8 0)), (.d (.int .u8 0)), (.d (.int .u8 0)), (.d (.int .u8 0)), (.d (.int .u8 0)), (.d (.int .u8 0)), (.d (.int .u8 0)), (.d (.int .u8 0)), (.d (.int .u8 0)), (.d (.int .u8 0)), (.d (.int .u8 0)), (.d (.int .u8 0)), (.d (.int .u8 0)), (.d (.int .u8 0)), (.d (.int .u8 0)), (.d (.int .u8 0)), (.d (.int .u8 0)), (.d (.int .u8 0)), (.d (.int .u8 0)), (.d (.int .u8 0)), (.d (.int .u8 0)), (.d (.int .u8 0)), (.d (.int .u8 0)), (.d (.int .u8 0)), (.d (.int .u8 0)), (.d (.int .u8 0)), (.d (.int .u8 0)), (.d (.int .u8 0)), (.d (.int .u8 0)), (.d (.int .u8 0)), (.d (.int .u8 0)), (.d (.int .u8 0)), (.d (.int .u8 0)), (.d (.int .u8 0)), (.d (.int .u8 0)), (.d (.int .u8 0)), (.d (.int .u8 0)), (.d (.int .u8 0)), (.d (.int .u8 0))]) := nrfl (by kernel_rfl)
@[go_sem] theorem c104 : Tryd.prog.cellsOf 104 = 2 := nrfl (by kernel_rfl)
@[go_sem] theorem by104 : Tryd.prog.bytesOf 104 = 2 := nrfl (by kernel_rfl)
@[go_sem] theorem z104 : zeroA Tryd.prog 104 = (.agg [(.d (.int .u8 0)), (.d (.int .u8 0))]) := nrfl (by kernel_rfl)
@[go_sem] theorem sp104 : structPlaces Tryd.prog 104 = some [(0, 1), (1, 1)] := nrfl (by kernel_rfl)
@[go_sem] theorem fo104_0 : fieldOff Tryd.prog 104 0 = some (0, 5) := by kernel_rfl
@[go_sem] theorem fo104_1 : fieldOff Tryd.prog 104 1 = some (1, 5) := by kernel_rfl
@[go_sem] theorem sk104 : structKinds Tryd.prog 104 = some [0, 0] := nrfl (by kernel_rfl)
@[go_sem] theorem c105 : Tryd.prog.cellsOf 105 = 2 := nrfl (by kernel_rfl)
@[go_sem] theorem by105 : Tryd.prog.bytesOf 105 = 2 := nrfl (by kernel_rfl)
@[go_sem] theorem z105 : zeroA Tryd.prog 105 = (.agg [(.d (.int .u8 0)), (.d (.int .u8 0))]) := nrfl (by kernel_rfl)
@[go_sem] theorem sp105 : structPlaces Tryd.prog 105 = some [(0, 1), (1, 1)] := nrfl (by kernel_rfl)
@[go_sem] theorem fo105_0 : fieldOff Tryd.prog 105 0 = some (0, 5) := by kernel_rfl
@[go_sem] theorem fo105_1 : fieldOff Tryd.prog 105 1 = some (1, 5) := by kernel_rfl
@[go_sem] theorem sk105 : structKinds Tryd.prog 105 = some [0, 0] := nrfl (by kernel_rfl)
@[go_sem] theorem c106 : Tryd.prog.cellsOf 106 = 32 := nrfl (by kernel_rfl)
@[go_sem] theorem by106 : Tryd.prog.bytesOf 106 = 32 := nrfl (by kernel_rfl)
@[go_sem] theorem z106 : zeroA Tryd.prog 106 = (.agg [(.d (.int .u8 0)), (.d (.int .u8 0)), (.d (.int .u8 0)), (.d (.int .u8 0)), (.d (.int .u8 0)), (.d (.int .u8 0)), (.d (.int .u8 0)), (.d (.int .u8 0)), (.d (.int .u8 0)), (.d (.int .u8 0)), (.d (.int .u8 0)), (.d (.int .u8 0)), (.d (.int .u8 0)), (.d (.int .u8 0)), (.d (.int .u8 0)), (.d (.int .u8 0)), (.d (.int .u8 0)), (.d (.int .u8 0)), (.d (.int .u8 0)), (.d (.int .u8 0)), (.d (.int .u8 0)), (.d (.int .u8 0)), (.d (.int .u8 0)), (.d (.int .u8 0)), (.d (.int .u8 0)), (.d (.int .u8 0)), (.d (.int .u8 0)), (.d (.int .u8 0)), (.d (.int .u8 0)), (.d (.int .u8 0)), (.d (.int .u8 0)), (.d (.int .u8 0))]) := nrfl (by kernel_rfl)
@[go_sem] theorem c109 : Tryd.prog.cellsOf 109 = 1 := nrfl (by kernel_rfl)
@[go_sem] theorem by109 : Tryd.prog.bytesOf 109 = 8 := nrfl (by kernel_rfl)
@[go_sem] theorem z109 : zeroA Tryd.prog 109 = (.d .nilptr) := nrfl (by kernel_rfl)
@[go_sem] theorem c134 : Tryd.prog.cellsOf 134 = 4 := nrfl (by kernel_rfl)
@[go_sem] theorem by134 : Tryd.prog.bytesOf 134 = 40 := nrfl (by kernel_rfl)
@[go_sem] theorem z134 : zeroA Tryd.prog 134 = (.agg [(.d .nilptr), (.d .nilptr), (.d .nilptr), (.d (.str []))]) := nrfl (by kernel_rfl)
@[go_sem] theorem sp134 : structPlaces Tryd.prog 134 = some [(0, 1), (1, 1), (2, 1), (3, 1)] := nrfl (by kernel_rfl)
@[go_sem] theorem fo134_0 : fieldOff Tryd.prog 134 0 = some (0, 17) := by kernel_rfl
@[go_sem] theorem fo134_1 : fieldOff Tryd.prog 134 1 = some (1, 17) := by kernel_rfl
@[go_sem] theorem fo134_2 : fieldOff Tryd.prog 134 2 = some (2, 17) := by kernel_rfl
@[go_sem] theorem fo134_3 : fieldOff Tryd.prog 134 3 = some (3, 9) := by kernel_rfl
@[go_sem] theorem c135 : Tryd.prog.cellsOf 135 = 4 := nrfl (by kernel_rfl)
@[go_sem] theorem by135 : Tryd.prog.bytesOf 135 = 40 := nrfl (by kernel_rfl)
@[go_sem] theorem z135 : zeroA Tryd.prog 135 = (.agg [(.d .nilptr), (.d .nilptr), (.d .nilptr), (.d (.str []))]) := nrfl (by kernel_rfl)
@[go_sem] theorem sp135 : structPlaces Tryd.prog 135 = some [(0, 1), (1, 1), (2, 1), (3, 1)] := nrfl (by kernel_rfl)
@[go_sem] theorem fo135_0 : fieldOff Tryd.prog 135 0 = some (0, 17) := by kernel_rfl
@[go_sem] theorem fo135_1 : fieldOff Tryd.prog 135 1 = some (1, 17) := by kernel_rfl
@[go_sem] theorem fo135_2 : fieldOff Tryd.prog 135 2 = some (2, 17) := by kernel_rfl
@[go_sem] theorem fo135_3 : fieldOff Tryd.prog 135 3 = some (3, 9) := by kernel_rfl
@[go_sem] theorem c136 : Tryd.prog.cellsOf 136 = 0 := nrfl (by kernel_rfl)
@[go_sem] theorem by136 : Tryd.prog.bytesOf 136 = 0 := nrfl (by kernel_rfl)
@[go_sem] theorem z136 : zeroA Tryd.prog 136 = (.agg []) := nrfl (by kernel_rfl)
@[go_sem] theorem c137 : Tryd.prog.cellsOf 137 = 0 := nrfl (by kernel_rfl)
@[go_sem] theorem by137 : Tryd.prog.bytesOf 137 = 0 := nrfl (by kernel_rfl)
@[go_sem] theorem z137 : zeroA Tryd.prog 137 = (.agg []) := nrfl (by kernel_rfl)
@[go_sem] theorem sp137 : structPlaces Tryd.prog 137 = some [(0, 0)] := nrfl (by kernel_rfl)
@[go_sem] theorem c138 : Tryd.prog.cellsOf 138 = 0 := nrfl (by kernel_rfl)
@[go_sem] theorem by138 : Tryd.prog.bytesOf 138 = 0 := nrfl (by kernel_rfl)
@[go_sem] theorem z138 : zeroA Tryd.prog 138 = (.agg []) := nrfl (by kernel_rfl)
@[go_sem] theorem sp138 : structPlaces Tryd.prog 138 = some [(0, 0)] := nrfl (by kernel_rfl)
@[go_sem] theorem c139 : Tryd.prog.cellsOf 139 = 1 := nrfl (by kernel_rfl)
@[go_sem] theorem by139 : Tryd.prog.bytesOf 139 = 1 := nrfl (by kernel_rfl)
@[go_sem] theorem z139 : zeroA Tryd.prog 139 = (.d (.int .u8 0)) := nrfl (by kernel_rfl)
@[go_sem] theorem c140 : Tryd.prog.cellsOf 140 = 1 := nrfl (by kernel_rfl)
@[go_sem] theorem by140 : Tryd.prog.bytesOf 140 = 1 := nrfl (by kernel_rfl)
@[go_sem] theorem z140 : zeroA Tryd.prog 140 = (.d (.int .u8 0)) := nrfl (by kernel_rfl)
@[go_sem] theorem c142 : Tryd.prog.cellsOf 142 = 1 := nrfl (by kernel_rfl)
@[go_sem] theorem by142 : Tryd.prog.bytesOf 142 = 8 := nrfl (by kernel_rfl)
@[go_sem] theorem z142 : zeroA Tryd.prog 142 = (.d .nilptr) := nrfl (by kernel_rfl)
@[go_sem] theorem c143 : Tryd.prog.cellsOf 143 = 1 := nrfl (by kernel_rfl)
@[go_sem] theorem by143 : Tryd.prog.bytesOf 143 = 4 := nrfl (by kernel_rfl)
@[go_sem] theorem z143 : zeroA Tryd.prog 143 = (.d (.int .i32 0)) := nrfl (by kernel_rfl)
@[go_sem] theorem c144 : Tryd.prog.cellsOf 144 = 1 := nrfl (by kernel_rfl)
@[go_sem] theorem by144 : Tryd.prog.bytesOf 144 = 4 := nrfl (by kernel_rfl)
@[go_sem] theorem z144 : zeroA Tryd.prog 144 = (.d (.int .i32 0)) := nrfl (by kernel_rfl)
@[go_sem] theorem c145 : Tryd.prog.cellsOf 145 = 11 := nrfl (by kernel_rfl)
@[go_sem] theorem by145 : Tryd.prog.bytesOf 145 = 48 := nrfl (by kernel_rfl)
@[go_sem] theorem z145 : zeroA Tryd.prog 145 = (.agg [(.d (.int .u64 0)), (.d (.int .u64 0)), (.d (.int .u32 0)), (.d (.int .u8 0)), (.d (.int .u8 0)), (.d (.int .u8 0)), (.d (.int .u8 0)), (.d .nilfunc), (.d .nilptr), (.d (.int .i32 0)), (.d (.int .i32 0))]) := nrfl (by kernel_rfl)
@[go_sem] theorem sp145 : structPlaces Tryd.prog 145 = some [(0, 1), (1, 1), (2, 1), (3, 1), (4, 1), (5, 1), (6, 1), (7, 1), (8, 1), (9, 1), (10, 1)] := nrfl (by kernel_rfl)
@[go_sem] theorem fo145_0 : fieldOff Tryd.prog 145 0 = some (0, 12) := by kernel_rfl
@[go_sem] theorem fo145_1 : fieldOff Tryd.prog 145 1 = some (1, 12) := by kernel_rfl
@[go_sem] theorem fo145_2 : fieldOff Tryd.prog 145 2 = some (2, 80) := by kernel_rfl
@[go_sem] theorem fo145_3 : fieldOff Tryd.prog 145 3 = some (3, 139) := by kernel_rfl
@[go_sem] theorem fo145_4 : fieldOff Tryd.prog 145 4 = some (4, 5) := by kernel_rfl
@[go_sem] theorem fo145_5 : fieldOff Tryd.prog 145 5 = some (5, 5) := by kernel_rfl
@[go_sem] theorem fo145_6 : fieldOff Tryd.prog 145 6 = some (6, 140) := by kernel_rfl
@[go_sem] theorem fo145_7 : fieldOff Tryd.prog 145 7 = some (7, 141) := by kernel_rfl
@[go_sem] theorem fo145_8 : fieldOff Tryd.prog 145 8 = some (8, 142) := by kernel_rfl
@[go_sem] theorem fo145_9 : fieldOff Tryd.prog 145 9 = some (9, 143) := by kernel_rfl
@[go_sem] theorem fo145_10 : fieldOff Tryd.prog 145 10 = some (10, 144) := by kernel_rfl
@[go_sem] theorem c146 : Tryd.prog.cellsOf 146 = 11 := nrfl (by kernel_rfl)
@[go_sem] theorem by146 : Tryd.prog.bytesOf 146 = 48 := nrfl (by kernel_rfl)
@[go_sem] theorem z146 : zeroA Tryd.prog 146 = (.agg [(.d (.int .u64 0)), (.d (.int .u64 0)), (.d (.int .u32 0)), (.d (.int .u8 0)), (.d (.int .u8 0)), (.d (.int .u8 0)), (.d (.int .u8 0)), (.d .nilfunc), (.d .nilptr), (.d (.int .i32 0)), (.d (.int .i32 0))]) := nrfl (by kernel_rfl)
@[go_sem] theorem sp146 : structPlaces Tryd.prog 146 = some [(0, 1), (1, 1), (2, 1), (3, 1), (4, 1), (5, 1), (6, 1), (7, 1), (8, 1), (9, 1), (10, 1)] := nrfl (by kernel_rfl)
@[go_sem] theorem fo146_0 : fieldOff Tryd.prog 146 0 = some (0, 12) := by kernel_rfl
@[go_sem] theorem fo146_1 : fieldOff Tryd.prog 146 1 = some (1, 12) := by kernel_rfl
@[go_sem] theorem fo146_2 : fieldOff Tryd.prog 146 2 = some (2, 80) := by kernel_rfl
@[go_sem] theorem fo146_3 : fieldOff Tryd.prog 146 3 = some (3, 139) := by kernel_rfl
@[go_sem] theorem fo146_4 : fieldOff Tryd.prog 146 4 = some (4, 5) := by kernel_rfl
@[go_sem] theorem fo146_5 : fieldOff Tryd.prog 146 5 = some (5, 5) := by kernel_rfl
@[go_sem] theorem fo146_6 : fieldOff Tryd.prog 146 6 = some (6, 140) := by kernel_rfl
@[go_sem] theorem fo146_7 : fieldOff Tryd.prog 146 7 = some (7, 141) := by kernel_rfl
@[go_sem] theorem fo146_8 : fieldOff Tryd.prog 146 8 = some (8, 142) := by kernel_rfl
@[go_sem] theorem fo146_9 : fieldOff Tryd.prog 146 9 = some (9, 143) := by kernel_rfl
@[go_sem] theorem fo146_10 : fieldOff Tryd.prog 146 10 = some (10, 144) := by kernel_rfl
@[go_sem] theorem c147 : Tryd.prog.cellsOf 147 = 1 := nrfl (by kernel_rfl)
@[go_sem] theorem by147 : Tryd.prog.bytesOf 147 = 8 := nrfl (by kernel_rfl)
@[go_sem] theorem z147 : zeroA Tryd.prog 147 = (.d .nilptr) := nrfl (by kernel_rfl)

theorem foll : Tryd.prog.follows .mixedOrders = true := by kernel_rfl
@[go_sem] theorem pf0 : plainFn Tryd.prog 0 = false := nrfl (by kernel_rfl)
@[go_sem] theorem pf1 : plainFn Tryd.prog 1 = false := nrfl (by kernel_rfl)
@[go_sem] theorem pf2 : plainFn Tryd.prog 2 = true := nrfl (by kernel_rfl)
@[go_sem] theorem pf3 : plainFn Tryd.prog 3 = true := nrfl (by kernel_rfl)
@[go_sem] theorem pf4 : plainFn Tryd.prog 4 = true := nrfl (by kernel_rfl)
@[go_sem] theorem pf5 : plainFn Tryd.prog 5 = true := nrfl (by kernel_rfl)
@[go_sem] theorem pf6 : plainFn Tryd.prog 6 = true := nrfl (by kernel_rfl)
@[go_sem] theorem pf7 : plainFn Tryd.prog 7 = true := nrfl (by kernel_rfl)
@[go_sem] theorem pf8 : plainFn Tryd.prog 8 = true := nrfl (by kernel_rfl)
@[go_sem] theorem pf9 : plainFn Tryd.prog 9 = true := nrfl (by kernel_rfl)
@[go_sem] theorem pf10 : plainFn Tryd.prog 10 = true := nrfl (by kernel_rfl)
@[go_sem] theorem pf11 : plainFn Tryd.prog 11 = true := nrfl (by kernel_rfl)
@[go_sem] theorem pf12 : plainFn Tryd.prog 12 = true := nrfl (by kernel_rfl)
@[go_sem] theorem pf13 : plainFn Tryd.prog 13 = true := nrfl (by kernel_rfl)
@[go_sem] theorem pf14 : plainFn Tryd.prog 14 = true := nrfl (by kernel_rfl)
@[go_sem] theorem pf15 : plainFn Tryd.prog 15 = true := nrfl (by kernel_rfl)
@[go_sem] theorem pf16 : plainFn Tryd.prog 16 = true := nrfl (by kernel_rfl)
@[go_sem] theorem pf17 : plainFn Tryd.prog 17 = true := nrfl (by kernel_rfl)
@[go_sem] theorem pf18 : plainFn Tryd.prog 18 = true := nrfl (by kernel_rfl)
@[go_sem] theorem pf19 : plainFn Tryd.prog 19 = true := nrfl (by kernel_rfl)
@[go_sem] theorem pf20 : plainFn Tryd.prog 20 = true := nrfl (by kernel_rfl)
@[go_sem] theorem pf21 : plainFn Tryd.prog 21 = true := nrfl (by kernel_rfl)
@[go_sem] theorem pf22 : plainFn Tryd.prog 22 = true := nrfl (by kernel_rfl)
@[go_sem] theorem pf23 : plainFn Tryd.prog 23 = true := nrfl (by kernel_rfl)
@[go_sem] theorem pf24 : plainFn Tryd.prog 24 = true := nrfl (by kernel_rfl)
@[go_sem] theorem pf25 : plainFn Tryd.prog 25 = true := nrfl (by kernel_rfl)
@[go_sem] theorem pf26 : plainFn Tryd.prog 26 = true := nrfl (by kernel_rfl)
@[go_sem] theorem pf27 : plainFn Tryd.prog 27 = true := nrfl (by kernel_rfl)
@[go_sem] theorem pf28 : plainFn Tryd.prog 28 = true := nrfl (by kernel_rfl)
@[go_sem] theorem pf29 : plainFn Tryd.prog 29 = true := nrfl (by kernel_rfl)
@[go_sem] theorem pf30 : plainFn Tryd.prog 30 = true := nrfl (by kernel_rfl)
@[go_sem] theorem pf31 : plainFn Tryd.prog 31 = true := nrfl (by kernel_rfl)
@[go_sem] theorem pf32 : plainFn Tryd.prog 32 = true := nrfl (by kernel_rfl)
@[go_sem] theorem pf33 : plainFn Tryd.prog 33 = true := nrfl (by kernel_rfl)
@[go_sem] theorem pf34 : plainFn Tryd.prog 34 = true := nrfl (by kernel_rfl)
@[go_sem] theorem pf35 : plainFn Tryd.prog 35 = true := nrfl (by kernel_rfl)
@[go_sem] theorem pf36 : plainFn Tryd.prog 36 = true := nrfl (by kernel_rfl)
@[go_sem] theorem pf37 : plainFn Tryd.prog 37 = true := nrfl (by kernel_rfl)
@[go_sem] theorem pf38 : plainFn Tryd.prog 38 = true := nrfl (by kernel_rfl)
@[go_sem] theorem pf39 : plainFn Tryd.prog 39 = true := nrfl (by kernel_rfl)
@[go_sem] theorem pf40 : plainFn Tryd.prog 40 = true := nrfl (by kernel_rfl)
@[go_sem] theorem pf41 : plainFn Tryd.prog 41 = true := nrfl (by kernel_rfl)
@[go_sem] theorem pf42 : plainFn Tryd.prog 42 = true := nrfl (by kernel_rfl)
@[go_sem] theorem pf43 : plainFn Tryd.prog 43 = true := nrfl (by kernel_rfl)
@[go_sem] theorem pf44 : plainFn Tryd.prog 44 = true := nrfl (by kernel_rfl)
@[go_sem] theorem pf45 : plainFn Tryd.prog 45 = true := nrfl (by kernel_rfl)
@[go_sem] theorem pf46 : plainFn Tryd.prog 46 = true := nrfl (by kernel_rfl)
@[go_sem] theorem pf47 : plainFn Tryd.prog 47 = true := nrfl (by kernel_rfl)
@[go_sem] theorem pf48 : plainFn Tryd.prog 48 = true := nrfl (by kernel_rfl)
@[go_sem] theorem pf49 : plainFn Tryd.prog 49 = true := nrfl (by kernel_rfl)
@[go_sem] theorem pf50 : plainFn Tryd.prog 50 = true := nrfl (by kernel_rfl)
@[go_sem] theorem pf51 : plainFn Tryd.prog 51 = true := nrfl (by kernel_rfl)
@[go_sem] theorem pf52 : plainFn Tryd.prog 52 = true := nrfl (by kernel_rfl)
@[go_sem] theorem pf53 : plainFn Tryd.prog 53 = true := nrfl (by kernel_rfl)
@[go_sem] theorem pf54 : plainFn Tryd.prog 54 = true := nrfl (by kernel_rfl)
@[go_sem] theorem pf55 : plainFn Tryd.prog 55 = true := nrfl (by kernel_rfl)
@[go_sem] theorem pf56 : plainFn Tryd.prog 56 = true := nrfl (by kernel_rfl)
@[go_sem] theorem pf57 : plainFn Tryd.prog 57 = true := nrfl (by kernel_rfl)
@[go_sem] theorem pf58 : plainFn Tryd.prog 58 = true := nrfl (by kernel_rfl)
@[go_sem] theorem pf59 : plainFn Tryd.prog 59 = true := nrfl (by kernel_rfl)
@[go_sem] theorem pf60 : plainFn Tryd.prog 60 = true := nrfl (by kernel_rfl)
@[go_sem] theorem pf61 : plainFn Tryd.prog 61 = true := nrfl (by kernel_rfl)
@[go_sem] theorem pf62 : plainFn Tryd.prog 62 = true := nrfl (by kernel_rfl)
@[go_sem] theorem pf63 : plainFn Tryd.prog 63 = true := nrfl (by kernel_rfl)
@[go_sem] theorem pf64 : plainFn Tryd.prog 64 = false := nrfl (by kernel_rfl)
@[go_sem] theorem pf65 : plainFn Tryd.prog 65 = true := nrfl (by kernel_rfl)
@[go_sem] theorem pf66 : plainFn Tryd.prog 66 = true := nrfl (by kernel_rfl)
@[go_sem] theorem pf67 : plainFn Tryd.prog 67 = true := nrfl (by kernel_rfl)
@[go_sem] theorem pf68 : plainFn Tryd.prog 68 = true := nrfl (by kernel_rfl)
@[go_sem] theorem pf69 : plainFn Tryd.prog 69 = true := nrfl (by kernel_rfl)
@[go_sem] theorem pf70 : plainFn Tryd.prog 70 = true := nrfl (by kernel_rfl)
@[go_sem] theorem pf71 : plainFn Tryd.prog 71 = false := nrfl (by kernel_rfl)
@[go_sem] theorem pf72 : plainFn Tryd.prog 72 = true := nrfl (by kernel_rfl)
@[go_sem] theorem pf73 : plainFn Tryd.prog 73 = true := nrfl (by kernel_rfl)
@[go_sem] theorem pf74 : plainFn Tryd.prog 74 = true := nrfl (by kernel_rfl)
@[go_sem] theorem pf75 : plainFn Tryd.prog 75 = true := nrfl (by kernel_rfl)
@[go_sem] theorem pf76 : plainFn Tryd.prog 76 = true := nrfl (by kernel_rfl)
@[go_sem] theorem pf77 : plainFn Tryd.prog 77 = true := nrfl (by kernel_rfl)
@[go_sem] theorem pf78 : plainFn Tryd.prog 78 = true := nrfl (by kernel_rfl)
@[go_sem] theorem pf79 : plainFn Tryd.prog 79 = true := nrfl (by kernel_rfl)
@[go_sem] theorem pf80 : plainFn Tryd.prog 80 = true := nrfl (by kernel_rfl)
@[go_sem] theorem pf81 : plainFn Tryd.prog 81 = true := nrfl (by kernel_rfl)
@[go_sem] theorem pf82 : plainFn Tryd.prog 82 = true := nrfl (by kernel_rfl)
@[go_sem] theorem pf83 : plainFn Tryd.prog 83 = true := nrfl (by kernel_rfl)
@[go_sem] theorem pf84 : plainFn Tryd.prog 84 = true := nrfl (by kernel_rfl)
@[go_sem] theorem pf85 : plainFn Tryd.prog 85 = true := nrfl (by kernel_rfl)
@[go_sem] theorem pf86 : plainFn Tryd.prog 86 = true := nrfl (by kernel_rfl)
@[go_sem] theorem pf87 : plainFn Tryd.prog 87 = true := nrfl (by kernel_rfl)
@[go_sem] theorem pf88 : plainFn Tryd.prog 88 = true := nrfl (by kernel_rfl)
@[go_sem] theorem pf89 : plainFn Tryd.prog 89 = true := nrfl (by kernel_rfl)
@[go_sem] theorem pf90 : plainFn Tryd.prog 90 = true := nrfl (by kernel_rfl)
@[go_sem] theorem pf91 : plainFn Tryd.prog 91 = true := nrfl (by kernel_rfl)
@[go_sem] theorem pf92 : plainFn Tryd.prog 92 = true := nrfl (by kernel_rfl)
@[go_sem] theorem pf93 : plainFn Tryd.prog 93 = true := nrfl (by kernel_rfl)
@[go_sem] theorem pf94 : plainFn Tryd.prog 94 = true := nrfl (by kernel_rfl)
@[go_sem] theorem pf95 : plainFn Tryd.prog 95 = true := nrfl (by kernel_rfl)
@[go_sem] theorem pf96 : plainFn Tryd.prog 96 = true := nrfl (by kernel_rfl)
@[go_sem] theorem pf97 : plainFn Tryd.prog 97 = false := nrfl (by kernel_rfl)
@[go_sem] theorem pf98 : plainFn Tryd.prog 98 = false := nrfl (by kernel_rfl)
@[go_sem] theorem pf99 : plainFn Tryd.prog 99 = false := nrfl (by kernel_rfl)
@[go_sem] theorem pf100 : plainFn Tryd.prog 100 = false := nrfl (by kernel_rfl)
@[go_sem] theorem pf101 : plainFn Tryd.prog 101 = false := nrfl (by kernel_rfl)
@[go_sem] theorem pf102 : plainFn Tryd.prog 102 = false := nrfl (by kernel_rfl)
@[go_sem] theorem pf103 : plainFn Tryd.prog 103 = false := nrfl (by kernel_rfl)
@[go_sem] theorem pf104 : plainFn Tryd.prog 104 = false := nrfl (by kernel_rfl)
@[go_sem] theorem pf105 : plainFn Tryd.prog 105 = false := nrfl (by kernel_rfl)
@[go_sem] theorem pf106 : plainFn Tryd.prog 106 = false := nrfl (by kernel_rfl)
@[go_sem] theorem pf107 : plainFn Tryd.prog 107 = false := nrfl (by kernel_rfl)
@[go_sem] theorem pf108 : plainFn Tryd.prog 108 = false := nrfl (by kernel_rfl)
@[go_sem] theorem pf109 : plainFn Tryd.prog 109 = false := nrfl (by kernel_rfl)
@[go_sem] theorem pf110 : plainFn Tryd.prog 110 = false := nrfl (by kernel_rfl)
@[go_sem] theorem pf111 : plainFn Tryd.prog 111 = false := nrfl (by kernel_rfl)
@[go_sem] theorem pf112 : plainFn Tryd.prog 112 = false := nrfl (by kernel_rfl)
@[go_sem] theorem pf113 : plainFn Tryd.prog 113 = false := nrfl (by kernel_rfl)
@[go_sem] theorem pf114 : plainFn Tryd.prog 114 = false := nrfl (by kernel_rfl)
@[go_sem] theorem pf115 : plainFn Tryd.prog 115 = false := nrfl (by kernel_rfl)
@[go_sem] theorem pf116 : plainFn Tryd.prog 116 = false := nrfl (by kernel_rfl)
@[go_sem] theorem pf117 : plainFn Tryd.prog 117 = true := nrfl (by kernel_rfl)

/-- narrator.pattern.Check -/
theorem fn25 : FnIs Tryd.prog 25 1 [Go.ResultVar.tmp 2] (.seq (.region [⟨some 1, Go.Op.box 46 (Go.Operand.tmp 0), 0, none⟩,
      ⟨some 2, Go.Op.assign (Go.Operand.const (Go.Value.int Go.IntKind.i64 0)), 26, none⟩])
    (.seq (.seq (.region [⟨some 3, Go.Op.load 46 (Go.Operand.tmp 1), 46, none⟩,
      ⟨some 4, Go.Op.call { callee := Go.Callee.value (Go.Operand.func 44), args := #[Go.Operand.tmp 3, Go.Operand.const (Go.Value.int Go.IntKind.i64 120)], argTypes := #[46, 3] }, 3, none⟩,
      ⟨some 5, Go.Op.binOp Go.BinOp.gtr 3 (Go.Operand.tmp 4) (Go.Operand.const (Go.Value.int Go.IntKind.i64 120)) 3, 4, none⟩])
    (.cond (Go.Operand.tmp 5)
      (.seq (.region [⟨some 2, Go.Op.assign (Go.Operand.const (Go.Value.int Go.IntKind.i64 5)), 26, none⟩])
      .ret)
      .skip))
    (.seq (.region [⟨some 6, Go.Op.load 46 (Go.Operand.tmp 1), 46, none⟩,
      ⟨some 7, Go.Op.call { callee := Go.Callee.value (Go.Operand.func 45), args := #[Go.Operand.tmp 6], argTypes := #[46] }, 26, none⟩,
      ⟨some 2, Go.Op.assign (Go.Operand.tmp 7), 26, none⟩])
    .ret))) :=
  ⟨foll, Tryd.f25, Tryd.func25, by kernel_rfl, by kernel_rfl, by kernel_rfl, by rw [Tryd.ntmps25]; decide⟩

/-- narrator.pattern.count -/
theorem fn44 : FnIs Tryd.prog 44 2 [Go.ResultVar.tmp 4] (.seq (.region [⟨some 2, Go.Op.box 46 (Go.Operand.tmp 0), 0, none⟩,
      ⟨some 4, Go.Op.assign (Go.Operand.const (Go.Value.int Go.IntKind.i64 0)), 3, none⟩])
    (.seq (.region [⟨some 5, Go.Op.assign (Go.Operand.const (Go.Value.int Go.IntKind.i64 1)), 3, none⟩])
    (.seq (.seq (.region [⟨some 8, Go.Op.fieldAddr 46 (Go.Operand.tmp 2) 2, 0, none⟩,
      ⟨some 9, Go.Op.load 44 (Go.Operand.tmp 8), 44, none⟩,
      ⟨some 10, Go.Op.call { callee := Go.Callee.builtin Go.Builtin.len, args := #[Go.Operand.tmp 9], argTypes := #[44] }, 3, none⟩,
      ⟨some 11, Go.Op.move (Go.Operand.const (Go.Value.int Go.IntKind.i64 0)), 3, none⟩])
    (.block 0
      (.loop
        (.seq (.region [⟨some 12, Go.Op.binOp Go.BinOp.lss 3 (Go.Operand.tmp 11) (Go.Operand.tmp 10) 3, 0, none⟩])
        (.seq (.cond (Go.Operand.tmp 12)
          .skip
          (.exit 0))
        (.seq (.block 1
          (.seq (.region [⟨some 13, Go.Op.indexAddr 44 (Go.Operand.tmp 9) (Go.Operand.tmp 11), 0, none⟩,
            ⟨some 14, Go.Op.load 46 (Go.Operand.tmp 13), 46, none⟩,
            ⟨some 7, Go.Op.alloc 46, 0, none⟩,
            ⟨none, Go.Op.store 46 (Go.Operand.tmp 7) (Go.Operand.tmp 14), 0, none⟩])
          (.seq (.seq (.region [⟨some 15, Go.Op.move (Go.Operand.tmp 5), 3, none⟩,
            ⟨some 16, Go.Op.move (Go.Operand.tmp 1), 3, none⟩,
            ⟨some 17, Go.Op.binOp Go.BinOp.gtr 3 (Go.Operand.tmp 15) (Go.Operand.tmp 16) 3, 4, none⟩])
          (.cond (Go.Operand.tmp 17)
            (.exit 0)
            .skip))
          (.region [⟨some 18, Go.Op.move (Go.Operand.tmp 5), 3, none⟩,
            ⟨some 19, Go.Op.load 46 (Go.Operand.tmp 7), 46, none⟩,
            ⟨some 20, Go.Op.move (Go.Operand.tmp 1), 3, none⟩,
            ⟨some 21, Go.Op.move (Go.Operand.tmp 5), 3, none⟩,
            ⟨some 22, Go.Op.binOp Go.BinOp.sub 3 (Go.Operand.tmp 20) (Go.Operand.tmp 21) 3, 3, none⟩,
            ⟨some 23, Go.Op.call { callee := Go.Callee.value (Go.Operand.func 44), args := #[Go.Operand.tmp 19, Go.Operand.tmp 22], argTypes := #[46, 3] }, 3, none⟩,
            ⟨some 24, Go.Op.binOp Go.BinOp.add 3 (Go.Operand.tmp 18) (Go.Operand.tmp 23) 3, 3, none⟩,
            ⟨some 5, Go.Op.assign (Go.Operand.tmp 24), 3, none⟩]))))
        (.region [⟨some 25, Go.Op.binOp Go.BinOp.add 3 (Go.Operand.tmp 11) (Go.Operand.const (Go.Value.int Go.IntKind.i64 1)) 3, 3, none⟩,
          ⟨some 11, Go.Op.move (Go.Operand.tmp 25), 3, none⟩])))))))
    (.seq (.region [⟨some 26, Go.Op.move (Go.Operand.tmp 5), 3, none⟩,
      ⟨some 4, Go.Op.assign (Go.Operand.tmp 26), 3, none⟩])
    .ret)))) :=
  ⟨foll, Tryd.f44, Tryd.func44, by kernel_rfl, by kernel_rfl, by kernel_rfl, by rw [Tryd.ntmps44]; decide⟩

/-- narrator.pattern.check -/
theorem fn45 : FnIs Tryd.prog 45 1 [Go.ResultVar.tmp 2] (.seq (.region [⟨some 1, Go.Op.box 46 (Go.Operand.tmp 0), 0, none⟩,
      ⟨some 2, Go.Op.assign (Go.Operand.const (Go.Value.int Go.IntKind.i64 0)), 26, none⟩])
    (.seq (.region [⟨some 3, Go.Op.assign (Go.Operand.const (Go.Value.bool false)), 4, none⟩])
    (.seq (.seq (.region [⟨some 7, Go.Op.fieldAddr 46 (Go.Operand.tmp 1) 0, 0, none⟩,
      ⟨some 8, Go.Op.load 3 (Go.Operand.tmp 7), 3, none⟩])
    (.block 0
      (.seq (.region [⟨some 10, Go.Op.binOp Go.BinOp.eql 3 (Go.Operand.tmp 8) (Go.Operand.const (Go.Value.int Go.IntKind.i64 1)) 3, 4, none⟩,
        ⟨some 9, Go.Op.assign (Go.Operand.tmp 10), 4, none⟩])
      (.cond (Go.Operand.tmp 9)
        (.region [⟨some 11, Go.Op.fieldAddr 46 (Go.Operand.tmp 1) 2, 0, none⟩,
          ⟨some 12, Go.Op.load 44 (Go.Operand.tmp 11), 44, none⟩,
          ⟨some 13, Go.Op.call { callee := Go.Callee.builtin Go.Builtin.len, args := #[Go.Operand.tmp 12], argTypes := #[44] }, 3, none⟩,
          ⟨some 14, Go.Op.binOp Go.BinOp.eql 3 (Go.Operand.tmp 13) (Go.Operand.const (Go.Value.int Go.IntKind.i64 0)) 3, 4, none⟩,
          ⟨some 3, Go.Op.assign (Go.Operand.tmp 14), 4, none⟩])
        (.seq (.region [⟨some 16, Go.Op.binOp Go.BinOp.eql 3 (Go.Operand.tmp 8) (Go.Operand.const (Go.Value.int Go.IntKind.i64 2)) 3, 4, none⟩,
          ⟨some 15, Go.Op.assign (Go.Operand.tmp 16), 4, none⟩])
        (.cond (Go.Operand.tmp 15)
          (.region [⟨some 17, Go.Op.fieldAddr 46 (Go.Operand.tmp 1) 2, 0, none⟩,
            ⟨some 18, Go.Op.load 44 (Go.Operand.tmp 17), 44, none⟩,
            ⟨some 19, Go.Op.call { callee := Go.Callee.builtin Go.Builtin.len, args := #[Go.Operand.tmp 18], argTypes := #[44] }, 3, none⟩,
            ⟨some 20, Go.Op.binOp Go.BinOp.eql 3 (Go.Operand.tmp 19) (Go.Operand.const (Go.Value.int Go.IntKind.i64 0)) 3, 4, none⟩,
            ⟨some 21, Go.Op.move (Go.Operand.tmp 20), 4, none⟩,
            ⟨some 22, Go.Op.fieldAddr 46 (Go.Operand.tmp 1) 1, 0, (some (21, true))⟩,
            ⟨some 23, Go.Op.load 43 (Go.Operand.tmp 22), 43, (some (21, true))⟩,
            ⟨some 24, Go.Op.call { callee := Go.Callee.value (Go.Operand.func 60), args := #[Go.Operand.tmp 23], argTypes := #[43] }, 4, (some (21, true))⟩,
            ⟨some 25, Go.Op.pick (Go.Operand.tmp 21) (Go.Operand.tmp 24) (Go.Operand.const (Go.Value.bool false)), 4, none⟩,
            ⟨some 3, Go.Op.assign (Go.Operand.tmp 25), 4, none⟩])
          (.seq (.seq (.region [⟨some 27, Go.Op.binOp Go.BinOp.eql 3 (Go.Operand.tmp 8) (Go.Operand.const (Go.Value.int Go.IntKind.i64 3)) 3, 4, none⟩,
            ⟨some 26, Go.Op.assign (Go.Operand.tmp 27), 4, none⟩])
          (.cond (Go.Operand.tmp 26)
            .skip
            (.region [⟨some 28, Go.Op.binOp Go.BinOp.eql 3 (Go.Operand.tmp 8) (Go.Operand.const (Go.Value.int Go.IntKind.i64 4)) 3, 4, none⟩,
              ⟨some 26, Go.Op.assign (Go.Operand.tmp 28), 4, none⟩])))
          (.cond (Go.Operand.tmp 26)
            (.region [⟨some 29, Go.Op.fieldAddr 46 (Go.Operand.tmp 1) 2, 0, none⟩,
              ⟨some 30, Go.Op.load 44 (Go.Operand.tmp 29), 44, none⟩,
              ⟨some 31, Go.Op.call { callee := Go.Callee.builtin Go.Builtin.len, args := #[Go.Operand.tmp 30], argTypes := #[44] }, 3, none⟩,
              ⟨some 32, Go.Op.binOp Go.BinOp.geq 3 (Go.Operand.tmp 31) (Go.Operand.const (Go.Value.int Go.IntKind.i64 2)) 3, 4, none⟩,
              ⟨some 3, Go.Op.assign (Go.Operand.tmp 32), 4, none⟩])
            (.seq (.region [⟨some 34, Go.Op.binOp Go.BinOp.eql 3 (Go.Operand.tmp 8) (Go.Operand.const (Go.Value.int Go.IntKind.i64 5)) 3, 4, none⟩,
              ⟨some 33, Go.Op.assign (Go.Operand.tmp 34), 4, none⟩])
            (.cond (Go.Operand.tmp 33)
              (.region [⟨some 35, Go.Op.fieldAddr 46 (Go.Operand.tmp 1) 2, 0, none⟩,
                ⟨some 36, Go.Op.load 44 (Go.Operand.tmp 35), 44, none⟩,
                ⟨some 37, Go.Op.call { callee := Go.Callee.builtin Go.Builtin.len, args := #[Go.Operand.tmp 36], argTypes := #[44] }, 3, none⟩,
                ⟨some 38, Go.Op.binOp Go.BinOp.eql 3 (Go.Operand.tmp 37) (Go.Operand.const (Go.Value.int Go.IntKind.i64 1)) 3, 4, none⟩,
                ⟨some 39, Go.Op.move (Go.Operand.tmp 38), 4, none⟩,
                ⟨some 40, Go.Op.fieldAddr 46 (Go.Operand.tmp 1) 3, 0, (some (39, true))⟩,
                ⟨some 41, Go.Op.load 3 (Go.Operand.tmp 40), 3, (some (39, true))⟩,
                ⟨some 42, Go.Op.binOp Go.BinOp.geq 3 (Go.Operand.tmp 41) (Go.Operand.const (Go.Value.int Go.IntKind.i64 0)) 3, 4, (some (39, true))⟩,
                ⟨some 43, Go.Op.pick (Go.Operand.tmp 39) (Go.Operand.tmp 42) (Go.Operand.const (Go.Value.bool false)), 4, none⟩,
                ⟨some 44, Go.Op.move (Go.Operand.tmp 43), 4, none⟩,
                ⟨some 45, Go.Op.fieldAddr 46 (Go.Operand.tmp 1) 3, 0, (some (44, true))⟩,
                ⟨some 46, Go.Op.load 3 (Go.Operand.tmp 45), 3, (some (44, true))⟩,
                ⟨some 47, Go.Op.binOp Go.BinOp.leq 3 (Go.Operand.tmp 46) (Go.Operand.const (Go.Value.int Go.IntKind.i64 20)) 3, 4, (some (44, true))⟩,
                ⟨some 48, Go.Op.pick (Go.Operand.tmp 44) (Go.Operand.tmp 47) (Go.Operand.const (Go.Value.bool false)), 4, none⟩,
                ⟨some 49, Go.Op.move (Go.Operand.tmp 48), 4, none⟩,
                ⟨some 50, Go.Op.fieldAddr 46 (Go.Operand.tmp 1) 4, 0, (some (49, true))⟩,
                ⟨some 51, Go.Op.load 3 (Go.Operand.tmp 50), 3, (some (49, true))⟩,
                ⟨some 52, Go.Op.binOp Go.BinOp.eql 3 (Go.Operand.tmp 51) (Go.Operand.const (Go.Value.int Go.IntKind.i64 (-1))) 3, 4, (some (49, true))⟩,
                ⟨some 53, Go.Op.move (Go.Operand.tmp 52), 4, (some (49, true))⟩,
                ⟨some 54, Go.Op.fieldAddr 46 (Go.Operand.tmp 1) 4, 0, (some (53, false))⟩,
                ⟨some 55, Go.Op.load 3 (Go.Operand.tmp 54), 3, (some (53, false))⟩,
                ⟨some 56, Go.Op.fieldAddr 46 (Go.Operand.tmp 1) 3, 0, (some (53, false))⟩,
                ⟨some 57, Go.Op.load 3 (Go.Operand.tmp 56), 3, (some (53, false))⟩,
                ⟨some 58, Go.Op.binOp Go.BinOp.geq 3 (Go.Operand.tmp 55) (Go.Operand.tmp 57) 3, 4, (some (53, false))⟩,
                ⟨some 59, Go.Op.move (Go.Operand.tmp 58), 4, (some (53, false))⟩,
                ⟨some 60, Go.Op.fieldAddr 46 (Go.Operand.tmp 1) 4, 0, (some (59, true))⟩,
                ⟨some 61, Go.Op.load 3 (Go.Operand.tmp 60), 3, (some (59, true))⟩,
                ⟨some 62, Go.Op.binOp Go.BinOp.leq 3 (Go.Operand.tmp 61) (Go.Operand.const (Go.Value.int Go.IntKind.i64 20)) 3, 4, (some (59, true))⟩,
                ⟨some 63, Go.Op.pick (Go.Operand.tmp 59) (Go.Operand.tmp 62) (Go.Operand.const (Go.Value.bool false)), 4, (some (53, false))⟩,
                ⟨some 64, Go.Op.pick (Go.Operand.tmp 53) (Go.Operand.const (Go.Value.bool true)) (Go.Operand.tmp 63), 4, (some (49, true))⟩,
                ⟨some 65, Go.Op.pick (Go.Operand.tmp 49) (Go.Operand.tmp 64) (Go.Operand.const (Go.Value.bool false)), 4, none⟩,
                ⟨some 3, Go.Op.assign (Go.Operand.tmp 65), 4, none⟩])
              (.seq (.region [⟨some 2, Go.Op.assign (Go.Operand.const (Go.Value.int Go.IntKind.i64 9)), 26, none⟩])
              .ret)))))))))))
    (.seq (.seq (.region [⟨some 66, Go.Op.move (Go.Operand.tmp 3), 4, none⟩,
      ⟨some 67, Go.Op.unOp Go.UnOp.not 4 (Go.Operand.tmp 66), 4, none⟩,
      ⟨some 68, Go.Op.move (Go.Operand.tmp 67), 4, none⟩,
      ⟨some 69, Go.Op.fieldAddr 46 (Go.Operand.tmp 1) 0, 0, (some (68, false))⟩,
      ⟨some 70, Go.Op.load 3 (Go.Operand.tmp 69), 3, (some (68, false))⟩,
      ⟨some 71, Go.Op.binOp Go.BinOp.neq 3 (Go.Operand.tmp 70) (Go.Operand.const (Go.Value.int Go.IntKind.i64 2)) 3, 4, (some (68, false))⟩,
      ⟨some 72, Go.Op.move (Go.Operand.tmp 71), 4, (some (68, false))⟩,
      ⟨some 73, Go.Op.fieldAddr 46 (Go.Operand.tmp 1) 1, 0, (some (72, true))⟩,
      ⟨some 74, Go.Op.load 43 (Go.Operand.tmp 73), 43, (some (72, true))⟩,
      ⟨some 75, Go.Op.call { callee := Go.Callee.builtin Go.Builtin.len, args := #[Go.Operand.tmp 74], argTypes := #[43] }, 3, (some (72, true))⟩,
      ⟨some 76, Go.Op.binOp Go.BinOp.gtr 3 (Go.Operand.tmp 75) (Go.Operand.const (Go.Value.int Go.IntKind.i64 0)) 3, 4, (some (72, true))⟩,
      ⟨some 77, Go.Op.pick (Go.Operand.tmp 72) (Go.Operand.tmp 76) (Go.Operand.const (Go.Value.bool false)), 4, (some (68, false))⟩,
      ⟨some 78, Go.Op.pick (Go.Operand.tmp 68) (Go.Operand.const (Go.Value.bool true)) (Go.Operand.tmp 77), 4, none⟩,
      ⟨some 79, Go.Op.move (Go.Operand.tmp 78), 4, none⟩,
      ⟨some 80, Go.Op.fieldAddr 46 (Go.Operand.tmp 1) 0, 0, (some (79, false))⟩,
      ⟨some 81, Go.Op.load 3 (Go.Operand.tmp 80), 3, (some (79, false))⟩,
      ⟨some 82, Go.Op.binOp Go.BinOp.neq 3 (Go.Operand.tmp 81) (Go.Operand.const (Go.Value.int Go.IntKind.i64 5)) 3, 4, (some (79, false))⟩,
      ⟨some 83, Go.Op.move (Go.Operand.tmp 82), 4, (some (79, false))⟩,
      ⟨some 84, Go.Op.fieldAddr 46 (Go.Operand.tmp 1) 3, 0, (some (83, true))⟩,
      ⟨some 85, Go.Op.load 3 (Go.Operand.tmp 84), 3, (some (83, true))⟩,
      ⟨some 86, Go.Op.binOp Go.BinOp.neq 3 (Go.Operand.tmp 85) (Go.Operand.const (Go.Value.int Go.IntKind.i64 0)) 3, 4, (some (83, true))⟩,
      ⟨some 87, Go.Op.move (Go.Operand.tmp 86), 4, (some (83, true))⟩,
      ⟨some 88, Go.Op.fieldAddr 46 (Go.Operand.tmp 1) 4, 0, (some (87, false))⟩,
      ⟨some 89, Go.Op.load 3 (Go.Operand.tmp 88), 3, (some (87, false))⟩,
      ⟨some 90, Go.Op.binOp Go.BinOp.neq 3 (Go.Operand.tmp 89) (Go.Operand.const (Go.Value.int Go.IntKind.i64 0)) 3, 4, (some (87, false))⟩,
      ⟨some 91, Go.Op.pick (Go.Operand.tmp 87) (Go.Operand.const (Go.Value.bool true)) (Go.Operand.tmp 90), 4, (some (83, true))⟩,
      ⟨some 92, Go.Op.pick (Go.Operand.tmp 83) (Go.Operand.tmp 91) (Go.Operand.const (Go.Value.bool false)), 4, (some (79, false))⟩,
      ⟨some 93, Go.Op.pick (Go.Operand.tmp 79) (Go.Operand.const (Go.Value.bool true)) (Go.Operand.tmp 92), 4, none⟩])
    (.cond (Go.Operand.tmp 93)
      (.seq (.region [⟨some 2, Go.Op.assign (Go.Operand.const (Go.Value.int Go.IntKind.i64 1)), 26, none⟩])
      .ret)
      .skip))
    (.seq (.seq (.region [⟨some 94, Go.Op.fieldAddr 46 (Go.Operand.tmp 1) 2, 0, none⟩,
      ⟨some 95, Go.Op.load 44 (Go.Operand.tmp 94), 44, none⟩,
      ⟨some 96, Go.Op.call { callee := Go.Callee.builtin Go.Builtin.len, args := #[Go.Operand.tmp 95], argTypes := #[44] }, 3, none⟩,
      ⟨some 97, Go.Op.move (Go.Operand.const (Go.Value.int Go.IntKind.i64 0)), 3, none⟩])
    (.block 1
      (.loop
        (.seq (.region [⟨some 98, Go.Op.binOp Go.BinOp.lss 3 (Go.Operand.tmp 97) (Go.Operand.tmp 96) 3, 0, none⟩])
        (.seq (.cond (Go.Operand.tmp 98)
          .skip
          (.exit 1))
        (.seq (.block 2
          (.seq (.region [⟨some 99, Go.Op.indexAddr 44 (Go.Operand.tmp 95) (Go.Operand.tmp 97), 0, none⟩,
            ⟨some 100, Go.Op.load 46 (Go.Operand.tmp 99), 46, none⟩,
            ⟨some 5, Go.Op.alloc 46, 0, none⟩,
            ⟨none, Go.Op.store 46 (Go.Operand.tmp 5) (Go.Operand.tmp 100), 0, none⟩])
          (.seq (.region [⟨some 101, Go.Op.load 46 (Go.Operand.tmp 5), 46, none⟩,
            ⟨some 102, Go.Op.call { callee := Go.Callee.value (Go.Operand.func 45), args := #[Go.Operand.tmp 101], argTypes := #[46] }, 26, none⟩,
            ⟨some 6, Go.Op.assign (Go.Operand.tmp 102), 26, none⟩])
          (.seq (.region [⟨some 103, Go.Op.move (Go.Operand.tmp 6), 26, none⟩,
            ⟨some 104, Go.Op.binOp Go.BinOp.neq 26 (Go.Operand.tmp 103) (Go.Operand.const (Go.Value.int Go.IntKind.i64 0)) 26, 4, none⟩])
          (.cond (Go.Operand.tmp 104)
            (.seq (.region [⟨some 105, Go.Op.move (Go.Operand.tmp 6), 26, none⟩,
              ⟨some 2, Go.Op.assign (Go.Operand.tmp 105), 26, none⟩])
            .ret)
            .skip)))))
        (.region [⟨some 106, Go.Op.binOp Go.BinOp.add 3 (Go.Operand.tmp 97) (Go.Operand.const (Go.Value.int Go.IntKind.i64 1)) 3, 3, none⟩,
          ⟨some 97, Go.Op.move (Go.Operand.tmp 106), 3, none⟩])))))))
    (.seq (.region [⟨some 2, Go.Op.assign (Go.Operand.const (Go.Value.int Go.IntKind.i64 0)), 26, none⟩])
    .ret)))))) :=
  ⟨foll, Tryd.f45, Tryd.func45, by kernel_rfl, by kernel_rfl, by kernel_rfl, by rw [Tryd.ntmps45]; decide⟩

/-- narrator.pattern.proper -/
theorem fn60 : FnIs Tryd.prog 60 1 [Go.ResultVar.tmp 2] (.seq (.region [⟨some 2, Go.Op.assign (Go.Operand.const (Go.Value.bool false)), 4, none⟩])
    (.seq (.seq (.region [⟨some 5, Go.Op.move (Go.Operand.tmp 0), 43, none⟩,
      ⟨some 6, Go.Op.call { callee := Go.Callee.builtin Go.Builtin.len, args := #[Go.Operand.tmp 5], argTypes := #[43] }, 3, none⟩,
      ⟨some 7, Go.Op.move (Go.Operand.const (Go.Value.int Go.IntKind.i64 0)), 3, none⟩])
    (.block 0
      (.loop
        (.seq (.region [⟨some 8, Go.Op.binOp Go.BinOp.lss 3 (Go.Operand.tmp 7) (Go.Operand.tmp 6) 3, 0, none⟩])
        (.seq (.cond (Go.Operand.tmp 8)
          .skip
          (.exit 0))
        (.seq (.block 1
          (.seq (.region [⟨some 9, Go.Op.move (Go.Operand.tmp 7), 3, none⟩,
            ⟨some 10, Go.Op.indexAddr 43 (Go.Operand.tmp 5) (Go.Operand.tmp 7), 0, none⟩,
            ⟨some 11, Go.Op.load 91 (Go.Operand.tmp 10), 91, none⟩,
            ⟨some 4, Go.Op.alloc 91, 0, none⟩,
            ⟨some 3, Go.Op.assign (Go.Operand.tmp 9), 3, none⟩,
            ⟨none, Go.Op.store 91 (Go.Operand.tmp 4) (Go.Operand.tmp 11), 0, none⟩])
          (.seq (.seq (.region [⟨some 12, Go.Op.fieldAddr 91 (Go.Operand.tmp 4) 0, 0, none⟩,
            ⟨some 13, Go.Op.load 21 (Go.Operand.tmp 12), 21, none⟩,
            ⟨some 14, Go.Op.call { callee := Go.Callee.value (Go.Operand.func 70), args := #[Go.Operand.tmp 13], argTypes := #[21] }, 4, none⟩,
            ⟨some 15, Go.Op.unOp Go.UnOp.not 4 (Go.Operand.tmp 14), 4, none⟩,
            ⟨some 16, Go.Op.move (Go.Operand.tmp 15), 4, none⟩,
            ⟨some 17, Go.Op.fieldAddr 91 (Go.Operand.tmp 4) 1, 0, (some (16, false))⟩,
            ⟨some 18, Go.Op.load 21 (Go.Operand.tmp 17), 21, (some (16, false))⟩,
            ⟨some 19, Go.Op.call { callee := Go.Callee.value (Go.Operand.func 70), args := #[Go.Operand.tmp 18], argTypes := #[21] }, 4, (some (16, false))⟩,
            ⟨some 20, Go.Op.unOp Go.UnOp.not 4 (Go.Operand.tmp 19), 4, (some (16, false))⟩,
            ⟨some 21, Go.Op.pick (Go.Operand.tmp 16) (Go.Operand.const (Go.Value.bool true)) (Go.Operand.tmp 20), 4, none⟩,
            ⟨some 22, Go.Op.move (Go.Operand.tmp 21), 4, none⟩,
            ⟨some 23, Go.Op.fieldAddr 91 (Go.Operand.tmp 4) 0, 0, (some (22, false))⟩,
            ⟨some 24, Go.Op.load 21 (Go.Operand.tmp 23), 21, (some (22, false))⟩,
            ⟨some 25, Go.Op.fieldAddr 91 (Go.Operand.tmp 4) 1, 0, (some (22, false))⟩,
            ⟨some 26, Go.Op.load 21 (Go.Operand.tmp 25), 21, (some (22, false))⟩,
            ⟨some 27, Go.Op.binOp Go.BinOp.gtr 21 (Go.Operand.tmp 24) (Go.Operand.tmp 26) 21, 4, (some (22, false))⟩,
            ⟨some 28, Go.Op.pick (Go.Operand.tmp 22) (Go.Operand.const (Go.Value.bool true)) (Go.Operand.tmp 27), 4, none⟩,
            ⟨some 29, Go.Op.move (Go.Operand.tmp 28), 4, none⟩,
            ⟨some 30, Go.Op.fieldAddr 91 (Go.Operand.tmp 4) 0, 0, (some (29, false))⟩,
            ⟨some 31, Go.Op.load 21 (Go.Operand.tmp 30), 21, (some (29, false))⟩,
            ⟨some 32, Go.Op.binOp Go.BinOp.lss 21 (Go.Operand.tmp 31) (Go.Operand.const (Go.Value.int Go.IntKind.i32 55296)) 21, 4, (some (29, false))⟩,
            ⟨some 33, Go.Op.fieldAddr 91 (Go.Operand.tmp 4) 1, 0, (some (29, false))⟩,
            ⟨some 34, Go.Op.load 21 (Go.Operand.tmp 33), 21, (some (29, false))⟩,
            ⟨some 35, Go.Op.binOp Go.BinOp.lss 21 (Go.Operand.tmp 34) (Go.Operand.const (Go.Value.int Go.IntKind.i32 55296)) 21, 4, (some (29, false))⟩,
            ⟨some 36, Go.Op.binOp Go.BinOp.neq 4 (Go.Operand.tmp 32) (Go.Operand.tmp 35) 4, 4, (some (29, false))⟩,
            ⟨some 37, Go.Op.pick (Go.Operand.tmp 29) (Go.Operand.const (Go.Value.bool true)) (Go.Operand.tmp 36), 4, none⟩])
          (.cond (Go.Operand.tmp 37)
            (.seq (.region [⟨some 2, Go.Op.assign (Go.Operand.const (Go.Value.bool false)), 4, none⟩])
            .ret)
            .skip))
          (.seq (.draw [⟨⟨some 38, Go.Op.move (Go.Operand.tmp 3), 3, none⟩, false, false, false⟩,
            ⟨⟨some 39, Go.Op.binOp Go.BinOp.gtr 3 (Go.Operand.tmp 38) (Go.Operand.const (Go.Value.int Go.IntKind.i64 0)) 3, 4, none⟩, false, false, false⟩,
            ⟨⟨some 40, Go.Op.move (Go.Operand.tmp 39), 4, none⟩, false, false, false⟩,
            ⟨⟨some 41, Go.Op.fieldAddr 91 (Go.Operand.tmp 4) 0, 0, (some (40, true))⟩, false, false, false⟩,
            ⟨⟨some 42, Go.Op.load 21 (Go.Operand.tmp 41), 21, (some (40, true))⟩, false, false, false⟩,
            ⟨⟨some 43, Go.Op.move (Go.Operand.tmp 0), 43, (some (40, true))⟩, false, false, false⟩,
            ⟨⟨some 44, Go.Op.move (Go.Operand.tmp 3), 3, (some (40, true))⟩, false, false, false⟩,
            ⟨⟨some 45, Go.Op.binOp Go.BinOp.sub 3 (Go.Operand.tmp 44) (Go.Operand.const (Go.Value.int Go.IntKind.i64 1)) 3, 3, (some (40, true))⟩, false, false, false⟩,
            ⟨⟨some 46, Go.Op.indexAddr 43 (Go.Operand.tmp 43) (Go.Operand.tmp 45), 0, (some (40, true))⟩, false, false, false⟩,
            ⟨⟨some 47, Go.Op.fieldAddr 91 (Go.Operand.tmp 46) 1, 0, (some (40, true))⟩, false, false, false⟩,
            ⟨⟨some 48, Go.Op.load 21 (Go.Operand.tmp 47), 21, (some (40, true))⟩, false, false, false⟩,
            ⟨⟨some 49, Go.Op.binOp Go.BinOp.sub 21 (Go.Operand.tmp 42) (Go.Operand.tmp 48) 21, 21, (some (40, true))⟩, false, false, false⟩,
            ⟨⟨some 50, Go.Op.binOp Go.BinOp.lss 21 (Go.Operand.tmp 49) (Go.Operand.const (Go.Value.int Go.IntKind.i32 2)) 21, 4, (some (40, true))⟩, false, false, false⟩,
            ⟨⟨some 51, Go.Op.pick (Go.Operand.tmp 40) (Go.Operand.tmp 50) (Go.Operand.const (Go.Value.bool false)), 4, none⟩, false, false, false⟩])
          (.cond (Go.Operand.tmp 51)
            (.seq (.region [⟨some 2, Go.Op.assign (Go.Operand.const (Go.Value.bool false)), 4, none⟩])
            .ret)
            .skip)))))
        (.region [⟨some 52, Go.Op.binOp Go.BinOp.add 3 (Go.Operand.tmp 7) (Go.Operand.const (Go.Value.int Go.IntKind.i64 1)) 3, 3, none⟩,
          ⟨some 7, Go.Op.move (Go.Operand.tmp 52), 3, none⟩])))))))
    (.seq (.region [⟨some 2, Go.Op.assign (Go.Operand.const (Go.Value.bool true)), 4, none⟩])
    .ret))) :=
  ⟨foll, Tryd.f60, Tryd.func60, by kernel_rfl, by kernel_rfl, by kernel_rfl, by rw [Tryd.ntmps60]; decide⟩

/-- narrator.pattern.character -/
theorem fn70 : FnIs Tryd.prog 70 1 [Go.ResultVar.tmp 2] (.seq (.region [⟨some 2, Go.Op.assign (Go.Operand.const (Go.Value.bool false)), 4, none⟩])
    (.seq (.region [⟨some 3, Go.Op.move (Go.Operand.tmp 0), 21, none⟩,
      ⟨some 4, Go.Op.binOp Go.BinOp.geq 21 (Go.Operand.tmp 3) (Go.Operand.const (Go.Value.int Go.IntKind.i32 0)) 21, 4, none⟩,
      ⟨some 5, Go.Op.move (Go.Operand.tmp 4), 4, none⟩,
      ⟨some 6, Go.Op.move (Go.Operand.tmp 0), 21, (some (5, true))⟩,
      ⟨some 7, Go.Op.binOp Go.BinOp.leq 21 (Go.Operand.tmp 6) (Go.Operand.const (Go.Value.int Go.IntKind.i32 55295)) 21, 4, (some (5, true))⟩,
      ⟨some 8, Go.Op.pick (Go.Operand.tmp 5) (Go.Operand.tmp 7) (Go.Operand.const (Go.Value.bool false)), 4, none⟩,
      ⟨some 9, Go.Op.move (Go.Operand.tmp 8), 4, none⟩,
      ⟨some 10, Go.Op.move (Go.Operand.tmp 0), 21, (some (9, false))⟩,
      ⟨some 11, Go.Op.binOp Go.BinOp.geq 21 (Go.Operand.tmp 10) (Go.Operand.const (Go.Value.int Go.IntKind.i32 57344)) 21, 4, (some (9, false))⟩,
      ⟨some 12, Go.Op.move (Go.Operand.tmp 11), 4, (some (9, false))⟩,
      ⟨some 13, Go.Op.move (Go.Operand.tmp 0), 21, (some (12, true))⟩,
      ⟨some 14, Go.Op.binOp Go.BinOp.leq 21 (Go.Operand.tmp 13) (Go.Operand.const (Go.Value.int Go.IntKind.i32 1114111)) 21, 4, (some (12, true))⟩,
      ⟨some 15, Go.Op.pick (Go.Operand.tmp 12) (Go.Operand.tmp 14) (Go.Operand.const (Go.Value.bool false)), 4, (some (9, false))⟩,
      ⟨some 16, Go.Op.pick (Go.Operand.tmp 9) (Go.Operand.const (Go.Value.bool true)) (Go.Operand.tmp 15), 4, none⟩,
      ⟨some 2, Go.Op.assign (Go.Operand.tmp 16), 4, none⟩])
    .ret)) :=
  ⟨foll, Tryd.f70, Tryd.func70, by kernel_rfl, by kernel_rfl, by kernel_rfl, by rw [Tryd.ntmps70]; decide⟩

end Go.Proofs.YtefpcfooahogkaaDoor
