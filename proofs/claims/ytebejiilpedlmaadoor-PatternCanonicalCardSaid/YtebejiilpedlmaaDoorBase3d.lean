/- Facts on the types of this seat's program, and the prepared code of its functions. Written by a program of mine (gen.py) out of what the loaded dump prints. -/
import Derived.Test.YtebejiilpedlmaaDoorProg
import Derived.Test.YtebejiilpedlmaaDoorNvPQ
import Derived.KernelRfl
set_option linter.unusedVariables false
set_option maxRecDepth 100000
namespace Go.Proofs.YtebejiilpedlmaaDoor
open Go Nv

attribute [go_sem] Tryd.underlying0 Tryd.underlying1 Tryd.underlying2 Tryd.underlying3 Tryd.underlying4 Tryd.underlying5 Tryd.underlying6 Tryd.underlying7 Tryd.underlying8 Tryd.underlying9 Tryd.underlying10 Tryd.underlying11 Tryd.underlying12 Tryd.underlying13 Tryd.underlying14 Tryd.underlying15 Tryd.underlying16 Tryd.underlying17 Tryd.underlying18 Tryd.underlying19 Tryd.underlying20 Tryd.underlying21 Tryd.underlying22 Tryd.underlying23 Tryd.underlying24 Tryd.underlying25 Tryd.underlying26 Tryd.underlying27 Tryd.underlying28 Tryd.underlying29 Tryd.underlying30 Tryd.underlying31 Tryd.underlying32 Tryd.underlying33 Tryd.underlying34 Tryd.underlying35 Tryd.underlying36 Tryd.underlying37 Tryd.underlying38 Tryd.underlying39 Tryd.underlying40 Tryd.underlying41 Tryd.underlying42 Tryd.underlying43 Tryd.underlying44 Tryd.underlying45 Tryd.underlying46 Tryd.underlying47 Tryd.underlying48 Tryd.underlying49 Tryd.underlying50 Tryd.underlying51 Tryd.underlying52 Tryd.underlying53 Tryd.underlying54 Tryd.underlying55 Tryd.underlying56 Tryd.underlying57 Tryd.underlying58 Tryd.underlying59 Tryd.underlying60 Tryd.underlying61 Tryd.underlying62 Tryd.underlying63 Tryd.underlying64 Tryd.underlying65 Tryd.underlying66 Tryd.underlying67 Tryd.underlying68 Tryd.underlying69 Tryd.underlying70 Tryd.underlying71 Tryd.underlying72 Tryd.underlying73 Tryd.underlying74 Tryd.underlying75 Tryd.underlying76 Tryd.underlying77 Tryd.underlying78 Tryd.underlying79 Tryd.underlying80 Tryd.underlying81 Tryd.underlying82 Tryd.underlying83 Tryd.underlying84 Tryd.underlying85 Tryd.underlying86 Tryd.underlying87 Tryd.underlying88 Tryd.underlying89 Tryd.underlying90 Tryd.underlying91 Tryd.underlying92 Tryd.underlying93 Tryd.underlying94 Tryd.underlying95 Tryd.underlying96 Tryd.underlying97 Tryd.underlying98 Tryd.underlying99 Tryd.underlying100 Tryd.underlying101 Tryd.underlying102 Tryd.underlying103 Tryd.underlying104 Tryd.underlying105 Tryd.underlying106 Tryd.underlying107 Tryd.underlying108 Tryd.underlying109 Tryd.underlying110 Tryd.underlying111 Tryd.underlying112 Tryd.underlying113 Tryd.underlying114 Tryd.underlying115 Tryd.underlying116 Tryd.underlying117 Tryd.underlying118 Tryd.underlying119 Tryd.underlying120 Tryd.underlying121 Tryd.underlying122 Tryd.underlying123 Tryd.underlying124 Tryd.underlying125 Tryd.underlying126 Tryd.underlying127 Tryd.underlying128 Tryd.underlying129 Tryd.underlying130 Tryd.underlying131 Tryd.underlying132 Tryd.underlying133 Tryd.underlying134 Tryd.underlying135 Tryd.underlying136 Tryd.underlying137 Tryd.underlying138 Tryd.underlying139 Tryd.underlying140 Tryd.underlying141 Tryd.underlying142 Tryd.underlying143 Tryd.underlying144 Tryd.underlying145 Tryd.underlying146 Tryd.underlying147 Tryd.underlying148 Tryd.underlying149 Tryd.underlying150 Tryd.underlying151
@[go_sem] theorem c2 : Tryd.prog.cellsOf 2 = 1 := nrfl (by kernel_rfl)
@[go_sem] theorem by2 : Tryd.prog.bytesOf 2 = 8 := nrfl (by kernel_rfl)
@[go_sem] theorem z2 : zeroA Tryd.prog 2 = (.d (.int .i64 0)) := nrfl (by kernel_rfl)
@[go_sem] theorem c3 : Tryd.prog.cellsOf 3 = 1 := nrfl (by kernel_rfl)
@[go_sem] theorem by3 : Tryd.prog.bytesOf 3 = 8 := nrfl (by kernel_rfl)
@[go_sem] theorem z3 : zeroA Tryd.prog 3 = (.d (.int .i64 0)) := nrfl (by kernel_rfl)
@[go_sem] theorem c4 : Tryd.prog.cellsOf 4 = 1 := nrfl (by kernel_rfl)
@[go_sem] theorem by4 : Tryd.prog.bytesOf 4 = 1 := nrfl (by kernel_rfl)
@[go_sem] theorem z4 : zeroA Tryd.prog 4 = (.d (.bool false)) := nrfl (by kernel_rfl)
@[go_sem] theorem c5 : Tryd.prog.cellsOf 5 = 1 := nrfl (by kernel_rfl)
@[go_sem] theorem by5 : Tryd.prog.bytesOf 5 = 1 := nrfl (by kernel_rfl)
@[go_sem] theorem z5 : zeroA Tryd.prog 5 = (.d (.int .u8 0)) := nrfl (by kernel_rfl)
@[go_sem] theorem c6 : Tryd.prog.cellsOf 6 = 1 := nrfl (by kernel_rfl)
@[go_sem] theorem by6 : Tryd.prog.bytesOf 6 = 1 := nrfl (by kernel_rfl)
@[go_sem] theorem z6 : zeroA Tryd.prog 6 = (.d (.int .u8 0)) := nrfl (by kernel_rfl)
@[go_sem] theorem c7 : Tryd.prog.cellsOf 7 = 4 := nrfl (by kernel_rfl)
@[go_sem] theorem by7 : Tryd.prog.bytesOf 7 = 24 := nrfl (by kernel_rfl)
@[go_sem] theorem z7 : zeroA Tryd.prog 7 = (.agg [(.d (.int .i64 0)), (.d (.int .i64 0)), (.d (.bool false)), (.d (.int .u8 0))]) := nrfl (by kernel_rfl)
@[go_sem] theorem sp7 : structPlaces Tryd.prog 7 = some [(0, 1), (1, 1), (2, 1), (3, 1)] := nrfl (by kernel_rfl)
@[go_sem] theorem fo7_0 : fieldOff Tryd.prog 7 0 = some (0, 2) := by kernel_rfl
@[go_sem] theorem fo7_1 : fieldOff Tryd.prog 7 1 = some (1, 3) := by kernel_rfl
@[go_sem] theorem fo7_2 : fieldOff Tryd.prog 7 2 = some (2, 4) := by kernel_rfl
@[go_sem] theorem fo7_3 : fieldOff Tryd.prog 7 3 = some (3, 6) := by kernel_rfl
@[go_sem] theorem c8 : Tryd.prog.cellsOf 8 = 4 := nrfl (by kernel_rfl)
@[go_sem] theorem by8 : Tryd.prog.bytesOf 8 = 24 := nrfl (by kernel_rfl)
@[go_sem] theorem z8 : zeroA Tryd.prog 8 = (.agg [(.d (.int .i64 0)), (.d (.int .i64 0)), (.d (.bool false)), (.d (.int .u8 0))]) := nrfl (by kernel_rfl)
@[go_sem] theorem sp8 : structPlaces Tryd.prog 8 = some [(0, 1), (1, 1), (2, 1), (3, 1)] := nrfl (by kernel_rfl)
@[go_sem] theorem fo8_0 : fieldOff Tryd.prog 8 0 = some (0, 2) := by kernel_rfl
@[go_sem] theorem fo8_1 : fieldOff Tryd.prog 8 1 = some (1, 3) := by kernel_rfl
@[go_sem] theorem fo8_2 : fieldOff Tryd.prog 8 2 = some (2, 4) := by kernel_rfl
@[go_sem] theorem fo8_3 : fieldOff Tryd.prog 8 3 = some (3, 6) := by kernel_rfl
@[go_sem] theorem c9 : Tryd.prog.cellsOf 9 = 1 := nrfl (by kernel_rfl)
@[go_sem] theorem by9 : Tryd.prog.bytesOf 9 = 16 := nrfl (by kernel_rfl)
@[go_sem] theorem z9 : zeroA Tryd.prog 9 = (.d (.str [])) := nrfl (by kernel_rfl)
@[go_sem] theorem c10 : Tryd.prog.cellsOf 10 = 1 := nrfl (by kernel_rfl)
@[go_sem] theorem by10 : Tryd.prog.bytesOf 10 = 16 := nrfl (by kernel_rfl)
@[go_sem] theorem z10 : zeroA Tryd.prog 10 = (.d (.str [])) := nrfl (by kernel_rfl)
@[go_sem] theorem c11 : Tryd.prog.cellsOf 11 = 1 := nrfl (by kernel_rfl)
@[go_sem] theorem by11 : Tryd.prog.bytesOf 11 = 16 := nrfl (by kernel_rfl)
@[go_sem] theorem z11 : zeroA Tryd.prog 11 = (.d (.str [])) := nrfl (by kernel_rfl)
@[go_sem] theorem c12 : Tryd.prog.cellsOf 12 = 1 := nrfl (by kernel_rfl)
@[go_sem] theorem by12 : Tryd.prog.bytesOf 12 = 8 := nrfl (by kernel_rfl)
@[go_sem] theorem z12 : zeroA Tryd.prog 12 = (.d (.int .u64 0)) := nrfl (by kernel_rfl)
@[go_sem] theorem c13 : Tryd.prog.cellsOf 13 = 2 := nrfl (by kernel_rfl)
@[go_sem] theorem by13 : Tryd.prog.bytesOf 13 = 24 := nrfl (by kernel_rfl)
@[go_sem] theorem z13 : zeroA Tryd.prog 13 = (.agg [(.d (.str [])), (.d (.int .u64 0))]) := nrfl (by kernel_rfl)
@[go_sem] theorem sp13 : structPlaces Tryd.prog 13 = some [(0, 1), (1, 1)] := nrfl (by kernel_rfl)
@[go_sem] theorem fo13_0 : fieldOff Tryd.prog 13 0 = some (0, 9) := by kernel_rfl
@[go_sem] theorem fo13_1 : fieldOff Tryd.prog 13 1 = some (1, 12) := by kernel_rfl
@[go_sem] theorem c14 : Tryd.prog.cellsOf 14 = 2 := nrfl (by kernel_rfl)
@[go_sem] theorem by14 : Tryd.prog.bytesOf 14 = 24 := nrfl (by kernel_rfl)
@[go_sem] theorem z14 : zeroA Tryd.prog 14 = (.agg [(.d (.str [])), (.d (.int .u64 0))]) := nrfl (by kernel_rfl)
@[go_sem] theorem sp14 : structPlaces Tryd.prog 14 = some [(0, 1), (1, 1)] := nrfl (by kernel_rfl)
@[go_sem] theorem fo14_0 : fieldOff Tryd.prog 14 0 = some (0, 9) := by kernel_rfl
@[go_sem] theorem fo14_1 : fieldOff Tryd.prog 14 1 = some (1, 12) := by kernel_rfl
@[go_sem] theorem c15 : Tryd.prog.cellsOf 15 = 1 := nrfl (by kernel_rfl)
@[go_sem] theorem by15 : Tryd.prog.bytesOf 15 = 8 := nrfl (by kernel_rfl)
@[go_sem] theorem z15 : zeroA Tryd.prog 15 = (.d .nilptr) := nrfl (by kernel_rfl)
@[go_sem] theorem c16 : Tryd.prog.cellsOf 16 = 1 := nrfl (by kernel_rfl)
@[go_sem] theorem by16 : Tryd.prog.bytesOf 16 = 8 := nrfl (by kernel_rfl)
@[go_sem] theorem z16 : zeroA Tryd.prog 16 = (.d .nilptr) := nrfl (by kernel_rfl)
@[go_sem] theorem c17 : Tryd.prog.cellsOf 17 = 1 := nrfl (by kernel_rfl)
@[go_sem] theorem by17 : Tryd.prog.bytesOf 17 = 8 := nrfl (by kernel_rfl)
@[go_sem] theorem z17 : zeroA Tryd.prog 17 = (.d .nilptr) := nrfl (by kernel_rfl)
@[go_sem] theorem c18 : Tryd.prog.cellsOf 18 = 1 := nrfl (by kernel_rfl)
@[go_sem] theorem by18 : Tryd.prog.bytesOf 18 = 8 := nrfl (by kernel_rfl)
@[go_sem] theorem z18 : zeroA Tryd.prog 18 = (.agg [(.d .nilptr)]) := nrfl (by kernel_rfl)
@[go_sem] theorem sp18 : structPlaces Tryd.prog 18 = some [(0, 1)] := nrfl (by kernel_rfl)
@[go_sem] theorem fo18_0 : fieldOff Tryd.prog 18 0 = some (0, 17) := by kernel_rfl
@[go_sem] theorem c19 : Tryd.prog.cellsOf 19 = 1 := nrfl (by kernel_rfl)
@[go_sem] theorem by19 : Tryd.prog.bytesOf 19 = 8 := nrfl (by kernel_rfl)
@[go_sem] theorem z19 : zeroA Tryd.prog 19 = (.agg [(.d .nilptr)]) := nrfl (by kernel_rfl)
@[go_sem] theorem sp19 : structPlaces Tryd.prog 19 = some [(0, 1)] := nrfl (by kernel_rfl)
@[go_sem] theorem fo19_0 : fieldOff Tryd.prog 19 0 = some (0, 17) := by kernel_rfl
@[go_sem] theorem c20 : Tryd.prog.cellsOf 20 = 1 := nrfl (by kernel_rfl)
@[go_sem] theorem by20 : Tryd.prog.bytesOf 20 = 16 := nrfl (by kernel_rfl)
@[go_sem] theorem z20 : zeroA Tryd.prog 20 = (.d .niliface) := nrfl (by kernel_rfl)
@[go_sem] theorem c21 : Tryd.prog.cellsOf 21 = 1 := nrfl (by kernel_rfl)
@[go_sem] theorem by21 : Tryd.prog.bytesOf 21 = 4 := nrfl (by kernel_rfl)
@[go_sem] theorem z21 : zeroA Tryd.prog 21 = (.d (.int .i32 0)) := nrfl (by kernel_rfl)
@[go_sem] theorem c23 : Tryd.prog.cellsOf 23 = 1 := nrfl (by kernel_rfl)
@[go_sem] theorem by23 : Tryd.prog.bytesOf 23 = 24 := nrfl (by kernel_rfl)
@[go_sem] theorem z23 : zeroA Tryd.prog 23 = (.d .nilslice) := nrfl (by kernel_rfl)
@[go_sem] theorem c24 : Tryd.prog.cellsOf 24 = 1 := nrfl (by kernel_rfl)
@[go_sem] theorem by24 : Tryd.prog.bytesOf 24 = 24 := nrfl (by kernel_rfl)
@[go_sem] theorem z24 : zeroA Tryd.prog 24 = (.d .nilslice) := nrfl (by kernel_rfl)
@[go_sem] theorem c25 : Tryd.prog.cellsOf 25 = 5 := nrfl (by kernel_rfl)
@[go_sem] theorem by25 : Tryd.prog.bytesOf 25 = 72 := nrfl (by kernel_rfl)
@[go_sem] theorem z25 : zeroA Tryd.prog 25 = (.agg [(.d (.int .i64 0)), (.d .nilslice), (.d .nilslice), (.d (.int .i64 0)), (.d (.int .i64 0))]) := nrfl (by kernel_rfl)
@[go_sem] theorem sp25 : structPlaces Tryd.prog 25 = some [(0, 1), (1, 1), (2, 1), (3, 1), (4, 1)] := nrfl (by kernel_rfl)
@[go_sem] theorem fo25_0 : fieldOff Tryd.prog 25 0 = some (0, 3) := by kernel_rfl
@[go_sem] theorem fo25_1 : fieldOff Tryd.prog 25 1 = some (1, 23) := by kernel_rfl
@[go_sem] theorem fo25_2 : fieldOff Tryd.prog 25 2 = some (2, 24) := by kernel_rfl
@[go_sem] theorem fo25_3 : fieldOff Tryd.prog 25 3 = some (3, 3) := by kernel_rfl
@[go_sem] theorem fo25_4 : fieldOff Tryd.prog 25 4 = some (4, 3) := by kernel_rfl
@[go_sem] theorem c26 : Tryd.prog.cellsOf 26 = 5 := nrfl (by kernel_rfl)
@[go_sem] theorem by26 : Tryd.prog.bytesOf 26 = 72 := nrfl (by kernel_rfl)
@[go_sem] theorem z26 : zeroA Tryd.prog 26 = (.agg [(.d (.int .i64 0)), (.d .nilslice), (.d .nilslice), (.d (.int .i64 0)), (.d (.int .i64 0))]) := nrfl (by kernel_rfl)
@[go_sem] theorem sp26 : structPlaces Tryd.prog 26 = some [(0, 1), (1, 1), (2, 1), (3, 1), (4, 1)] := nrfl (by kernel_rfl)
@[go_sem] theorem fo26_0 : fieldOff Tryd.prog 26 0 = some (0, 3) := by kernel_rfl
@[go_sem] theorem fo26_1 : fieldOff Tryd.prog 26 1 = some (1, 23) := by kernel_rfl
@[go_sem] theorem fo26_2 : fieldOff Tryd.prog 26 2 = some (2, 24) := by kernel_rfl
@[go_sem] theorem fo26_3 : fieldOff Tryd.prog 26 3 = some (3, 3) := by kernel_rfl
@[go_sem] theorem fo26_4 : fieldOff Tryd.prog 26 4 = some (4, 3) := by kernel_rfl
@[go_sem] theorem c27 : Tryd.prog.cellsOf 27 = 1 := nrfl (by kernel_rfl)
@[go_sem] theorem by27 : Tryd.prog.bytesOf 27 = 8 := nrfl (by kernel_rfl)
@[go_sem] theorem z27 : zeroA Tryd.prog 27 = (.d (.int .i64 0)) := nrfl (by kernel_rfl)
@[go_sem] theorem c36 : Tryd.prog.cellsOf 36 = 0 := nrfl (by kernel_rfl)
@[go_sem] theorem by36 : Tryd.prog.bytesOf 36 = 0 := nrfl (by kernel_rfl)
@[go_sem] theorem z36 : zeroA Tryd.prog 36 = (.agg []) := nrfl (by kernel_rfl)
@[go_sem] theorem sp36 : structPlaces Tryd.prog 36 = some [] := nrfl (by kernel_rfl)
@[go_sem] theorem c37 : Tryd.prog.cellsOf 37 = 0 := nrfl (by kernel_rfl)
@[go_sem] theorem by37 : Tryd.prog.bytesOf 37 = 0 := nrfl (by kernel_rfl)
@[go_sem] theorem z37 : zeroA Tryd.prog 37 = (.agg []) := nrfl (by kernel_rfl)
@[go_sem] theorem sp37 : structPlaces Tryd.prog 37 = some [] := nrfl (by kernel_rfl)
@[go_sem] theorem c39 : Tryd.prog.cellsOf 39 = 1 := nrfl (by kernel_rfl)
@[go_sem] theorem by39 : Tryd.prog.bytesOf 39 = 8 := nrfl (by kernel_rfl)
@[go_sem] theorem z39 : zeroA Tryd.prog 39 = (.d .nilptr) := nrfl (by kernel_rfl)
@[go_sem] theorem c40 : Tryd.prog.cellsOf 40 = 1 := nrfl (by kernel_rfl)
@[go_sem] theorem by40 : Tryd.prog.bytesOf 40 = 24 := nrfl (by kernel_rfl)
@[go_sem] theorem z40 : zeroA Tryd.prog 40 = (.d .nilslice) := nrfl (by kernel_rfl)
@[go_sem] theorem c41 : Tryd.prog.cellsOf 41 = 2 := nrfl (by kernel_rfl)
@[go_sem] theorem by41 : Tryd.prog.bytesOf 41 = 32 := nrfl (by kernel_rfl)
@[go_sem] theorem z41 : zeroA Tryd.prog 41 = (.agg [(.d .nilslice), (.d (.int .i64 0))]) := nrfl (by kernel_rfl)
@[go_sem] theorem sp41 : structPlaces Tryd.prog 41 = some [(0, 1), (1, 1)] := nrfl (by kernel_rfl)
@[go_sem] theorem fo41_0 : fieldOff Tryd.prog 41 0 = some (0, 40) := by kernel_rfl
@[go_sem] theorem fo41_1 : fieldOff Tryd.prog 41 1 = some (1, 3) := by kernel_rfl
@[go_sem] theorem c42 : Tryd.prog.cellsOf 42 = 2 := nrfl (by kernel_rfl)
@[go_sem] theorem by42 : Tryd.prog.bytesOf 42 = 32 := nrfl (by kernel_rfl)
@[go_sem] theorem z42 : zeroA Tryd.prog 42 = (.agg [(.d .nilslice), (.d (.int .i64 0))]) := nrfl (by kernel_rfl)
@[go_sem] theorem sp42 : structPlaces Tryd.prog 42 = some [(0, 1), (1, 1)] := nrfl (by kernel_rfl)
@[go_sem] theorem fo42_0 : fieldOff Tryd.prog 42 0 = some (0, 40) := by kernel_rfl
@[go_sem] theorem fo42_1 : fieldOff Tryd.prog 42 1 = some (1, 3) := by kernel_rfl
@[go_sem] theorem c47 : Tryd.prog.cellsOf 47 = 2 := nrfl (by kernel_rfl)
@[go_sem] theorem by47 : Tryd.prog.bytesOf 47 = 8 := nrfl (by kernel_rfl)
@[go_sem] theorem z47 : zeroA Tryd.prog 47 = (.agg [(.d (.int .i32 0)), (.d (.int .i32 0))]) := nrfl (by kernel_rfl)
@[go_sem] theorem sp47 : structPlaces Tryd.prog 47 = some [(0, 1), (1, 1)] := nrfl (by kernel_rfl)
@[go_sem] theorem fo47_0 : fieldOff Tryd.prog 47 0 = some (0, 21) := by kernel_rfl
@[go_sem] theorem fo47_1 : fieldOff Tryd.prog 47 1 = some (1, 21) := by kernel_rfl
@[go_sem] theorem sk47 : structKinds Tryd.prog 47 = some [0, 0] := nrfl (by kernel_rfl)
@[go_sem] theorem c48 : Tryd.prog.cellsOf 48 = 2 := nrfl (by kernel_rfl)
@[go_sem] theorem by48 : Tryd.prog.bytesOf 48 = 8 := nrfl (by kernel_rfl)
@[go_sem] theorem z48 : zeroA Tryd.prog 48 = (.agg [(.d (.int .i32 0)), (.d (.int .i32 0))]) := nrfl (by kernel_rfl)
@[go_sem] theorem sp48 : structPlaces Tryd.prog 48 = some [(0, 1), (1, 1)] := nrfl (by kernel_rfl)
@[go_sem] theorem fo48_0 : fieldOff Tryd.prog 48 0 = some (0, 21) := by kernel_rfl
@[go_sem] theorem fo48_1 : fieldOff Tryd.prog 48 1 = some (1, 21) := by kernel_rfl
@[go_sem] theorem sk48 : structKinds Tryd.prog 48 = some [0, 0] := nrfl (by kernel_rfl)
@[go_sem] theorem c52 : Tryd.prog.cellsOf 52 = 1 := nrfl (by kernel_rfl)
@[go_sem] theorem by52 : Tryd.prog.bytesOf 52 = 24 := nrfl (by kernel_rfl)
@[go_sem] theorem z52 : zeroA Tryd.prog 52 = (.d .nilslice) := nrfl (by kernel_rfl)
@[go_sem] theorem c57 : Tryd.prog.cellsOf 57 = 1 := nrfl (by kernel_rfl)
@[go_sem] theorem by57 : Tryd.prog.bytesOf 57 = 24 := nrfl (by kernel_rfl)
@[go_sem] theorem z57 : zeroA Tryd.prog 57 = (.d .nilslice) := nrfl (by kernel_rfl)
@[go_sem] theorem c61 : Tryd.prog.cellsOf 61 = 4 := nrfl (by kernel_rfl)
@[go_sem] theorem by61 : Tryd.prog.bytesOf 61 = 24 := nrfl (by kernel_rfl)
@[go_sem] theorem z61 : zeroA Tryd.prog 61 = (.agg [(.d (.int .i32 0)), (.d (.int .i64 0)), (.d (.int .u8 0)), (.d (.int .u8 0))]) := nrfl (by kernel_rfl)
@[go_sem] theorem sp61 : structPlaces Tryd.prog 61 = some [(0, 1), (1, 1), (2, 1), (3, 1)] := nrfl (by kernel_rfl)
@[go_sem] theorem fo61_0 : fieldOff Tryd.prog 61 0 = some (0, 21) := by kernel_rfl
@[go_sem] theorem fo61_1 : fieldOff Tryd.prog 61 1 = some (1, 3) := by kernel_rfl
@[go_sem] theorem fo61_2 : fieldOff Tryd.prog 61 2 = some (2, 5) := by kernel_rfl
@[go_sem] theorem fo61_3 : fieldOff Tryd.prog 61 3 = some (3, 5) := by kernel_rfl
@[go_sem] theorem sk61 : structKinds Tryd.prog 61 = some [0, 0, 0, 0] := nrfl (by kernel_rfl)
@[go_sem] theorem c62 : Tryd.prog.cellsOf 62 = 4 := nrfl (by kernel_rfl)
@[go_sem] theorem by62 : Tryd.prog.bytesOf 62 = 24 := nrfl (by kernel_rfl)
@[go_sem] theorem z62 : zeroA Tryd.prog 62 = (.agg [(.d (.int .i32 0)), (.d (.int .i64 0)), (.d (.int .u8 0)), (.d (.int .u8 0))]) := nrfl (by kernel_rfl)
@[go_sem] theorem sp62 : structPlaces Tryd.prog 62 = some [(0, 1), (1, 1), (2, 1), (3, 1)] := nrfl (by kernel_rfl)
@[go_sem] theorem fo62_0 : fieldOff Tryd.prog 62 0 = some (0, 21) := by kernel_rfl
@[go_sem] theorem fo62_1 : fieldOff Tryd.prog 62 1 = some (1, 3) := by kernel_rfl
@[go_sem] theorem fo62_2 : fieldOff Tryd.prog 62 2 = some (2, 5) := by kernel_rfl
@[go_sem] theorem fo62_3 : fieldOff Tryd.prog 62 3 = some (3, 5) := by kernel_rfl
@[go_sem] theorem sk62 : structKinds Tryd.prog 62 = some [0, 0, 0, 0] := nrfl (by kernel_rfl)
@[go_sem] theorem c63 : Tryd.prog.cellsOf 63 = 1 := nrfl (by kernel_rfl)
@[go_sem] theorem by63 : Tryd.prog.bytesOf 63 = 8 := nrfl (by kernel_rfl)
@[go_sem] theorem z63 : zeroA Tryd.prog 63 = (.d (.int .u64 0)) := nrfl (by kernel_rfl)
@[go_sem] theorem c70 : Tryd.prog.cellsOf 70 = 256 := nrfl (by kernel_rfl)
@[go_sem] theorem by70 : Tryd.prog.bytesOf 70 = 256 := nrfl (by kernel_rfl)
@[go_sem] theorem z70 : zeroA Tryd.prog 70 = (.agg [(.d (.int .u8 0)), (.d (.int .u8 0)), (.d (.int .u8 0)), (.d (.int .u8 0)), (.d (.int .u8 0)), (.d (.int .u8 0)), (.d (.int .u8 0)), (.d (.int .u8 0)), (.d (.int .u8 0)), (.d (.int .u8 0)), (.d (.int .u8 0)), (.d (.int .u8 0)), (.d (.int .u8 0)), (.d (.int .u8 0)), (.d (.int .u8 0)), (.d (.int .u8 0)), (.d (.int .u8 0)), (.d (.int .u8 0)), (.d (.int .u8 0)), (.d (.int .u8 0)), (.d (.int .u8 0)), (.d (.int .u8 0)), (.d (.int .u8 0)), (.d (.int .u8 0)), (.d (.int .u8 0)), (.d (.int .u8 0)), (.d (.int .u8 0)), (.d (.int .u8 0)), (.d (.int .u8 0)), (.d (.int .u8 0)), (.d (.int .u8 0)), (.d (.int .u8 0)), (.d (.int .u8 0)), (.d (.int .u8 0)), (.d (.int .u8 0)), (.d (.int .u8 0)), (.d (.int .u8 0)), (.d (.int .u8 0)), (.d (.int .u8 0)), (.d (.int .u8 0)), (.d (.int .u8 0)), (.d (.int .u8 0)), (.d (.int .u8 0)), (.d (.int .u8 0)), (.d (.int .u8 0)), (.d (.int .u8 0)), (.d (.int .u8 0)), (.d (.int .u8 0)), (.d (.int .u8 0)), (.d (.int .u8 0)), (.d (.int .u8 0)), (.d (.int .u8 0)), (.d (.int .u8 0)), (.d (.int .u8 0)), (.d (.int .u8 0)), (.d (.int .u8 0)), (.d (.int .u8 0)), (.d (.int .u8 0)), (.d (.int .u8 0)), (.d (.int .u8 0)), (.d (.int .u8 0)), (.d (.int .u8 0)), (.d (.int .u8 0)), (.d (.int .u8 0)), (.d (.int .u8 0)), (.d (.int .u8 0)), (.d (.int .u8 0)), (.d (.int .u8 0)), (.d (.int .u8 0)), (.d (.int .u8 0)), (.d (.int .u8 0)), (.d (.int .u8 0)), (.d (.int .u8 0)), (.d (.int .u8 0)), (.d (.int .u8 0)), (.d (.int .u8 0)), (.d (.int .u8 0)), (.d (.int .u8 0)), (.d (.int .u8 0)), (.d (.int .u8 0)), (.d (.int .u8 0)), (.d (.int .u8 0)), (.d (.int .u8 0)), (.d (.int .u8 0)), (.d (.int .u8 0)), (.d (.int .u8 0)), (.d (.int .u8 0)), (.d (.int .u8 0)), (.d (.int .u8 0)), (.d (.int .u8 0)), (.d (.int .u8 0)), (.d (.int .u8 0)), (.d (.int .u8 0)), (.d (.int .u8 0)), (.d (.int .u8 0)), (.d (.int .u8 0)), (.d (.int .u8 0)), (.d (.int .u8 0)), (.d (.int .u8 0)), (.d (.int .u8 0)), (.d (.int .u8 0)), (.d (.int .u8 0)), (.d (.int .u8 0)), (.d (.int .u8 0)), (.d (.int .u8 0)), (.d (.int .u8 0)), (.d (.int .u8 0)), (.d (.int .u8 0)), (.d (.int .u8 0)), (.d (.int .u8 0)), (.d (.int .u8 0)), (.d (.int .u8 0)), (.d (.int .u8 0)), (.d (.int .u8 0)), (.d (.int .u8 0)), (.d (.int .u8 0)), (.d (.int .u8 0)), (.d (.int .u8 0)), (.d (.int .u8 0)), (.d (.int .u8 0)), (.d (.int .u8 0)), (.d (.int .u8 0)), (.d (.int .u8 0)), (.d (.int .u8 0)), (.d (.int .u8 0)), (.d (.int .u8 0)), (.d (.int .u8 0)), (.d (.int .u8 0)), (.d (.int .u8 0)), (.d (.int .u8 0)), (.d (.int .u8 0)), (.d (.int .u8 0)), (.d (.int .u8 0)), (.d (.int .u8 0)), (.d (.int .u8 0)), (.d (.int .u8 0)), (.d (.int .u8 0)), (.d (.int .u8 0)), (.d (.int .u8 0)), (.d (.int .u8 0)), (.d (.int .u8 0)), (.d (.int .u8 0)), (.d (.int .u8 0)), (.d (.int .u8 0)), (.d (.int .u8 0)), (.d (.int .u8 0)), (.d (.int .u8 0)), (.d (.int .u8 0)), (.d (.int .u8 0)), (.d (.int .u8 0)), (.d (.int .u8 0)), (.d (.int .u8 0)), (.d (.int .u8 0)), (.d (.int .u8 0)), (.d (.int .u8 0)), (.d (.int .u8 0)), (.d (.int .u8 0)), (.d (.int .u8 0)), (.d (.int .u8 0)), (.d (.int .u8 0)), (.d (.int .u8 0)), (.d (.int .u8 0)), (.d (.int .u8 0)), (.d (.int .u8 0)), (.d (.int .u8 0)), (.d (.int .u8 0)), (.d (.int .u8 0)), (.d (.int .u8 0)), (.d (.int .u8 0)), (.d (.int .u8 0)), (.d (.int .u8 0)), (.d (.int .u8 0)), (.d (.int .u8 0)), (.d (.int .u8 0)), (.d (.int .u8 0)), (.d (.int .u8 0)), (.d (.int .u8 0)), (.d (.int .u8 0)), (.d (.int .u8 0)), (.d (.int .u8 0)), (.d (.int .u8 0)), (.d (.int .u8 0)), (.d (.int .u8 0)), (.d (.int .u8 0)), (.d (.int .u8 0)), (.d (.int .u8 0)), (.d (.int .u8 0)), (.d (.int .u8 0)), (.d (.int .u8 0)), (.d (.int .u8 0)), (.d (.int .u8 0)), (.d (.int .u8 0)), (.d (.int .u8 0)), (.d (.int .u8 0)), (.d (.int .u8 0)), (.d (.int .u8 0)), (.d (.int .u8 0)), (.d (.int .u8 0)), (.d (.int .u8 0)), (.d (.int .u8 0)), (.d (.int .u8 0)), (.d (.int .u8 0)), (.d (.int .u8 0)), (.d (.int .u8 0)), (.d (.int .u8 0)), (.d (.int .u8 0)), (.d (.int .u8 0)), (.d (.int .u8 0)), (.d (.int .u8 0)), (.d (.int .u8 0)), (.d (.int .u8 0)), (.d (.int .u8 0)), (.d (.int .u8 0)), (.d (.int .u8 0)), (.d (.int .u8 0)), (.d (.int .u8 0)), (.d (.int .u8 0)), (.d (.int .u8 0)), (.d (.int .u8 0)), (.d (.int .u8 0)), (.d (.int .u8 0)), (.d (.int .u8 0)), (.d (.int .u8 0)), (.d (.int .u8 0)), (.d (.int .u8 0)), (.d (.int .u8 0)), (.d (.int .u8 0)), (.d (.int .u8 0)), (.d (.int .u8 0)), (.d (.int .u8 0)), (.d (.int .u8 0)), (.d (.int .u8 0)), (.d (.int .u8 0)), (.d (.int .u8 0)), (.d (.int .u8 0)), (.d (.int .u8 0)), (.d (.int .u8 0)), (.d (.int .u8 0)), (.d (.int .u8 0)), (.d (.int .u8 0)), (.d (.int .u8 0)), (.d (.int .u8 0)), (.d (.int .u8 0)), (.d (.int .u8 0)), (.d (.int .u8 0)), (.d (.int .u8 0)), (.d (.int .u8 0)), (.d (.int .u8 0)), (.d (.int .u8 0)), (.d (.int .u8 0)), (.d (.int .u8 0)), (.d (.int .u8 0)), (.d (.int .u8 0)), (.d (.int .u8 0)), (.d (.int .u8 0)), (.d (.int .u8 0))]) := nrfl (by kernel_rfl)
@[go_sem] theorem c71 : Tryd.prog.cellsOf 71 = 2 := nrfl (by kernel_rfl)
@[go_sem] theorem by71 : Tryd.prog.bytesOf 71 = 2 := nrfl (by kernel_rfl)
@[go_sem] theorem z71 : zeroA Tryd.prog 71 = (.agg [(.d (.int .u8 0)), (.d (.int .u8 0))]) := nrfl (by kernel_rfl)
@[go_sem] theorem sp71 : structPlaces Tryd.prog 71 = some [(0, 1), (1, 1)] := nrfl (by kernel_rfl)
@[go_sem] theorem fo71_0 : fieldOff Tryd.prog 71 0 = some (0, 5) := by kernel_rfl
@[go_sem] theorem fo71_1 : fieldOff Tryd.prog 71 1 = some (1, 5) := by kernel_rfl
@[go_sem] theorem sk71 : structKinds Tryd.prog 71 = some [0, 0] := nrfl (by kernel_rfl)
@[go_sem] theorem c72 : Tryd.prog.cellsOf 72 = 2 := nrfl (by kernel_rfl)
@[go_sem] theorem by72 : Tryd.prog.bytesOf 72 = 2 := nrfl (by kernel_rfl)
@[go_sem] theorem z72 : zeroA Tryd.prog 72 = (.agg [(.d (.int .u8 0)), (.d (.int .u8 0))]) := nrfl (by kernel_rfl)
@[go_sem] theorem sp72 : structPlaces Tryd.prog 72 = some [(0, 1), (1, 1)] := nrfl (by kernel_rfl)
@[go_sem] theorem fo72_0 : fieldOff Tryd.prog 72 0 = some (0, 5) := by kernel_rfl
@[go_sem] theorem fo72_1 : fieldOff Tryd.prog 72 1 = some (1, 5) := by kernel_rfl
@[go_sem] theorem sk72 : structKinds Tryd.prog 72 = some [0, 0] := nrfl (by kernel_rfl)
@[go_sem] theorem c73 : Tryd.prog.cellsOf 73 = 32 := nrfl (by kernel_rfl)
@[go_sem] theorem by73 : Tryd.prog.bytesOf 73 = 32 := nrfl (by kernel_rfl)
@[go_sem] theorem z73 : zeroA Tryd.prog 73 = (.agg [(.d (.int .u8 0)), (.d (.int .u8 0)), (.d (.int .u8 0)), (.d (.int .u8 0)), (.d (.int .u8 0)), (.d (.int .u8 0)), (.d (.int .u8 0)), (.d (.int .u8 0)), (.d (.int .u8 0)), (.d (.int .u8 0)), (.d (.int .u8 0)), (.d (.int .u8 0)), (.d (.int .u8 0)), (.d (.int .u8 0)), (.d (.int .u8 0)), (.d (.int .u8 0)), (.d (.int .u8 0)), (.d (.int .u8 0)), (.d (.int .u8 0)), (.d (.int .u8 0)), (.d (.int .u8 0)), (.d (.int .u8 0)), (.d (.int .u8 0)), (.d (.int .u8 0)), (.d (.int .u8 0)), (.d (.int .u8 0)), (.d (.int .u8 0)), (.d (.int .u8 0)), (.d (.int .u8 0)), (.d (.int .u8 0)), (.d (.int .u8 0)), (.d (.int .u8 0))]) := nrfl (by kernel_rfl)
@[go_sem] theorem c77 : Tryd.prog.cellsOf 77 = 1 := nrfl (by kernel_rfl)
@[go_sem] theorem by77 : Tryd.prog.bytesOf 77 = 8 := nrfl (by kernel_rfl)
@[go_sem] theorem z77 : zeroA Tryd.prog 77 = (.d .nilptr) := nrfl (by kernel_rfl)
@[go_sem] theorem c78 : Tryd.prog.cellsOf 78 = 1 := nrfl (by kernel_rfl)
@[go_sem] theorem by78 : Tryd.prog.bytesOf 78 = 24 := nrfl (by kernel_rfl)
@[go_sem] theorem z78 : zeroA Tryd.prog 78 = (.d .nilslice) := nrfl (by kernel_rfl)
@[go_sem] theorem c79 : Tryd.prog.cellsOf 79 = 2 := nrfl (by kernel_rfl)
@[go_sem] theorem by79 : Tryd.prog.bytesOf 79 = 32 := nrfl (by kernel_rfl)
@[go_sem] theorem z79 : zeroA Tryd.prog 79 = (.agg [(.d .nilptr), (.d .nilslice)]) := nrfl (by kernel_rfl)
@[go_sem] theorem sp79 : structPlaces Tryd.prog 79 = some [(0, 1), (1, 1)] := nrfl (by kernel_rfl)
@[go_sem] theorem fo79_0 : fieldOff Tryd.prog 79 0 = some (0, 77) := by kernel_rfl
@[go_sem] theorem fo79_1 : fieldOff Tryd.prog 79 1 = some (1, 78) := by kernel_rfl
@[go_sem] theorem c80 : Tryd.prog.cellsOf 80 = 2 := nrfl (by kernel_rfl)
@[go_sem] theorem by80 : Tryd.prog.bytesOf 80 = 32 := nrfl (by kernel_rfl)
@[go_sem] theorem z80 : zeroA Tryd.prog 80 = (.agg [(.d .nilptr), (.d .nilslice)]) := nrfl (by kernel_rfl)
@[go_sem] theorem sp80 : structPlaces Tryd.prog 80 = some [(0, 1), (1, 1)] := nrfl (by kernel_rfl)
@[go_sem] theorem fo80_0 : fieldOff Tryd.prog 80 0 = some (0, 77) := by kernel_rfl
@[go_sem] theorem fo80_1 : fieldOff Tryd.prog 80 1 = some (1, 78) := by kernel_rfl
@[go_sem] theorem c82 : Tryd.prog.cellsOf 82 = 1 := nrfl (by kernel_rfl)
@[go_sem] theorem by82 : Tryd.prog.bytesOf 82 = 16 := nrfl (by kernel_rfl)
@[go_sem] theorem z82 : zeroA Tryd.prog 82 = (.d .niliface) := nrfl (by kernel_rfl)
@[go_sem] theorem c83 : Tryd.prog.cellsOf 83 = 1 := nrfl (by kernel_rfl)
@[go_sem] theorem by83 : Tryd.prog.bytesOf 83 = 16 := nrfl (by kernel_rfl)
@[go_sem] theorem z83 : zeroA Tryd.prog 83 = (.d .niliface) := nrfl (by kernel_rfl)
@[go_sem] theorem c89 : Tryd.prog.cellsOf 89 = 1 := nrfl (by kernel_rfl)
@[go_sem] theorem by89 : Tryd.prog.bytesOf 89 = 8 := nrfl (by kernel_rfl)
@[go_sem] theorem z89 : zeroA Tryd.prog 89 = (.d (.int .u64 0)) := nrfl (by kernel_rfl)
@[go_sem] theorem c93 : Tryd.prog.cellsOf 93 = 1 := nrfl (by kernel_rfl)
@[go_sem] theorem by93 : Tryd.prog.bytesOf 93 = 8 := nrfl (by kernel_rfl)
@[go_sem] theorem z93 : zeroA Tryd.prog 93 = (.d .nilptr) := nrfl (by kernel_rfl)
@[go_sem] theorem c95 : Tryd.prog.cellsOf 95 = 1 := nrfl (by kernel_rfl)
@[go_sem] theorem by95 : Tryd.prog.bytesOf 95 = 8 := nrfl (by kernel_rfl)
@[go_sem] theorem z95 : zeroA Tryd.prog 95 = (.d .nilptr) := nrfl (by kernel_rfl)
@[go_sem] theorem c101 : Tryd.prog.cellsOf 101 = 24 := nrfl (by kernel_rfl)
@[go_sem] theorem by101 : Tryd.prog.bytesOf 101 = 24 := nrfl (by kernel_rfl)
@[go_sem] theorem z101 : zeroA Tryd.prog 101 = (.agg [(.d (.int .u8 0)), (.d (.int .u8 0)), (.d (.int .u8 0)), (.d (.int .u8 0)), (.d (.int .u8 0)), (.d (.int .u8 0)), (.d (.int .u8 0)), (.d (.int .u8 0)), (.d (.int .u8 0)), (.d (.int .u8 0)), (.d (.int .u8 0)), (.d (.int .u8 0)), (.d (.int .u8 0)), (.d (.int .u8 0)), (.d (.int .u8 0)), (.d (.int .u8 0)), (.d (.int .u8 0)), (.d (.int .u8 0)), (.d (.int .u8 0)), (.d (.int .u8 0)), (.d (.int .u8 0)), (.d (.int .u8 0)), (.d (.int .u8 0)), (.d (.int .u8 0))]) := nrfl (by kernel_rfl)
@[go_sem] theorem c112 : Tryd.prog.cellsOf 112 = 20 := nrfl (by kernel_rfl)
@[go_sem] theorem by112 : Tryd.prog.bytesOf 112 = 160 := nrfl (by kernel_rfl)
@[go_sem] theorem z112 : zeroA Tryd.prog 112 = (.agg [(.d (.int .u64 0)), (.d (.int .u64 0)), (.d (.int .u64 0)), (.d (.int .u64 0)), (.d (.int .u64 0)), (.d (.int .u64 0)), (.d (.int .u64 0)), (.d (.int .u64 0)), (.d (.int .u64 0)), (.d (.int .u64 0)), (.d (.int .u64 0)), (.d (.int .u64 0)), (.d (.int .u64 0)), (.d (.int .u64 0)), (.d (.int .u64 0)), (.d (.int .u64 0)), (.d (.int .u64 0)), (.d (.int .u64 0)), (.d (.int .u64 0)), (.d (.int .u64 0))]) := nrfl (by kernel_rfl)
@[go_sem] theorem c113 : Tryd.prog.cellsOf 113 = 1 := nrfl (by kernel_rfl)
@[go_sem] theorem by113 : Tryd.prog.bytesOf 113 = 4 := nrfl (by kernel_rfl)
@[go_sem] theorem z113 : zeroA Tryd.prog 113 = (.d (.int .u32 0)) := nrfl (by kernel_rfl)
@[go_sem] theorem c114 : Tryd.prog.cellsOf 114 = 65 := nrfl (by kernel_rfl)
@[go_sem] theorem by114 : Tryd.prog.bytesOf 114 = 65 := nrfl (by kernel_rfl)
@[go_sem] theorem z114 : zeroA Tryd.prog 114 = (.agg [(.d (.int .u8 0)), (.d (.int .u8 0)), (.d (.int .u8 0)), (.d (.int .u8 0)), (.d (.int .u8 0)), (.d (.int .u8 0)), (.d (.int .u8 0)), (.d (.int .u8 0)), (.d (.int .u8 0)), (.d (.int .u8 0)), (.d (.int .u8 0)), (.d (.int .u8 0)), (.d (.int .u8 0)), (.d (.int .u8 0)), (.d (.int .u8 0)), (.d (.int .u8 0)), (.d (.int .u8 0)), (.d (.int .u8 0)), (.d (.int .u8 0)), (.d (.int .u8 0)), (.d (.int .u8 0)), (.d (.int .u8 0)), (.d (.int .u8 0)), (.d (.int .u8 0)), (.d (.int .u8 0)), (.d (.int .u8 0)), (.d (.int .u8 0)), (.d (.int .u8 0)), (.d (.int .u8 0)), (.d (.int .u8 0)), (.d (.int .u8 0)), (.d (.int .u8 0)), (.d (.int .u8 0)), (.d (.int .u8 0)), (.d (.int .u8 0)), (.d (.int .u8 0)), (.d (.int .u8 0)), (.d (.int .u8 0)), (.d (.int .u8 0)), (.d (.int .u8 0)), (.d (.int .u8 0)), (.d (.int .u8 0)), (.d (.int .u8 0)), (.d (.int .u8 0)), (.d (.int .u8 0)), (.d (.int .u8 0)), (.d (.int .u8 0)), (.d (.int .u8 0)), (.d (.int .u8 0)), (.d (.int .u8 0)), (.d (.int .u8 0)), (.d (.int .u8 0)), (.d (.int .u8 0)), (.d (.int .u8 0)), (.d (.int .u8 0)), (.d (.int .u8 0)), (.d (.int .u8 0)), (.d (.int .u8 0)), (.d (.int .u8 0)), (.d (.int .u8 0)), (.d (.int .u8 0)), (.d (.int .u8 0)), (.d (.int .u8 0)), (.d (.int .u8 0)), (.d (.int .u8 0))]) := nrfl (by kernel_rfl)
@[go_sem] theorem c122 : Tryd.prog.cellsOf 122 = 1 := nrfl (by kernel_rfl)
@[go_sem] theorem by122 : Tryd.prog.bytesOf 122 = 8 := nrfl (by kernel_rfl)
@[go_sem] theorem z122 : zeroA Tryd.prog 122 = (.d (.int .i64 0)) := nrfl (by kernel_rfl)
@[go_sem] theorem c129 : Tryd.prog.cellsOf 129 = 32 := nrfl (by kernel_rfl)
@[go_sem] theorem by129 : Tryd.prog.bytesOf 129 = 32 := nrfl (by kernel_rfl)
@[go_sem] theorem z129 : zeroA Tryd.prog 129 = (.agg [(.d (.int .u8 0)), (.d (.int .u8 0)), (.d (.int .u8 0)), (.d (.int .u8 0)), (.d (.int .u8 0)), (.d (.int .u8 0)), (.d (.int .u8 0)), (.d (.int .u8 0)), (.d (.int .u8 0)), (.d (.int .u8 0)), (.d (.int .u8 0)), (.d (.int .u8 0)), (.d (.int .u8 0)), (.d (.int .u8 0)), (.d (.int .u8 0)), (.d (.int .u8 0)), (.d (.int .u8 0)), (.d (.int .u8 0)), (.d (.int .u8 0)), (.d (.int .u8 0)), (.d (.int .u8 0)), (.d (.int .u8 0)), (.d (.int .u8 0)), (.d (.int .u8 0)), (.d (.int .u8 0)), (.d (.int .u8 0)), (.d (.int .u8 0)), (.d (.int .u8 0)), (.d (.int .u8 0)), (.d (.int .u8 0)), (.d (.int .u8 0)), (.d (.int .u8 0))]) := nrfl (by kernel_rfl)
@[go_sem] theorem c130 : Tryd.prog.cellsOf 130 = 64 := nrfl (by kernel_rfl)
@[go_sem] theorem by130 : Tryd.prog.bytesOf 130 = 64 := nrfl (by kernel_rfl)
@[go_sem] theorem z130 : zeroA Tryd.prog 130 = (.agg [(.d (.int .u8 0)), (.d (.int .u8 0)), (.d (.int .u8 0)), (.d (.int .u8 0)), (.d (.int .u8 0)), (.d (.int .u8 0)), (.d (.int .u8 0)), (.d (.int .u8 0)), (.d (.int .u8 0)), (.d (.int .u8 0)), (.d (.int .u8 0)), (.d (.int .u8 0)), (.d (.int .u8 0)), (.d (.int .u8 0)), (.d (.int .u8 0)), (.d (.int .u8 0)), (.d (.int .u8 0)), (.d (.int .u8 0)), (.d (.int .u8 0)), (.d (.int .u8 0)), (.d (.int .u8 0)), (.d (.int .u8 0)), (.d (.int .u8 0)), (.d (.int .u8 0)), (.d (.int .u8 0)), (.d (.int .u8 0)), (.d (.int .u8 0)), (.d (.int .u8 0)), (.d (.int .u8 0)), (.d (.int .u8 0)), (.d (.int .u8 0)), (.d (.int .u8 0)), (.d (.int .u8 0)), (.d (.int .u8 0)), (.d (.int .u8 0)), (.d (.int .u8 0)), (.d (.int .u8 0)), (.d (.int .u8 0)), (.d (.int .u8 0)), (.d (.int .u8 0)), (.d (.int .u8 0)), (.d (.int .u8 0)), (.d (.int .u8 0)), (.d (.int .u8 0)), (.d (.int .u8 0)), (.d (.int .u8 0)), (.d (.int .u8 0)), (.d (.int .u8 0)), (.d (.int .u8 0)), (.d (.int .u8 0)), (.d (.int .u8 0)), (.d (.int .u8 0)), (.d (.int .u8 0)), (.d (.int .u8 0)), (.d (.int .u8 0)), (.d (.int .u8 0)), (.d (.int .u8 0)), (.d (.int .u8 0)), (.d (.int .u8 0)), (.d (.int .u8 0)), (.d (.int .u8 0)), (.d (.int .u8 0)), (.d (.int .u8 0)), (.d (.int .u8 0))]) := nrfl (by kernel_rfl)
@[go_sem] theorem c131 : Tryd.prog.cellsOf 131 = 1 := nrfl (by kernel_rfl)
@[go_sem] theorem by131 : Tryd.prog.bytesOf 131 = 8 := nrfl (by kernel_rfl)
@[go_sem] theorem z131 : zeroA Tryd.prog 131 = (.d (.int .u64 0)) := nrfl (by kernel_rfl)
@[go_sem] theorem c135 : Tryd.prog.cellsOf 135 = 1 := nrfl (by kernel_rfl)
@[go_sem] theorem by135 : Tryd.prog.bytesOf 135 = 8 := nrfl (by kernel_rfl)
@[go_sem] theorem z135 : zeroA Tryd.prog 135 = (.d .nilptr) := nrfl (by kernel_rfl)
@[go_sem] theorem c137 : Tryd.prog.cellsOf 137 = 1 := nrfl (by kernel_rfl)
@[go_sem] theorem by137 : Tryd.prog.bytesOf 137 = 8 := nrfl (by kernel_rfl)
@[go_sem] theorem z137 : zeroA Tryd.prog 137 = (.d .nilptr) := nrfl (by kernel_rfl)
@[go_sem] theorem c140 : Tryd.prog.cellsOf 140 = 4 := nrfl (by kernel_rfl)
@[go_sem] theorem by140 : Tryd.prog.bytesOf 140 = 40 := nrfl (by kernel_rfl)
@[go_sem] theorem z140 : zeroA Tryd.prog 140 = (.agg [(.d .nilptr), (.d .nilptr), (.d .nilptr), (.d (.str []))]) := nrfl (by kernel_rfl)
@[go_sem] theorem sp140 : structPlaces Tryd.prog 140 = some [(0, 1), (1, 1), (2, 1), (3, 1)] := nrfl (by kernel_rfl)
@[go_sem] theorem fo140_0 : fieldOff Tryd.prog 140 0 = some (0, 17) := by kernel_rfl
@[go_sem] theorem fo140_1 : fieldOff Tryd.prog 140 1 = some (1, 17) := by kernel_rfl
@[go_sem] theorem fo140_2 : fieldOff Tryd.prog 140 2 = some (2, 17) := by kernel_rfl
@[go_sem] theorem fo140_3 : fieldOff Tryd.prog 140 3 = some (3, 9) := by kernel_rfl
@[go_sem] theorem c141 : Tryd.prog.cellsOf 141 = 4 := nrfl (by kernel_rfl)
@[go_sem] theorem by141 : Tryd.prog.bytesOf 141 = 40 := nrfl (by kernel_rfl)
@[go_sem] theorem z141 : zeroA Tryd.prog 141 = (.agg [(.d .nilptr), (.d .nilptr), (.d .nilptr), (.d (.str []))]) := nrfl (by kernel_rfl)
@[go_sem] theorem sp141 : structPlaces Tryd.prog 141 = some [(0, 1), (1, 1), (2, 1), (3, 1)] := nrfl (by kernel_rfl)
@[go_sem] theorem fo141_0 : fieldOff Tryd.prog 141 0 = some (0, 17) := by kernel_rfl
@[go_sem] theorem fo141_1 : fieldOff Tryd.prog 141 1 = some (1, 17) := by kernel_rfl
@[go_sem] theorem fo141_2 : fieldOff Tryd.prog 141 2 = some (2, 17) := by kernel_rfl
@[go_sem] theorem fo141_3 : fieldOff Tryd.prog 141 3 = some (3, 9) := by kernel_rfl
@[go_sem] theorem c142 : Tryd.prog.cellsOf 142 = 0 := nrfl (by kernel_rfl)
@[go_sem] theorem by142 : Tryd.prog.bytesOf 142 = 0 := nrfl (by kernel_rfl)
@[go_sem] theorem z142 : zeroA Tryd.prog 142 = (.agg []) := nrfl (by kernel_rfl)
@[go_sem] theorem c143 : Tryd.prog.cellsOf 143 = 0 := nrfl (by kernel_rfl)
@[go_sem] theorem by143 : Tryd.prog.bytesOf 143 = 0 := nrfl (by kernel_rfl)
@[go_sem] theorem z143 : zeroA Tryd.prog 143 = (.agg []) := nrfl (by kernel_rfl)
@[go_sem] theorem sp143 : structPlaces Tryd.prog 143 = some [(0, 0)] := nrfl (by kernel_rfl)
@[go_sem] theorem c144 : Tryd.prog.cellsOf 144 = 0 := nrfl (by kernel_rfl)
@[go_sem] theorem by144 : Tryd.prog.bytesOf 144 = 0 := nrfl (by kernel_rfl)
@[go_sem] theorem z144 : zeroA Tryd.prog 144 = (.agg []) := nrfl (by kernel_rfl)
@[go_sem] theorem sp144 : structPlaces Tryd.prog 144 = some [(0, 0)] := nrfl (by kernel_rfl)
@[go_sem] theorem c145 : Tryd.prog.cellsOf 145 = 1 := nrfl (by kernel_rfl)
@[go_sem] theorem by145 : Tryd.prog.bytesOf 145 = 1 := nrfl (by kernel_rfl)
@[go_sem] theorem z145 : zeroA Tryd.prog 145 = (.d (.int .u8 0)) := nrfl (by kernel_rfl)
@[go_sem] theorem c146 : Tryd.prog.cellsOf 146 = 1 := nrfl (by kernel_rfl)
@[go_sem] theorem by146 : Tryd.prog.bytesOf 146 = 1 := nrfl (by kernel_rfl)
@[go_sem] theorem z146 : zeroA Tryd.prog 146 = (.d (.int .u8 0)) := nrfl (by kernel_rfl)
@[go_sem] theorem c148 : Tryd.prog.cellsOf 148 = 1 := nrfl (by kernel_rfl)
@[go_sem] theorem by148 : Tryd.prog.bytesOf 148 = 4 := nrfl (by kernel_rfl)
@[go_sem] theorem z148 : zeroA Tryd.prog 148 = (.d (.int .i32 0)) := nrfl (by kernel_rfl)
@[go_sem] theorem c149 : Tryd.prog.cellsOf 149 = 1 := nrfl (by kernel_rfl)
@[go_sem] theorem by149 : Tryd.prog.bytesOf 149 = 4 := nrfl (by kernel_rfl)
@[go_sem] theorem z149 : zeroA Tryd.prog 149 = (.d (.int .i32 0)) := nrfl (by kernel_rfl)
@[go_sem] theorem c150 : Tryd.prog.cellsOf 150 = 11 := nrfl (by kernel_rfl)
@[go_sem] theorem by150 : Tryd.prog.bytesOf 150 = 48 := nrfl (by kernel_rfl)
@[go_sem] theorem z150 : zeroA Tryd.prog 150 = (.agg [(.d (.int .u64 0)), (.d (.int .u64 0)), (.d (.int .u32 0)), (.d (.int .u8 0)), (.d (.int .u8 0)), (.d (.int .u8 0)), (.d (.int .u8 0)), (.d .nilfunc), (.d .nilptr), (.d (.int .i32 0)), (.d (.int .i32 0))]) := nrfl (by kernel_rfl)
@[go_sem] theorem sp150 : structPlaces Tryd.prog 150 = some [(0, 1), (1, 1), (2, 1), (3, 1), (4, 1), (5, 1), (6, 1), (7, 1), (8, 1), (9, 1), (10, 1)] := nrfl (by kernel_rfl)
@[go_sem] theorem fo150_0 : fieldOff Tryd.prog 150 0 = some (0, 12) := by kernel_rfl
@[go_sem] theorem fo150_1 : fieldOff Tryd.prog 150 1 = some (1, 12) := by kernel_rfl
@[go_sem] theorem fo150_2 : fieldOff Tryd.prog 150 2 = some (2, 113) := by kernel_rfl
@[go_sem] theorem fo150_3 : fieldOff Tryd.prog 150 3 = some (3, 145) := by kernel_rfl
@[go_sem] theorem fo150_4 : fieldOff Tryd.prog 150 4 = some (4, 5) := by kernel_rfl
@[go_sem] theorem fo150_5 : fieldOff Tryd.prog 150 5 = some (5, 5) := by kernel_rfl
@[go_sem] theorem fo150_6 : fieldOff Tryd.prog 150 6 = some (6, 146) := by kernel_rfl
@[go_sem] theorem fo150_7 : fieldOff Tryd.prog 150 7 = some (7, 147) := by kernel_rfl
@[go_sem] theorem fo150_8 : fieldOff Tryd.prog 150 8 = some (8, 93) := by kernel_rfl
@[go_sem] theorem fo150_9 : fieldOff Tryd.prog 150 9 = some (9, 148) := by kernel_rfl
@[go_sem] theorem fo150_10 : fieldOff Tryd.prog 150 10 = some (10, 149) := by kernel_rfl
@[go_sem] theorem c151 : Tryd.prog.cellsOf 151 = 11 := nrfl (by kernel_rfl)
@[go_sem] theorem by151 : Tryd.prog.bytesOf 151 = 48 := nrfl (by kernel_rfl)
@[go_sem] theorem z151 : zeroA Tryd.prog 151 = (.agg [(.d (.int .u64 0)), (.d (.int .u64 0)), (.d (.int .u32 0)), (.d (.int .u8 0)), (.d (.int .u8 0)), (.d (.int .u8 0)), (.d (.int .u8 0)), (.d .nilfunc), (.d .nilptr), (.d (.int .i32 0)), (.d (.int .i32 0))]) := nrfl (by kernel_rfl)
@[go_sem] theorem sp151 : structPlaces Tryd.prog 151 = some [(0, 1), (1, 1), (2, 1), (3, 1), (4, 1), (5, 1), (6, 1), (7, 1), (8, 1), (9, 1), (10, 1)] := nrfl (by kernel_rfl)
@[go_sem] theorem fo151_0 : fieldOff Tryd.prog 151 0 = some (0, 12) := by kernel_rfl
@[go_sem] theorem fo151_1 : fieldOff Tryd.prog 151 1 = some (1, 12) := by kernel_rfl
@[go_sem] theorem fo151_2 : fieldOff Tryd.prog 151 2 = some (2, 113) := by kernel_rfl
@[go_sem] theorem fo151_3 : fieldOff Tryd.prog 151 3 = some (3, 145) := by kernel_rfl
@[go_sem] theorem fo151_4 : fieldOff Tryd.prog 151 4 = some (4, 5) := by kernel_rfl
@[go_sem] theorem fo151_5 : fieldOff Tryd.prog 151 5 = some (5, 5) := by kernel_rfl
@[go_sem] theorem fo151_6 : fieldOff Tryd.prog 151 6 = some (6, 146) := by kernel_rfl
@[go_sem] theorem fo151_7 : fieldOff Tryd.prog 151 7 = some (7, 147) := by kernel_rfl
@[go_sem] theorem fo151_8 : fieldOff Tryd.prog 151 8 = some (8, 93) := by kernel_rfl
@[go_sem] theorem fo151_9 : fieldOff Tryd.prog 151 9 = some (9, 148) := by kernel_rfl
@[go_sem] theorem fo151_10 : fieldOff Tryd.prog 151 10 = some (10, 149) := by kernel_rfl

theorem foll : Tryd.prog.follows .mixedOrders = true := by kernel_rfl
@[go_sem] theorem pf0 : plainFn Tryd.prog 0 = false := nrfl (by kernel_rfl)
@[go_sem] theorem pf1 : plainFn Tryd.prog 1 = false := nrfl (by kernel_rfl)
@[go_sem] theorem pf2 : plainFn Tryd.prog 2 = true := nrfl (by kernel_rfl)
@[go_sem] theorem pf3 : plainFn Tryd.prog 3 = true := nrfl (by kernel_rfl)
@[go_sem] theorem pf4 : plainFn Tryd.prog 4 = true := nrfl (by kernel_rfl)
@[go_sem] theorem pf5 : plainFn Tryd.prog 5 = true := nrfl (by kernel_rfl)
@[go_sem] theorem pf6 : plainFn Tryd.prog 6 = true := nrfl (by kernel_rfl)
@[go_sem] theorem pf7 : plainFn Tryd.prog 7 = true := nrfl (by kernel_rfl)
@[go_sem] theorem pf8 : plainFn Tryd.prog 8 = true := nrfl (by kernel_rfl)
@[go_sem] theorem pf9 : plainFn Tryd.prog 9 = true := nrfl (by kernel_rfl)
@[go_sem] theorem pf10 : plainFn Tryd.prog 10 = true := nrfl (by kernel_rfl)
@[go_sem] theorem pf11 : plainFn Tryd.prog 11 = true := nrfl (by kernel_rfl)
@[go_sem] theorem pf12 : plainFn Tryd.prog 12 = true := nrfl (by kernel_rfl)
@[go_sem] theorem pf13 : plainFn Tryd.prog 13 = true := nrfl (by kernel_rfl)
@[go_sem] theorem pf14 : plainFn Tryd.prog 14 = true := nrfl (by kernel_rfl)
@[go_sem] theorem pf15 : plainFn Tryd.prog 15 = true := nrfl (by kernel_rfl)
@[go_sem] theorem pf16 : plainFn Tryd.prog 16 = true := nrfl (by kernel_rfl)
@[go_sem] theorem pf17 : plainFn Tryd.prog 17 = true := nrfl (by kernel_rfl)
@[go_sem] theorem pf18 : plainFn Tryd.prog 18 = true := nrfl (by kernel_rfl)
@[go_sem] theorem pf19 : plainFn Tryd.prog 19 = true := nrfl (by kernel_rfl)
@[go_sem] theorem pf20 : plainFn Tryd.prog 20 = true := nrfl (by kernel_rfl)
@[go_sem] theorem pf21 : plainFn Tryd.prog 21 = true := nrfl (by kernel_rfl)
@[go_sem] theorem pf22 : plainFn Tryd.prog 22 = true := nrfl (by kernel_rfl)
@[go_sem] theorem pf23 : plainFn Tryd.prog 23 = true := nrfl (by kernel_rfl)
@[go_sem] theorem pf24 : plainFn Tryd.prog 24 = true := nrfl (by kernel_rfl)
@[go_sem] theorem pf25 : plainFn Tryd.prog 25 = true := nrfl (by kernel_rfl)
@[go_sem] theorem pf26 : plainFn Tryd.prog 26 = true := nrfl (by kernel_rfl)
@[go_sem] theorem pf27 : plainFn Tryd.prog 27 = true := nrfl (by kernel_rfl)
@[go_sem] theorem pf28 : plainFn Tryd.prog 28 = true := nrfl (by kernel_rfl)
@[go_sem] theorem pf29 : plainFn Tryd.prog 29 = true := nrfl (by kernel_rfl)
@[go_sem] theorem pf30 : plainFn Tryd.prog 30 = true := nrfl (by kernel_rfl)
@[go_sem] theorem pf31 : plainFn Tryd.prog 31 = true := nrfl (by kernel_rfl)
@[go_sem] theorem pf32 : plainFn Tryd.prog 32 = true := nrfl (by kernel_rfl)
@[go_sem] theorem pf33 : plainFn Tryd.prog 33 = true := nrfl (by kernel_rfl)
@[go_sem] theorem pf34 : plainFn Tryd.prog 34 = true := nrfl (by kernel_rfl)
@[go_sem] theorem pf35 : plainFn Tryd.prog 35 = true := nrfl (by kernel_rfl)
@[go_sem] theorem pf36 : plainFn Tryd.prog 36 = true := nrfl (by kernel_rfl)
@[go_sem] theorem pf37 : plainFn Tryd.prog 37 = true := nrfl (by kernel_rfl)
@[go_sem] theorem pf38 : plainFn Tryd.prog 38 = true := nrfl (by kernel_rfl)
@[go_sem] theorem pf39 : plainFn Tryd.prog 39 = true := nrfl (by kernel_rfl)
@[go_sem] theorem pf40 : plainFn Tryd.prog 40 = true := nrfl (by kernel_rfl)
@[go_sem] theorem pf41 : plainFn Tryd.prog 41 = true := nrfl (by kernel_rfl)
@[go_sem] theorem pf42 : plainFn Tryd.prog 42 = true := nrfl (by kernel_rfl)
@[go_sem] theorem pf43 : plainFn Tryd.prog 43 = true := nrfl (by kernel_rfl)
@[go_sem] theorem pf44 : plainFn Tryd.prog 44 = true := nrfl (by kernel_rfl)
@[go_sem] theorem pf45 : plainFn Tryd.prog 45 = true := nrfl (by kernel_rfl)
@[go_sem] theorem pf46 : plainFn Tryd.prog 46 = true := nrfl (by kernel_rfl)
@[go_sem] theorem pf47 : plainFn Tryd.prog 47 = true := nrfl (by kernel_rfl)
@[go_sem] theorem pf48 : plainFn Tryd.prog 48 = true := nrfl (by kernel_rfl)
@[go_sem] theorem pf49 : plainFn Tryd.prog 49 = true := nrfl (by kernel_rfl)
@[go_sem] theorem pf50 : plainFn Tryd.prog 50 = true := nrfl (by kernel_rfl)
@[go_sem] theorem pf51 : plainFn Tryd.prog 51 = true := nrfl (by kernel_rfl)
@[go_sem] theorem pf52 : plainFn Tryd.prog 52 = true := nrfl (by kernel_rfl)
@[go_sem] theorem pf53 : plainFn Tryd.prog 53 = true := nrfl (by kernel_rfl)
@[go_sem] theorem pf54 : plainFn Tryd.prog 54 = true := nrfl (by kernel_rfl)
@[go_sem] theorem pf55 : plainFn Tryd.prog 55 = false := nrfl (by kernel_rfl)
@[go_sem] theorem ne55 : NoEsc Tryd.prog 55 = True := eq_true ⟨Tryd.f55, Tryd.func55, by kernel_rfl, by kernel_rfl, by kernel_rfl, by kernel_rfl⟩
@[go_sem] theorem pf56 : plainFn Tryd.prog 56 = false := nrfl (by kernel_rfl)
@[go_sem] theorem pf57 : plainFn Tryd.prog 57 = true := nrfl (by kernel_rfl)
@[go_sem] theorem pf58 : plainFn Tryd.prog 58 = true := nrfl (by kernel_rfl)
@[go_sem] theorem pf59 : plainFn Tryd.prog 59 = true := nrfl (by kernel_rfl)
@[go_sem] theorem pf60 : plainFn Tryd.prog 60 = true := nrfl (by kernel_rfl)
@[go_sem] theorem pf61 : plainFn Tryd.prog 61 = true := nrfl (by kernel_rfl)
@[go_sem] theorem pf62 : plainFn Tryd.prog 62 = true := nrfl (by kernel_rfl)
@[go_sem] theorem pf63 : plainFn Tryd.prog 63 = true := nrfl (by kernel_rfl)
@[go_sem] theorem pf64 : plainFn Tryd.prog 64 = true := nrfl (by kernel_rfl)
@[go_sem] theorem pf65 : plainFn Tryd.prog 65 = true := nrfl (by kernel_rfl)
@[go_sem] theorem pf66 : plainFn Tryd.prog 66 = true := nrfl (by kernel_rfl)
@[go_sem] theorem pf67 : plainFn Tryd.prog 67 = true := nrfl (by kernel_rfl)
@[go_sem] theorem pf68 : plainFn Tryd.prog 68 = true := nrfl (by kernel_rfl)
@[go_sem] theorem pf69 : plainFn Tryd.prog 69 = true := nrfl (by kernel_rfl)
@[go_sem] theorem pf70 : plainFn Tryd.prog 70 = true := nrfl (by kernel_rfl)
@[go_sem] theorem pf71 : plainFn Tryd.prog 71 = false := nrfl (by kernel_rfl)
@[go_sem] theorem pf72 : plainFn Tryd.prog 72 = true := nrfl (by kernel_rfl)
@[go_sem] theorem pf73 : plainFn Tryd.prog 73 = true := nrfl (by kernel_rfl)
@[go_sem] theorem pf74 : plainFn Tryd.prog 74 = true := nrfl (by kernel_rfl)
@[go_sem] theorem pf75 : plainFn Tryd.prog 75 = true := nrfl (by kernel_rfl)
@[go_sem] theorem pf76 : plainFn Tryd.prog 76 = true := nrfl (by kernel_rfl)
@[go_sem] theorem pf77 : plainFn Tryd.prog 77 = true := nrfl (by kernel_rfl)
@[go_sem] theorem pf78 : plainFn Tryd.prog 78 = true := nrfl (by kernel_rfl)
@[go_sem] theorem pf79 : plainFn Tryd.prog 79 = true := nrfl (by kernel_rfl)
@[go_sem] theorem pf80 : plainFn Tryd.prog 80 = true := nrfl (by kernel_rfl)
@[go_sem] theorem pf81 : plainFn Tryd.prog 81 = true := nrfl (by kernel_rfl)
@[go_sem] theorem pf82 : plainFn Tryd.prog 82 = false := nrfl (by kernel_rfl)
@[go_sem] theorem pf83 : plainFn Tryd.prog 83 = true := nrfl (by kernel_rfl)
@[go_sem] theorem pf84 : plainFn Tryd.prog 84 = true := nrfl (by kernel_rfl)
@[go_sem] theorem pf85 : plainFn Tryd.prog 85 = true := nrfl (by kernel_rfl)
@[go_sem] theorem pf86 : plainFn Tryd.prog 86 = true := nrfl (by kernel_rfl)
@[go_sem] theorem pf87 : plainFn Tryd.prog 87 = true := nrfl (by kernel_rfl)
@[go_sem] theorem pf88 : plainFn Tryd.prog 88 = true := nrfl (by kernel_rfl)
@[go_sem] theorem pf89 : plainFn Tryd.prog 89 = true := nrfl (by kernel_rfl)
@[go_sem] theorem pf90 : plainFn Tryd.prog 90 = true := nrfl (by kernel_rfl)
@[go_sem] theorem pf91 : plainFn Tryd.prog 91 = true := nrfl (by kernel_rfl)
@[go_sem] theorem pf92 : plainFn Tryd.prog 92 = true := nrfl (by kernel_rfl)
@[go_sem] theorem pf93 : plainFn Tryd.prog 93 = true := nrfl (by kernel_rfl)
@[go_sem] theorem pf94 : plainFn Tryd.prog 94 = true := nrfl (by kernel_rfl)
@[go_sem] theorem pf95 : plainFn Tryd.prog 95 = true := nrfl (by kernel_rfl)
@[go_sem] theorem pf96 : plainFn Tryd.prog 96 = true := nrfl (by kernel_rfl)
@[go_sem] theorem pf97 : plainFn Tryd.prog 97 = true := nrfl (by kernel_rfl)
@[go_sem] theorem pf98 : plainFn Tryd.prog 98 = true := nrfl (by kernel_rfl)
@[go_sem] theorem pf99 : plainFn Tryd.prog 99 = true := nrfl (by kernel_rfl)
@[go_sem] theorem pf100 : plainFn Tryd.prog 100 = true := nrfl (by kernel_rfl)
@[go_sem] theorem pf101 : plainFn Tryd.prog 101 = false := nrfl (by kernel_rfl)
@[go_sem] theorem pf102 : plainFn Tryd.prog 102 = false := nrfl (by kernel_rfl)
@[go_sem] theorem pf103 : plainFn Tryd.prog 103 = false := nrfl (by kernel_rfl)
@[go_sem] theorem pf104 : plainFn Tryd.prog 104 = false := nrfl (by kernel_rfl)
@[go_sem] theorem pf105 : plainFn Tryd.prog 105 = false := nrfl (by kernel_rfl)
@[go_sem] theorem pf106 : plainFn Tryd.prog 106 = false := nrfl (by kernel_rfl)
@[go_sem] theorem pf107 : plainFn Tryd.prog 107 = false := nrfl (by kernel_rfl)
@[go_sem] theorem pf108 : plainFn Tryd.prog 108 = false := nrfl (by kernel_rfl)
@[go_sem] theorem pf109 : plainFn Tryd.prog 109 = false := nrfl (by kernel_rfl)
@[go_sem] theorem pf110 : plainFn Tryd.prog 110 = false := nrfl (by kernel_rfl)
@[go_sem] theorem pf111 : plainFn Tryd.prog 111 = false := nrfl (by kernel_rfl)
@[go_sem] theorem pf112 : plainFn Tryd.prog 112 = false := nrfl (by kernel_rfl)
@[go_sem] theorem pf113 : plainFn Tryd.prog 113 = false := nrfl (by kernel_rfl)
@[go_sem] theorem pf114 : plainFn Tryd.prog 114 = false := nrfl (by kernel_rfl)
@[go_sem] theorem pf115 : plainFn Tryd.prog 115 = false := nrfl (by kernel_rfl)
@[go_sem] theorem pf116 : plainFn Tryd.prog 116 = false := nrfl (by kernel_rfl)
@[go_sem] theorem pf117 : plainFn Tryd.prog 117 = false := nrfl (by kernel_rfl)
@[go_sem] theorem pf118 : plainFn Tryd.prog 118 = false := nrfl (by kernel_rfl)
@[go_sem] theorem pf119 : plainFn Tryd.prog 119 = false := nrfl (by kernel_rfl)
@[go_sem] theorem pf120 : plainFn Tryd.prog 120 = false := nrfl (by kernel_rfl)
@[go_sem] theorem pf121 : plainFn Tryd.prog 121 = false := nrfl (by kernel_rfl)
@[go_sem] theorem pf122 : plainFn Tryd.prog 122 = false := nrfl (by kernel_rfl)
@[go_sem] theorem pf123 : plainFn Tryd.prog 123 = false := nrfl (by kernel_rfl)
@[go_sem] theorem pf124 : plainFn Tryd.prog 124 = false := nrfl (by kernel_rfl)
@[go_sem] theorem pf125 : plainFn Tryd.prog 125 = true := nrfl (by kernel_rfl)

/-- narrator.pattern.Check -/
theorem fn6 : FnIs Tryd.prog 6 1 [Go.ResultVar.tmp 2] (.seq (.region [⟨some 1, Go.Op.box 26 (Go.Operand.tmp 0), 0, none⟩,
      ⟨some 2, Go.Op.assign (Go.Operand.const (Go.Value.int Go.IntKind.i64 0)), 27, none⟩])
    (.seq (.seq (.region [⟨some 3, Go.Op.load 26 (Go.Operand.tmp 1), 26, none⟩,
      ⟨some 4, Go.Op.call { callee := Go.Callee.value (Go.Operand.func 14), args := #[Go.Operand.tmp 3, Go.Operand.const (Go.Value.int Go.IntKind.i64 120)], argTypes := #[26, 3] }, 3, none⟩,
      ⟨some 5, Go.Op.binOp Go.BinOp.gtr 3 (Go.Operand.tmp 4) (Go.Operand.const (Go.Value.int Go.IntKind.i64 120)) 3, 4, none⟩])
    (.cond (Go.Operand.tmp 5)
      (.seq (.region [⟨some 2, Go.Op.assign (Go.Operand.const (Go.Value.int Go.IntKind.i64 5)), 27, none⟩])
      .ret)
      .skip))
    (.seq (.region [⟨some 6, Go.Op.load 26 (Go.Operand.tmp 1), 26, none⟩,
      ⟨some 7, Go.Op.call { callee := Go.Callee.value (Go.Operand.func 15), args := #[Go.Operand.tmp 6], argTypes := #[26] }, 27, none⟩,
      ⟨some 2, Go.Op.assign (Go.Operand.tmp 7), 27, none⟩])
    .ret))) :=
  ⟨foll, Tryd.f6, Tryd.func6, by kernel_rfl, by kernel_rfl, by kernel_rfl, by rw [Tryd.ntmps6]; decide⟩

/-- narrator.pattern.count -/
theorem fn14 : FnIs Tryd.prog 14 2 [Go.ResultVar.tmp 4] (.seq (.region [⟨some 2, Go.Op.box 26 (Go.Operand.tmp 0), 0, none⟩,
      ⟨some 4, Go.Op.assign (Go.Operand.const (Go.Value.int Go.IntKind.i64 0)), 3, none⟩])
    (.seq (.region [⟨some 5, Go.Op.assign (Go.Operand.const (Go.Value.int Go.IntKind.i64 1)), 3, none⟩])
    (.seq (.seq (.region [⟨some 8, Go.Op.fieldAddr 26 (Go.Operand.tmp 2) 2, 0, none⟩,
      ⟨some 9, Go.Op.load 24 (Go.Operand.tmp 8), 24, none⟩,
      ⟨some 10, Go.Op.call { callee := Go.Callee.builtin Go.Builtin.len, args := #[Go.Operand.tmp 9], argTypes := #[24] }, 3, none⟩,
      ⟨some 11, Go.Op.move (Go.Operand.const (Go.Value.int Go.IntKind.i64 0)), 3, none⟩])
    (.block 0
      (.loop
        (.seq (.region [⟨some 12, Go.Op.binOp Go.BinOp.lss 3 (Go.Operand.tmp 11) (Go.Operand.tmp 10) 3, 0, none⟩])
        (.seq (.cond (Go.Operand.tmp 12)
          .skip
          (.exit 0))
        (.seq (.block 1
          (.seq (.region [⟨some 13, Go.Op.indexAddr 24 (Go.Operand.tmp 9) (Go.Operand.tmp 11), 0, none⟩,
            ⟨some 14, Go.Op.load 26 (Go.Operand.tmp 13), 26, none⟩,
            ⟨some 7, Go.Op.alloc 26, 0, none⟩,
            ⟨none, Go.Op.store 26 (Go.Operand.tmp 7) (Go.Operand.tmp 14), 0, none⟩])
          (.seq (.seq (.region [⟨some 15, Go.Op.move (Go.Operand.tmp 5), 3, none⟩,
            ⟨some 16, Go.Op.move (Go.Operand.tmp 1), 3, none⟩,
            ⟨some 17, Go.Op.binOp Go.BinOp.gtr 3 (Go.Operand.tmp 15) (Go.Operand.tmp 16) 3, 4, none⟩])
          (.cond (Go.Operand.tmp 17)
            (.exit 0)
            .skip))
          (.region [⟨some 18, Go.Op.move (Go.Operand.tmp 5), 3, none⟩,
            ⟨some 19, Go.Op.load 26 (Go.Operand.tmp 7), 26, none⟩,
            ⟨some 20, Go.Op.move (Go.Operand.tmp 1), 3, none⟩,
            ⟨some 21, Go.Op.move (Go.Operand.tmp 5), 3, none⟩,
            ⟨some 22, Go.Op.binOp Go.BinOp.sub 3 (Go.Operand.tmp 20) (Go.Operand.tmp 21) 3, 3, none⟩,
            ⟨some 23, Go.Op.call { callee := Go.Callee.value (Go.Operand.func 14), args := #[Go.Operand.tmp 19, Go.Operand.tmp 22], argTypes := #[26, 3] }, 3, none⟩,
            ⟨some 24, Go.Op.binOp Go.BinOp.add 3 (Go.Operand.tmp 18) (Go.Operand.tmp 23) 3, 3, none⟩,
            ⟨some 5, Go.Op.assign (Go.Operand.tmp 24), 3, none⟩]))))
        (.region [⟨some 25, Go.Op.binOp Go.BinOp.add 3 (Go.Operand.tmp 11) (Go.Operand.const (Go.Value.int Go.IntKind.i64 1)) 3, 3, none⟩,
          ⟨some 11, Go.Op.move (Go.Operand.tmp 25), 3, none⟩])))))))
    (.seq (.region [⟨some 26, Go.Op.move (Go.Operand.tmp 5), 3, none⟩,
      ⟨some 4, Go.Op.assign (Go.Operand.tmp 26), 3, none⟩])
    .ret)))) :=
  ⟨foll, Tryd.f14, Tryd.func14, by kernel_rfl, by kernel_rfl, by kernel_rfl, by rw [Tryd.ntmps14]; decide⟩

/-- narrator.pattern.check -/
theorem fn15 : FnIs Tryd.prog 15 1 [Go.ResultVar.tmp 2] (.seq (.region [⟨some 1, Go.Op.box 26 (Go.Operand.tmp 0), 0, none⟩,
      ⟨some 2, Go.Op.assign (Go.Operand.const (Go.Value.int Go.IntKind.i64 0)), 27, none⟩])
    (.seq (.region [⟨some 3, Go.Op.assign (Go.Operand.const (Go.Value.bool false)), 4, none⟩])
    (.seq (.seq (.region [⟨some 7, Go.Op.fieldAddr 26 (Go.Operand.tmp 1) 0, 0, none⟩,
      ⟨some 8, Go.Op.load 3 (Go.Operand.tmp 7), 3, none⟩])
    (.block 0
      (.seq (.region [⟨some 10, Go.Op.binOp Go.BinOp.eql 3 (Go.Operand.tmp 8) (Go.Operand.const (Go.Value.int Go.IntKind.i64 1)) 3, 4, none⟩,
        ⟨some 9, Go.Op.assign (Go.Operand.tmp 10), 4, none⟩])
      (.cond (Go.Operand.tmp 9)
        (.region [⟨some 11, Go.Op.fieldAddr 26 (Go.Operand.tmp 1) 2, 0, none⟩,
          ⟨some 12, Go.Op.load 24 (Go.Operand.tmp 11), 24, none⟩,
          ⟨some 13, Go.Op.call { callee := Go.Callee.builtin Go.Builtin.len, args := #[Go.Operand.tmp 12], argTypes := #[24] }, 3, none⟩,
          ⟨some 14, Go.Op.binOp Go.BinOp.eql 3 (Go.Operand.tmp 13) (Go.Operand.const (Go.Value.int Go.IntKind.i64 0)) 3, 4, none⟩,
          ⟨some 3, Go.Op.assign (Go.Operand.tmp 14), 4, none⟩])
        (.seq (.region [⟨some 16, Go.Op.binOp Go.BinOp.eql 3 (Go.Operand.tmp 8) (Go.Operand.const (Go.Value.int Go.IntKind.i64 2)) 3, 4, none⟩,
          ⟨some 15, Go.Op.assign (Go.Operand.tmp 16), 4, none⟩])
        (.cond (Go.Operand.tmp 15)
          (.region [⟨some 17, Go.Op.fieldAddr 26 (Go.Operand.tmp 1) 2, 0, none⟩,
            ⟨some 18, Go.Op.load 24 (Go.Operand.tmp 17), 24, none⟩,
            ⟨some 19, Go.Op.call { callee := Go.Callee.builtin Go.Builtin.len, args := #[Go.Operand.tmp 18], argTypes := #[24] }, 3, none⟩,
            ⟨some 20, Go.Op.binOp Go.BinOp.eql 3 (Go.Operand.tmp 19) (Go.Operand.const (Go.Value.int Go.IntKind.i64 0)) 3, 4, none⟩,
            ⟨some 21, Go.Op.move (Go.Operand.tmp 20), 4, none⟩,
            ⟨some 22, Go.Op.fieldAddr 26 (Go.Operand.tmp 1) 1, 0, (some (21, true))⟩,
            ⟨some 23, Go.Op.load 23 (Go.Operand.tmp 22), 23, (some (21, true))⟩,
            ⟨some 24, Go.Op.call { callee := Go.Callee.value (Go.Operand.func 23), args := #[Go.Operand.tmp 23], argTypes := #[23] }, 4, (some (21, true))⟩,
            ⟨some 25, Go.Op.pick (Go.Operand.tmp 21) (Go.Operand.tmp 24) (Go.Operand.const (Go.Value.bool false)), 4, none⟩,
            ⟨some 3, Go.Op.assign (Go.Operand.tmp 25), 4, none⟩])
          (.seq (.seq (.region [⟨some 27, Go.Op.binOp Go.BinOp.eql 3 (Go.Operand.tmp 8) (Go.Operand.const (Go.Value.int Go.IntKind.i64 3)) 3, 4, none⟩,
            ⟨some 26, Go.Op.assign (Go.Operand.tmp 27), 4, none⟩])
          (.cond (Go.Operand.tmp 26)
            .skip
            (.region [⟨some 28, Go.Op.binOp Go.BinOp.eql 3 (Go.Operand.tmp 8) (Go.Operand.const (Go.Value.int Go.IntKind.i64 4)) 3, 4, none⟩,
              ⟨some 26, Go.Op.assign (Go.Operand.tmp 28), 4, none⟩])))
          (.cond (Go.Operand.tmp 26)
            (.region [⟨some 29, Go.Op.fieldAddr 26 (Go.Operand.tmp 1) 2, 0, none⟩,
              ⟨some 30, Go.Op.load 24 (Go.Operand.tmp 29), 24, none⟩,
              ⟨some 31, Go.Op.call { callee := Go.Callee.builtin Go.Builtin.len, args := #[Go.Operand.tmp 30], argTypes := #[24] }, 3, none⟩,
              ⟨some 32, Go.Op.binOp Go.BinOp.geq 3 (Go.Operand.tmp 31) (Go.Operand.const (Go.Value.int Go.IntKind.i64 2)) 3, 4, none⟩,
              ⟨some 3, Go.Op.assign (Go.Operand.tmp 32), 4, none⟩])
            (.seq (.region [⟨some 34, Go.Op.binOp Go.BinOp.eql 3 (Go.Operand.tmp 8) (Go.Operand.const (Go.Value.int Go.IntKind.i64 5)) 3, 4, none⟩,
              ⟨some 33, Go.Op.assign (Go.Operand.tmp 34), 4, none⟩])
            (.cond (Go.Operand.tmp 33)
              (.region [⟨some 35, Go.Op.fieldAddr 26 (Go.Operand.tmp 1) 2, 0, none⟩,
                ⟨some 36, Go.Op.load 24 (Go.Operand.tmp 35), 24, none⟩,
                ⟨some 37, Go.Op.call { callee := Go.Callee.builtin Go.Builtin.len, args := #[Go.Operand.tmp 36], argTypes := #[24] }, 3, none⟩,
                ⟨some 38, Go.Op.binOp Go.BinOp.eql 3 (Go.Operand.tmp 37) (Go.Operand.const (Go.Value.int Go.IntKind.i64 1)) 3, 4, none⟩,
                ⟨some 39, Go.Op.move (Go.Operand.tmp 38), 4, none⟩,
                ⟨some 40, Go.Op.fieldAddr 26 (Go.Operand.tmp 1) 3, 0, (some (39, true))⟩,
                ⟨some 41, Go.Op.load 3 (Go.Operand.tmp 40), 3, (some (39, true))⟩,
                ⟨some 42, Go.Op.binOp Go.BinOp.geq 3 (Go.Operand.tmp 41) (Go.Operand.const (Go.Value.int Go.IntKind.i64 0)) 3, 4, (some (39, true))⟩,
                ⟨some 43, Go.Op.pick (Go.Operand.tmp 39) (Go.Operand.tmp 42) (Go.Operand.const (Go.Value.bool false)), 4, none⟩,
                ⟨some 44, Go.Op.move (Go.Operand.tmp 43), 4, none⟩,
                ⟨some 45, Go.Op.fieldAddr 26 (Go.Operand.tmp 1) 3, 0, (some (44, true))⟩,
                ⟨some 46, Go.Op.load 3 (Go.Operand.tmp 45), 3, (some (44, true))⟩,
                ⟨some 47, Go.Op.binOp Go.BinOp.leq 3 (Go.Operand.tmp 46) (Go.Operand.const (Go.Value.int Go.IntKind.i64 20)) 3, 4, (some (44, true))⟩,
                ⟨some 48, Go.Op.pick (Go.Operand.tmp 44) (Go.Operand.tmp 47) (Go.Operand.const (Go.Value.bool false)), 4, none⟩,
                ⟨some 49, Go.Op.move (Go.Operand.tmp 48), 4, none⟩,
                ⟨some 50, Go.Op.fieldAddr 26 (Go.Operand.tmp 1) 4, 0, (some (49, true))⟩,
                ⟨some 51, Go.Op.load 3 (Go.Operand.tmp 50), 3, (some (49, true))⟩,
                ⟨some 52, Go.Op.binOp Go.BinOp.eql 3 (Go.Operand.tmp 51) (Go.Operand.const (Go.Value.int Go.IntKind.i64 (-1))) 3, 4, (some (49, true))⟩,
                ⟨some 53, Go.Op.move (Go.Operand.tmp 52), 4, (some (49, true))⟩,
                ⟨some 54, Go.Op.fieldAddr 26 (Go.Operand.tmp 1) 4, 0, (some (53, false))⟩,
                ⟨some 55, Go.Op.load 3 (Go.Operand.tmp 54), 3, (some (53, false))⟩,
                ⟨some 56, Go.Op.fieldAddr 26 (Go.Operand.tmp 1) 3, 0, (some (53, false))⟩,
                ⟨some 57, Go.Op.load 3 (Go.Operand.tmp 56), 3, (some (53, false))⟩,
                ⟨some 58, Go.Op.binOp Go.BinOp.geq 3 (Go.Operand.tmp 55) (Go.Operand.tmp 57) 3, 4, (some (53, false))⟩,
                ⟨some 59, Go.Op.move (Go.Operand.tmp 58), 4, (some (53, false))⟩,
                ⟨some 60, Go.Op.fieldAddr 26 (Go.Operand.tmp 1) 4, 0, (some (59, true))⟩,
                ⟨some 61, Go.Op.load 3 (Go.Operand.tmp 60), 3, (some (59, true))⟩,
                ⟨some 62, Go.Op.binOp Go.BinOp.leq 3 (Go.Operand.tmp 61) (Go.Operand.const (Go.Value.int Go.IntKind.i64 20)) 3, 4, (some (59, true))⟩,
                ⟨some 63, Go.Op.pick (Go.Operand.tmp 59) (Go.Operand.tmp 62) (Go.Operand.const (Go.Value.bool false)), 4, (some (53, false))⟩,
                ⟨some 64, Go.Op.pick (Go.Operand.tmp 53) (Go.Operand.const (Go.Value.bool true)) (Go.Operand.tmp 63), 4, (some (49, true))⟩,
                ⟨some 65, Go.Op.pick (Go.Operand.tmp 49) (Go.Operand.tmp 64) (Go.Operand.const (Go.Value.bool false)), 4, none⟩,
                ⟨some 3, Go.Op.assign (Go.Operand.tmp 65), 4, none⟩])
              (.seq (.region [⟨some 2, Go.Op.assign (Go.Operand.const (Go.Value.int Go.IntKind.i64 9)), 27, none⟩])
              .ret)))))))))))
    (.seq (.seq (.region [⟨some 66, Go.Op.move (Go.Operand.tmp 3), 4, none⟩,
      ⟨some 67, Go.Op.unOp Go.UnOp.not 4 (Go.Operand.tmp 66), 4, none⟩,
      ⟨some 68, Go.Op.move (Go.Operand.tmp 67), 4, none⟩,
      ⟨some 69, Go.Op.fieldAddr 26 (Go.Operand.tmp 1) 0, 0, (some (68, false))⟩,
      ⟨some 70, Go.Op.load 3 (Go.Operand.tmp 69), 3, (some (68, false))⟩,
      ⟨some 71, Go.Op.binOp Go.BinOp.neq 3 (Go.Operand.tmp 70) (Go.Operand.const (Go.Value.int Go.IntKind.i64 2)) 3, 4, (some (68, false))⟩,
      ⟨some 72, Go.Op.move (Go.Operand.tmp 71), 4, (some (68, false))⟩,
      ⟨some 73, Go.Op.fieldAddr 26 (Go.Operand.tmp 1) 1, 0, (some (72, true))⟩,
      ⟨some 74, Go.Op.load 23 (Go.Operand.tmp 73), 23, (some (72, true))⟩,
      ⟨some 75, Go.Op.call { callee := Go.Callee.builtin Go.Builtin.len, args := #[Go.Operand.tmp 74], argTypes := #[23] }, 3, (some (72, true))⟩,
      ⟨some 76, Go.Op.binOp Go.BinOp.gtr 3 (Go.Operand.tmp 75) (Go.Operand.const (Go.Value.int Go.IntKind.i64 0)) 3, 4, (some (72, true))⟩,
      ⟨some 77, Go.Op.pick (Go.Operand.tmp 72) (Go.Operand.tmp 76) (Go.Operand.const (Go.Value.bool false)), 4, (some (68, false))⟩,
      ⟨some 78, Go.Op.pick (Go.Operand.tmp 68) (Go.Operand.const (Go.Value.bool true)) (Go.Operand.tmp 77), 4, none⟩,
      ⟨some 79, Go.Op.move (Go.Operand.tmp 78), 4, none⟩,
      ⟨some 80, Go.Op.fieldAddr 26 (Go.Operand.tmp 1) 0, 0, (some (79, false))⟩,
      ⟨some 81, Go.Op.load 3 (Go.Operand.tmp 80), 3, (some (79, false))⟩,
      ⟨some 82, Go.Op.binOp Go.BinOp.neq 3 (Go.Operand.tmp 81) (Go.Operand.const (Go.Value.int Go.IntKind.i64 5)) 3, 4, (some (79, false))⟩,
      ⟨some 83, Go.Op.move (Go.Operand.tmp 82), 4, (some (79, false))⟩,
      ⟨some 84, Go.Op.fieldAddr 26 (Go.Operand.tmp 1) 3, 0, (some (83, true))⟩,
      ⟨some 85, Go.Op.load 3 (Go.Operand.tmp 84), 3, (some (83, true))⟩,
      ⟨some 86, Go.Op.binOp Go.BinOp.neq 3 (Go.Operand.tmp 85) (Go.Operand.const (Go.Value.int Go.IntKind.i64 0)) 3, 4, (some (83, true))⟩,
      ⟨some 87, Go.Op.move (Go.Operand.tmp 86), 4, (some (83, true))⟩,
      ⟨some 88, Go.Op.fieldAddr 26 (Go.Operand.tmp 1) 4, 0, (some (87, false))⟩,
      ⟨some 89, Go.Op.load 3 (Go.Operand.tmp 88), 3, (some (87, false))⟩,
      ⟨some 90, Go.Op.binOp Go.BinOp.neq 3 (Go.Operand.tmp 89) (Go.Operand.const (Go.Value.int Go.IntKind.i64 0)) 3, 4, (some (87, false))⟩,
      ⟨some 91, Go.Op.pick (Go.Operand.tmp 87) (Go.Operand.const (Go.Value.bool true)) (Go.Operand.tmp 90), 4, (some (83, true))⟩,
      ⟨some 92, Go.Op.pick (Go.Operand.tmp 83) (Go.Operand.tmp 91) (Go.Operand.const (Go.Value.bool false)), 4, (some (79, false))⟩,
      ⟨some 93, Go.Op.pick (Go.Operand.tmp 79) (Go.Operand.const (Go.Value.bool true)) (Go.Operand.tmp 92), 4, none⟩])
    (.cond (Go.Operand.tmp 93)
      (.seq (.region [⟨some 2, Go.Op.assign (Go.Operand.const (Go.Value.int Go.IntKind.i64 1)), 27, none⟩])
      .ret)
      .skip))
    (.seq (.seq (.region [⟨some 94, Go.Op.fieldAddr 26 (Go.Operand.tmp 1) 2, 0, none⟩,
      ⟨some 95, Go.Op.load 24 (Go.Operand.tmp 94), 24, none⟩,
      ⟨some 96, Go.Op.call { callee := Go.Callee.builtin Go.Builtin.len, args := #[Go.Operand.tmp 95], argTypes := #[24] }, 3, none⟩,
      ⟨some 97, Go.Op.move (Go.Operand.const (Go.Value.int Go.IntKind.i64 0)), 3, none⟩])
    (.block 1
      (.loop
        (.seq (.region [⟨some 98, Go.Op.binOp Go.BinOp.lss 3 (Go.Operand.tmp 97) (Go.Operand.tmp 96) 3, 0, none⟩])
        (.seq (.cond (Go.Operand.tmp 98)
          .skip
          (.exit 1))
        (.seq (.block 2
          (.seq (.region [⟨some 99, Go.Op.indexAddr 24 (Go.Operand.tmp 95) (Go.Operand.tmp 97), 0, none⟩,
            ⟨some 100, Go.Op.load 26 (Go.Operand.tmp 99), 26, none⟩,
            ⟨some 5, Go.Op.alloc 26, 0, none⟩,
            ⟨none, Go.Op.store 26 (Go.Operand.tmp 5) (Go.Operand.tmp 100), 0, none⟩])
          (.seq (.region [⟨some 101, Go.Op.load 26 (Go.Operand.tmp 5), 26, none⟩,
            ⟨some 102, Go.Op.call { callee := Go.Callee.value (Go.Operand.func 15), args := #[Go.Operand.tmp 101], argTypes := #[26] }, 27, none⟩,
            ⟨some 6, Go.Op.assign (Go.Operand.tmp 102), 27, none⟩])
          (.seq (.region [⟨some 103, Go.Op.move (Go.Operand.tmp 6), 27, none⟩,
            ⟨some 104, Go.Op.binOp Go.BinOp.neq 27 (Go.Operand.tmp 103) (Go.Operand.const (Go.Value.int Go.IntKind.i64 0)) 27, 4, none⟩])
          (.cond (Go.Operand.tmp 104)
            (.seq (.region [⟨some 105, Go.Op.move (Go.Operand.tmp 6), 27, none⟩,
              ⟨some 2, Go.Op.assign (Go.Operand.tmp 105), 27, none⟩])
            .ret)
            .skip)))))
        (.region [⟨some 106, Go.Op.binOp Go.BinOp.add 3 (Go.Operand.tmp 97) (Go.Operand.const (Go.Value.int Go.IntKind.i64 1)) 3, 3, none⟩,
          ⟨some 97, Go.Op.move (Go.Operand.tmp 106), 3, none⟩])))))))
    (.seq (.region [⟨some 2, Go.Op.assign (Go.Operand.const (Go.Value.int Go.IntKind.i64 0)), 27, none⟩])
    .ret)))))) :=
  ⟨foll, Tryd.f15, Tryd.func15, by kernel_rfl, by kernel_rfl, by kernel_rfl, by rw [Tryd.ntmps15]; decide⟩

/-- narrator.pattern.proper -/
theorem fn23 : FnIs Tryd.prog 23 1 [Go.ResultVar.tmp 2] (.seq (.region [⟨some 2, Go.Op.assign (Go.Operand.const (Go.Value.bool false)), 4, none⟩])
    (.seq (.seq (.region [⟨some 5, Go.Op.move (Go.Operand.tmp 0), 23, none⟩,
      ⟨some 6, Go.Op.call { callee := Go.Callee.builtin Go.Builtin.len, args := #[Go.Operand.tmp 5], argTypes := #[23] }, 3, none⟩,
      ⟨some 7, Go.Op.move (Go.Operand.const (Go.Value.int Go.IntKind.i64 0)), 3, none⟩])
    (.block 0
      (.loop
        (.seq (.region [⟨some 8, Go.Op.binOp Go.BinOp.lss 3 (Go.Operand.tmp 7) (Go.Operand.tmp 6) 3, 0, none⟩])
        (.seq (.cond (Go.Operand.tmp 8)
          .skip
          (.exit 0))
        (.seq (.block 1
          (.seq (.region [⟨some 9, Go.Op.move (Go.Operand.tmp 7), 3, none⟩,
            ⟨some 10, Go.Op.indexAddr 23 (Go.Operand.tmp 5) (Go.Operand.tmp 7), 0, none⟩,
            ⟨some 11, Go.Op.load 48 (Go.Operand.tmp 10), 48, none⟩,
            ⟨some 4, Go.Op.alloc 48, 0, none⟩,
            ⟨some 3, Go.Op.assign (Go.Operand.tmp 9), 3, none⟩,
            ⟨none, Go.Op.store 48 (Go.Operand.tmp 4) (Go.Operand.tmp 11), 0, none⟩])
          (.seq (.seq (.region [⟨some 12, Go.Op.fieldAddr 48 (Go.Operand.tmp 4) 0, 0, none⟩,
            ⟨some 13, Go.Op.load 21 (Go.Operand.tmp 12), 21, none⟩,
            ⟨some 14, Go.Op.call { callee := Go.Callee.value (Go.Operand.func 35), args := #[Go.Operand.tmp 13], argTypes := #[21] }, 4, none⟩,
            ⟨some 15, Go.Op.unOp Go.UnOp.not 4 (Go.Operand.tmp 14), 4, none⟩,
            ⟨some 16, Go.Op.move (Go.Operand.tmp 15), 4, none⟩,
            ⟨some 17, Go.Op.fieldAddr 48 (Go.Operand.tmp 4) 1, 0, (some (16, false))⟩,
            ⟨some 18, Go.Op.load 21 (Go.Operand.tmp 17), 21, (some (16, false))⟩,
            ⟨some 19, Go.Op.call { callee := Go.Callee.value (Go.Operand.func 35), args := #[Go.Operand.tmp 18], argTypes := #[21] }, 4, (some (16, false))⟩,
            ⟨some 20, Go.Op.unOp Go.UnOp.not 4 (Go.Operand.tmp 19), 4, (some (16, false))⟩,
            ⟨some 21, Go.Op.pick (Go.Operand.tmp 16) (Go.Operand.const (Go.Value.bool true)) (Go.Operand.tmp 20), 4, none⟩,
            ⟨some 22, Go.Op.move (Go.Operand.tmp 21), 4, none⟩,
            ⟨some 23, Go.Op.fieldAddr 48 (Go.Operand.tmp 4) 0, 0, (some (22, false))⟩,
            ⟨some 24, Go.Op.load 21 (Go.Operand.tmp 23), 21, (some (22, false))⟩,
            ⟨some 25, Go.Op.fieldAddr 48 (Go.Operand.tmp 4) 1, 0, (some (22, false))⟩,
            ⟨some 26, Go.Op.load 21 (Go.Operand.tmp 25), 21, (some (22, false))⟩,
            ⟨some 27, Go.Op.binOp Go.BinOp.gtr 21 (Go.Operand.tmp 24) (Go.Operand.tmp 26) 21, 4, (some (22, false))⟩,
            ⟨some 28, Go.Op.pick (Go.Operand.tmp 22) (Go.Operand.const (Go.Value.bool true)) (Go.Operand.tmp 27), 4, none⟩,
            ⟨some 29, Go.Op.move (Go.Operand.tmp 28), 4, none⟩,
            ⟨some 30, Go.Op.fieldAddr 48 (Go.Operand.tmp 4) 0, 0, (some (29, false))⟩,
            ⟨some 31, Go.Op.load 21 (Go.Operand.tmp 30), 21, (some (29, false))⟩,
            ⟨some 32, Go.Op.binOp Go.BinOp.lss 21 (Go.Operand.tmp 31) (Go.Operand.const (Go.Value.int Go.IntKind.i32 55296)) 21, 4, (some (29, false))⟩,
            ⟨some 33, Go.Op.fieldAddr 48 (Go.Operand.tmp 4) 1, 0, (some (29, false))⟩,
            ⟨some 34, Go.Op.load 21 (Go.Operand.tmp 33), 21, (some (29, false))⟩,
            ⟨some 35, Go.Op.binOp Go.BinOp.lss 21 (Go.Operand.tmp 34) (Go.Operand.const (Go.Value.int Go.IntKind.i32 55296)) 21, 4, (some (29, false))⟩,
            ⟨some 36, Go.Op.binOp Go.BinOp.neq 4 (Go.Operand.tmp 32) (Go.Operand.tmp 35) 4, 4, (some (29, false))⟩,
            ⟨some 37, Go.Op.pick (Go.Operand.tmp 29) (Go.Operand.const (Go.Value.bool true)) (Go.Operand.tmp 36), 4, none⟩])
          (.cond (Go.Operand.tmp 37)
            (.seq (.region [⟨some 2, Go.Op.assign (Go.Operand.const (Go.Value.bool false)), 4, none⟩])
            .ret)
            .skip))
          (.seq (.draw [⟨⟨some 38, Go.Op.move (Go.Operand.tmp 3), 3, none⟩, false, false, false⟩,
            ⟨⟨some 39, Go.Op.binOp Go.BinOp.gtr 3 (Go.Operand.tmp 38) (Go.Operand.const (Go.Value.int Go.IntKind.i64 0)) 3, 4, none⟩, false, false, false⟩,
            ⟨⟨some 40, Go.Op.move (Go.Operand.tmp 39), 4, none⟩, false, false, false⟩,
            ⟨⟨some 41, Go.Op.fieldAddr 48 (Go.Operand.tmp 4) 0, 0, (some (40, true))⟩, false, false, false⟩,
            ⟨⟨some 42, Go.Op.load 21 (Go.Operand.tmp 41), 21, (some (40, true))⟩, false, false, false⟩,
            ⟨⟨some 43, Go.Op.move (Go.Operand.tmp 0), 23, (some (40, true))⟩, false, false, false⟩,
            ⟨⟨some 44, Go.Op.move (Go.Operand.tmp 3), 3, (some (40, true))⟩, false, false, false⟩,
            ⟨⟨some 45, Go.Op.binOp Go.BinOp.sub 3 (Go.Operand.tmp 44) (Go.Operand.const (Go.Value.int Go.IntKind.i64 1)) 3, 3, (some (40, true))⟩, false, false, false⟩,
            ⟨⟨some 46, Go.Op.indexAddr 23 (Go.Operand.tmp 43) (Go.Operand.tmp 45), 0, (some (40, true))⟩, false, false, false⟩,
            ⟨⟨some 47, Go.Op.fieldAddr 48 (Go.Operand.tmp 46) 1, 0, (some (40, true))⟩, false, false, false⟩,
            ⟨⟨some 48, Go.Op.load 21 (Go.Operand.tmp 47), 21, (some (40, true))⟩, false, false, false⟩,
            ⟨⟨some 49, Go.Op.binOp Go.BinOp.sub 21 (Go.Operand.tmp 42) (Go.Operand.tmp 48) 21, 21, (some (40, true))⟩, false, false, false⟩,
            ⟨⟨some 50, Go.Op.binOp Go.BinOp.lss 21 (Go.Operand.tmp 49) (Go.Operand.const (Go.Value.int Go.IntKind.i32 2)) 21, 4, (some (40, true))⟩, false, false, false⟩,
            ⟨⟨some 51, Go.Op.pick (Go.Operand.tmp 40) (Go.Operand.tmp 50) (Go.Operand.const (Go.Value.bool false)), 4, none⟩, false, false, false⟩])
          (.cond (Go.Operand.tmp 51)
            (.seq (.region [⟨some 2, Go.Op.assign (Go.Operand.const (Go.Value.bool false)), 4, none⟩])
            .ret)
            .skip)))))
        (.region [⟨some 52, Go.Op.binOp Go.BinOp.add 3 (Go.Operand.tmp 7) (Go.Operand.const (Go.Value.int Go.IntKind.i64 1)) 3, 3, none⟩,
          ⟨some 7, Go.Op.move (Go.Operand.tmp 52), 3, none⟩])))))))
    (.seq (.region [⟨some 2, Go.Op.assign (Go.Operand.const (Go.Value.bool true)), 4, none⟩])
    .ret))) :=
  ⟨foll, Tryd.f23, Tryd.func23, by kernel_rfl, by kernel_rfl, by kernel_rfl, by rw [Tryd.ntmps23]; decide⟩

/-- narrator.pattern.character -/
theorem fn35 : FnIs Tryd.prog 35 1 [Go.ResultVar.tmp 2] (.seq (.region [⟨some 2, Go.Op.assign (Go.Operand.const (Go.Value.bool false)), 4, none⟩])
    (.seq (.region [⟨some 3, Go.Op.move (Go.Operand.tmp 0), 21, none⟩,
      ⟨some 4, Go.Op.binOp Go.BinOp.geq 21 (Go.Operand.tmp 3) (Go.Operand.const (Go.Value.int Go.IntKind.i32 0)) 21, 4, none⟩,
      ⟨some 5, Go.Op.move (Go.Operand.tmp 4), 4, none⟩,
      ⟨some 6, Go.Op.move (Go.Operand.tmp 0), 21, (some (5, true))⟩,
      ⟨some 7, Go.Op.binOp Go.BinOp.leq 21 (Go.Operand.tmp 6) (Go.Operand.const (Go.Value.int Go.IntKind.i32 55295)) 21, 4, (some (5, true))⟩,
      ⟨some 8, Go.Op.pick (Go.Operand.tmp 5) (Go.Operand.tmp 7) (Go.Operand.const (Go.Value.bool false)), 4, none⟩,
      ⟨some 9, Go.Op.move (Go.Operand.tmp 8), 4, none⟩,
      ⟨some 10, Go.Op.move (Go.Operand.tmp 0), 21, (some (9, false))⟩,
      ⟨some 11, Go.Op.binOp Go.BinOp.geq 21 (Go.Operand.tmp 10) (Go.Operand.const (Go.Value.int Go.IntKind.i32 57344)) 21, 4, (some (9, false))⟩,
      ⟨some 12, Go.Op.move (Go.Operand.tmp 11), 4, (some (9, false))⟩,
      ⟨some 13, Go.Op.move (Go.Operand.tmp 0), 21, (some (12, true))⟩,
      ⟨some 14, Go.Op.binOp Go.BinOp.leq 21 (Go.Operand.tmp 13) (Go.Operand.const (Go.Value.int Go.IntKind.i32 1114111)) 21, 4, (some (12, true))⟩,
      ⟨some 15, Go.Op.pick (Go.Operand.tmp 12) (Go.Operand.tmp 14) (Go.Operand.const (Go.Value.bool false)), 4, (some (9, false))⟩,
      ⟨some 16, Go.Op.pick (Go.Operand.tmp 9) (Go.Operand.const (Go.Value.bool true)) (Go.Operand.tmp 15), 4, none⟩,
      ⟨some 2, Go.Op.assign (Go.Operand.tmp 16), 4, none⟩])
    .ret)) :=
  ⟨foll, Tryd.f35, Tryd.func35, by kernel_rfl, by kernel_rfl, by kernel_rfl, by rw [Tryd.ntmps35]; decide⟩

end Go.Proofs.YtebejiilpedlmaaDoor
