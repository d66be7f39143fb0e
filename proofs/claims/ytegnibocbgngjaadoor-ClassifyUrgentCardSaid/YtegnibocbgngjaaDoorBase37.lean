/- Facts on the types of this seat's program, and the prepared code of its functions. Written by a program of mine (gen.py) out of what the loaded dump prints. -/
import Derived.Test.YtegnibocbgngjaaDoorProg
import Derived.Test.YtegnibocbgngjaaDoorNvP
import Derived.KernelRfl
set_option linter.unusedVariables false
set_option maxRecDepth 100000
namespace Go.Proofs.YtegnibocbgngjaaDoor
open Go Nv

attribute [go_sem] Tryd.underlying0 Tryd.underlying1 Tryd.underlying2 Tryd.underlying3 Tryd.underlying4 Tryd.underlying5 Tryd.underlying6 Tryd.underlying7 Tryd.underlying8 Tryd.underlying9 Tryd.underlying10 Tryd.underlying11 Tryd.underlying12 Tryd.underlying13 Tryd.underlying14 Tryd.underlying15 Tryd.underlying16 Tryd.underlying17 Tryd.underlying18 Tryd.underlying19 Tryd.underlying20 Tryd.underlying21 Tryd.underlying22 Tryd.underlying23 Tryd.underlying24 Tryd.underlying25 Tryd.underlying26 Tryd.underlying27 Tryd.underlying28 Tryd.underlying29 Tryd.underlying30 Tryd.underlying31 Tryd.underlying32 Tryd.underlying33 Tryd.underlying34 Tryd.underlying35 Tryd.underlying36 Tryd.underlying37 Tryd.underlying38 Tryd.underlying39 Tryd.underlying40 Tryd.underlying41 Tryd.underlying42 Tryd.underlying43 Tryd.underlying44 Tryd.underlying45 Tryd.underlying46 Tryd.underlying47 Tryd.underlying48 Tryd.underlying49 Tryd.underlying50 Tryd.underlying51 Tryd.underlying52 Tryd.underlying53 Tryd.underlying54 Tryd.underlying55 Tryd.underlying56 Tryd.underlying57 Tryd.underlying58 Tryd.underlying59 Tryd.underlying60 Tryd.underlying61 Tryd.underlying62 Tryd.underlying63 Tryd.underlying64 Tryd.underlying65 Tryd.underlying66 Tryd.underlying67 Tryd.underlying68 Tryd.underlying69 Tryd.underlying70 Tryd.underlying71 Tryd.underlying72 Tryd.underlying73 Tryd.underlying74 Tryd.underlying75 Tryd.underlying76 Tryd.underlying77 Tryd.underlying78 Tryd.underlying79 Tryd.underlying80 Tryd.underlying81 Tryd.underlying82 Tryd.underlying83 Tryd.underlying84 Tryd.underlying85 Tryd.underlying86 Tryd.underlying87 Tryd.underlying88 Tryd.underlying89 Tryd.underlying90 Tryd.underlying91 Tryd.underlying92 Tryd.underlying93 Tryd.underlying94 Tryd.underlying95 Tryd.underlying96 Tryd.underlying97 Tryd.underlying98 Tryd.underlying99 Tryd.underlying100 Tryd.underlying101 Tryd.underlying102 Tryd.underlying103 Tryd.underlying104 Tryd.underlying105 Tryd.underlying106 Tryd.underlying107 Tryd.underlying108 Tryd.underlying109 Tryd.underlying110 Tryd.underlying111 Tryd.underlying112 Tryd.underlying113 Tryd.underlying114 Tryd.underlying115 Tryd.underlying116 Tryd.underlying117 Tryd.underlying118 Tryd.underlying119 Tryd.underlying120 Tryd.underlying121 Tryd.underlying122 Tryd.underlying123 Tryd.underlying124 Tryd.underlying125 Tryd.underlying126 Tryd.underlying127 Tryd.underlying128 Tryd.underlying129 Tryd.underlying130 Tryd.underlying131 Tryd.underlying132 Tryd.underlying133 Tryd.underlying134 Tryd.underlying135 Tryd.underlying136 Tryd.underlying137 Tryd.underlying138 Tryd.underlying139 Tryd.underlying140 Tryd.underlying141 Tryd.underlying142 Tryd.underlying143 Tryd.underlying144 Tryd.underlying145 Tryd.underlying146 Tryd.underlying147 Tryd.underlying148 Tryd.underlying149 Tryd.underlying150
@[go_sem] theorem c2 : Tryd.prog.cellsOf 2 = 1 := nrfl (by kernel_rfl)
@[go_sem] theorem by2 : Tryd.prog.bytesOf 2 = 8 := nrfl (by kernel_rfl)
@[go_sem] theorem z2 : zeroA Tryd.prog 2 = (.d (.int .i64 0)) := nrfl (by kernel_rfl)
@[go_sem] theorem c3 : Tryd.prog.cellsOf 3 = 1 := nrfl (by kernel_rfl)
@[go_sem] theorem by3 : Tryd.prog.bytesOf 3 = 8 := nrfl (by kernel_rfl)
@[go_sem] theorem z3 : zeroA Tryd.prog 3 = (.d (.int .i64 0)) := nrfl (by kernel_rfl)
@[go_sem] theorem c4 : Tryd.prog.cellsOf 4 = 1 := nrfl (by kernel_rfl)
@[go_sem] theorem by4 : Tryd.prog.bytesOf 4 = 1 := nrfl (by kernel_rfl)
@[go_sem] theorem z4 : zeroA Tryd.prog 4 = (.d (.bool false)) := nrfl (by kernel_rfl)
@[go_sem] theorem c5 : Tryd.prog.cellsOf 5 = 1 := nrfl (by kernel_rfl)
@[go_sem] theorem by5 : Tryd.prog.bytesOf 5 = 1 := nrfl (by kernel_rfl)
@[go_sem] theorem z5 : zeroA Tryd.prog 5 = (.d (.int .u8 0)) := nrfl (by kernel_rfl)
@[go_sem] theorem c6 : Tryd.prog.cellsOf 6 = 1 := nrfl (by kernel_rfl)
@[go_sem] theorem by6 : Tryd.prog.bytesOf 6 = 1 := nrfl (by kernel_rfl)
@[go_sem] theorem z6 : zeroA Tryd.prog 6 = (.d (.int .u8 0)) := nrfl (by kernel_rfl)
@[go_sem] theorem c7 : Tryd.prog.cellsOf 7 = 4 := nrfl (by kernel_rfl)
@[go_sem] theorem by7 : Tryd.prog.bytesOf 7 = 24 := nrfl (by kernel_rfl)
@[go_sem] theorem z7 : zeroA Tryd.prog 7 = (.agg [(.d (.int .i64 0)), (.d (.int .i64 0)), (.d (.bool false)), (.d (.int .u8 0))]) := nrfl (by kernel_rfl)
@[go_sem] theorem sp7 : structPlaces Tryd.prog 7 = some [(0, 1), (1, 1), (2, 1), (3, 1)] := nrfl (by kernel_rfl)
@[go_sem] theorem fo7_0 : fieldOff Tryd.prog 7 0 = some (0, 2) := by kernel_rfl
@[go_sem] theorem fo7_1 : fieldOff Tryd.prog 7 1 = some (1, 3) := by kernel_rfl
@[go_sem] theorem fo7_2 : fieldOff Tryd.prog 7 2 = some (2, 4) := by kernel_rfl
@[go_sem] theorem fo7_3 : fieldOff Tryd.prog 7 3 = some (3, 6) := by kernel_rfl
@[go_sem] theorem c8 : Tryd.prog.cellsOf 8 = 4 := nrfl (by kernel_rfl)
@[go_sem] theorem by8 : Tryd.prog.bytesOf 8 = 24 := nrfl (by kernel_rfl)
@[go_sem] theorem z8 : zeroA Tryd.prog 8 = (.agg [(.d (.int .i64 0)), (.d (.int .i64 0)), (.d (.bool false)), (.d (.int .u8 0))]) := nrfl (by kernel_rfl)
@[go_sem] theorem sp8 : structPlaces Tryd.prog 8 = some [(0, 1), (1, 1), (2, 1), (3, 1)] := nrfl (by kernel_rfl)
@[go_sem] theorem fo8_0 : fieldOff Tryd.prog 8 0 = some (0, 2) := by kernel_rfl
@[go_sem] theorem fo8_1 : fieldOff Tryd.prog 8 1 = some (1, 3) := by kernel_rfl
@[go_sem] theorem fo8_2 : fieldOff Tryd.prog 8 2 = some (2, 4) := by kernel_rfl
@[go_sem] theorem fo8_3 : fieldOff Tryd.prog 8 3 = some (3, 6) := by kernel_rfl
@[go_sem] theorem c9 : Tryd.prog.cellsOf 9 = 1 := nrfl (by kernel_rfl)
@[go_sem] theorem by9 : Tryd.prog.bytesOf 9 = 16 := nrfl (by kernel_rfl)
@[go_sem] theorem z9 : zeroA Tryd.prog 9 = (.d (.str [])) := nrfl (by kernel_rfl)
@[go_sem] theorem c10 : Tryd.prog.cellsOf 10 = 1 := nrfl (by kernel_rfl)
@[go_sem] theorem by10 : Tryd.prog.bytesOf 10 = 16 := nrfl (by kernel_rfl)
@[go_sem] theorem z10 : zeroA Tryd.prog 10 = (.d (.str [])) := nrfl (by kernel_rfl)
@[go_sem] theorem c11 : Tryd.prog.cellsOf 11 = 1 := nrfl (by kernel_rfl)
@[go_sem] theorem by11 : Tryd.prog.bytesOf 11 = 16 := nrfl (by kernel_rfl)
@[go_sem] theorem z11 : zeroA Tryd.prog 11 = (.d (.str [])) := nrfl (by kernel_rfl)
@[go_sem] theorem c12 : Tryd.prog.cellsOf 12 = 1 := nrfl (by kernel_rfl)
@[go_sem] theorem by12 : Tryd.prog.bytesOf 12 = 8 := nrfl (by kernel_rfl)
@[go_sem] theorem z12 : zeroA Tryd.prog 12 = (.d (.int .u64 0)) := nrfl (by kernel_rfl)
@[go_sem] theorem c13 : Tryd.prog.cellsOf 13 = 2 := nrfl (by kernel_rfl)
@[go_sem] theorem by13 : Tryd.prog.bytesOf 13 = 24 := nrfl (by kernel_rfl)
@[go_sem] theorem z13 : zeroA Tryd.prog 13 = (.agg [(.d (.str [])), (.d (.int .u64 0))]) := nrfl (by kernel_rfl)
@[go_sem] theorem sp13 : structPlaces Tryd.prog 13 = some [(0, 1), (1, 1)] := nrfl (by kernel_rfl)
@[go_sem] theorem fo13_0 : fieldOff Tryd.prog 13 0 = some (0, 9) := by kernel_rfl
@[go_sem] theorem fo13_1 : fieldOff Tryd.prog 13 1 = some (1, 12) := by kernel_rfl
@[go_sem] theorem c14 : Tryd.prog.cellsOf 14 = 2 := nrfl (by kernel_rfl)
@[go_sem] theorem by14 : Tryd.prog.bytesOf 14 = 24 := nrfl (by kernel_rfl)
@[go_sem] theorem z14 : zeroA Tryd.prog 14 = (.agg [(.d (.str [])), (.d (.int .u64 0))]) := nrfl (by kernel_rfl)
@[go_sem] theorem sp14 : structPlaces Tryd.prog 14 = some [(0, 1), (1, 1)] := nrfl (by kernel_rfl)
@[go_sem] theorem fo14_0 : fieldOff Tryd.prog 14 0 = some (0, 9) := by kernel_rfl
@[go_sem] theorem fo14_1 : fieldOff Tryd.prog 14 1 = some (1, 12) := by kernel_rfl
@[go_sem] theorem c15 : Tryd.prog.cellsOf 15 = 1 := nrfl (by kernel_rfl)
@[go_sem] theorem by15 : Tryd.prog.bytesOf 15 = 8 := nrfl (by kernel_rfl)
@[go_sem] theorem z15 : zeroA Tryd.prog 15 = (.d .nilptr) := nrfl (by kernel_rfl)
@[go_sem] theorem c16 : Tryd.prog.cellsOf 16 = 1 := nrfl (by kernel_rfl)
@[go_sem] theorem by16 : Tryd.prog.bytesOf 16 = 8 := nrfl (by kernel_rfl)
@[go_sem] theorem z16 : zeroA Tryd.prog 16 = (.d .nilptr) := nrfl (by kernel_rfl)
@[go_sem] theorem c17 : Tryd.prog.cellsOf 17 = 1 := nrfl (by kernel_rfl)
@[go_sem] theorem by17 : Tryd.prog.bytesOf 17 = 8 := nrfl (by kernel_rfl)
@[go_sem] theorem z17 : zeroA Tryd.prog 17 = (.d .nilptr) := nrfl (by kernel_rfl)
@[go_sem] theorem c18 : Tryd.prog.cellsOf 18 = 1 := nrfl (by kernel_rfl)
@[go_sem] theorem by18 : Tryd.prog.bytesOf 18 = 8 := nrfl (by kernel_rfl)
@[go_sem] theorem z18 : zeroA Tryd.prog 18 = (.agg [(.d .nilptr)]) := nrfl (by kernel_rfl)
@[go_sem] theorem sp18 : structPlaces Tryd.prog 18 = some [(0, 1)] := nrfl (by kernel_rfl)
@[go_sem] theorem fo18_0 : fieldOff Tryd.prog 18 0 = some (0, 17) := by kernel_rfl
@[go_sem] theorem c19 : Tryd.prog.cellsOf 19 = 1 := nrfl (by kernel_rfl)
@[go_sem] theorem by19 : Tryd.prog.bytesOf 19 = 8 := nrfl (by kernel_rfl)
@[go_sem] theorem z19 : zeroA Tryd.prog 19 = (.agg [(.d .nilptr)]) := nrfl (by kernel_rfl)
@[go_sem] theorem sp19 : structPlaces Tryd.prog 19 = some [(0, 1)] := nrfl (by kernel_rfl)
@[go_sem] theorem fo19_0 : fieldOff Tryd.prog 19 0 = some (0, 17) := by kernel_rfl
@[go_sem] theorem c20 : Tryd.prog.cellsOf 20 = 1 := nrfl (by kernel_rfl)
@[go_sem] theorem by20 : Tryd.prog.bytesOf 20 = 16 := nrfl (by kernel_rfl)
@[go_sem] theorem z20 : zeroA Tryd.prog 20 = (.d .niliface) := nrfl (by kernel_rfl)
@[go_sem] theorem c21 : Tryd.prog.cellsOf 21 = 1 := nrfl (by kernel_rfl)
@[go_sem] theorem by21 : Tryd.prog.bytesOf 21 = 4 := nrfl (by kernel_rfl)
@[go_sem] theorem z21 : zeroA Tryd.prog 21 = (.d (.int .i32 0)) := nrfl (by kernel_rfl)
@[go_sem] theorem c22 : Tryd.prog.cellsOf 22 = 1 := nrfl (by kernel_rfl)
@[go_sem] theorem by22 : Tryd.prog.bytesOf 22 = 24 := nrfl (by kernel_rfl)
@[go_sem] theorem z22 : zeroA Tryd.prog 22 = (.d .nilslice) := nrfl (by kernel_rfl)
@[go_sem] theorem c24 : Tryd.prog.cellsOf 24 = 3 := nrfl (by kernel_rfl)
@[go_sem] theorem by24 : Tryd.prog.bytesOf 24 = 24 := nrfl (by kernel_rfl)
@[go_sem] theorem z24 : zeroA Tryd.prog 24 = (.agg [(.d (.int .i64 0)), (.d (.int .i64 0)), (.d (.int .i64 0))]) := nrfl (by kernel_rfl)
@[go_sem] theorem sp24 : structPlaces Tryd.prog 24 = some [(0, 1), (1, 1), (2, 1)] := nrfl (by kernel_rfl)
@[go_sem] theorem fo24_0 : fieldOff Tryd.prog 24 0 = some (0, 3) := by kernel_rfl
@[go_sem] theorem fo24_1 : fieldOff Tryd.prog 24 1 = some (1, 3) := by kernel_rfl
@[go_sem] theorem fo24_2 : fieldOff Tryd.prog 24 2 = some (2, 3) := by kernel_rfl
@[go_sem] theorem sk24 : structKinds Tryd.prog 24 = some [0, 0, 0] := nrfl (by kernel_rfl)
@[go_sem] theorem c25 : Tryd.prog.cellsOf 25 = 3 := nrfl (by kernel_rfl)
@[go_sem] theorem by25 : Tryd.prog.bytesOf 25 = 24 := nrfl (by kernel_rfl)
@[go_sem] theorem z25 : zeroA Tryd.prog 25 = (.agg [(.d (.int .i64 0)), (.d (.int .i64 0)), (.d (.int .i64 0))]) := nrfl (by kernel_rfl)
@[go_sem] theorem sp25 : structPlaces Tryd.prog 25 = some [(0, 1), (1, 1), (2, 1)] := nrfl (by kernel_rfl)
@[go_sem] theorem fo25_0 : fieldOff Tryd.prog 25 0 = some (0, 3) := by kernel_rfl
@[go_sem] theorem fo25_1 : fieldOff Tryd.prog 25 1 = some (1, 3) := by kernel_rfl
@[go_sem] theorem fo25_2 : fieldOff Tryd.prog 25 2 = some (2, 3) := by kernel_rfl
@[go_sem] theorem sk25 : structKinds Tryd.prog 25 = some [0, 0, 0] := nrfl (by kernel_rfl)
@[go_sem] theorem c28 : Tryd.prog.cellsOf 28 = 6 := nrfl (by kernel_rfl)
@[go_sem] theorem by28 : Tryd.prog.bytesOf 28 = 64 := nrfl (by kernel_rfl)
@[go_sem] theorem z28 : zeroA Tryd.prog 28 = (.agg [(.d (.str [])), (.d (.str [])), (.d (.int .i64 0)), (.d (.int .i64 0)), (.d (.int .i64 0)), (.d (.int .i64 0))]) := nrfl (by kernel_rfl)
@[go_sem] theorem sp28 : structPlaces Tryd.prog 28 = some [(0, 1), (1, 1), (2, 1), (3, 1), (4, 1), (5, 1)] := nrfl (by kernel_rfl)
@[go_sem] theorem fo28_0 : fieldOff Tryd.prog 28 0 = some (0, 9) := by kernel_rfl
@[go_sem] theorem fo28_1 : fieldOff Tryd.prog 28 1 = some (1, 9) := by kernel_rfl
@[go_sem] theorem fo28_2 : fieldOff Tryd.prog 28 2 = some (2, 3) := by kernel_rfl
@[go_sem] theorem fo28_3 : fieldOff Tryd.prog 28 3 = some (3, 3) := by kernel_rfl
@[go_sem] theorem fo28_4 : fieldOff Tryd.prog 28 4 = some (4, 3) := by kernel_rfl
@[go_sem] theorem fo28_5 : fieldOff Tryd.prog 28 5 = some (5, 3) := by kernel_rfl
@[go_sem] theorem sk28 : structKinds Tryd.prog 28 = some [2, 2, 0, 0, 0, 0] := nrfl (by kernel_rfl)
@[go_sem] theorem c29 : Tryd.prog.cellsOf 29 = 6 := nrfl (by kernel_rfl)
@[go_sem] theorem by29 : Tryd.prog.bytesOf 29 = 64 := nrfl (by kernel_rfl)
@[go_sem] theorem z29 : zeroA Tryd.prog 29 = (.agg [(.d (.str [])), (.d (.str [])), (.d (.int .i64 0)), (.d (.int .i64 0)), (.d (.int .i64 0)), (.d (.int .i64 0))]) := nrfl (by kernel_rfl)
@[go_sem] theorem sp29 : structPlaces Tryd.prog 29 = some [(0, 1), (1, 1), (2, 1), (3, 1), (4, 1), (5, 1)] := nrfl (by kernel_rfl)
@[go_sem] theorem fo29_0 : fieldOff Tryd.prog 29 0 = some (0, 9) := by kernel_rfl
@[go_sem] theorem fo29_1 : fieldOff Tryd.prog 29 1 = some (1, 9) := by kernel_rfl
@[go_sem] theorem fo29_2 : fieldOff Tryd.prog 29 2 = some (2, 3) := by kernel_rfl
@[go_sem] theorem fo29_3 : fieldOff Tryd.prog 29 3 = some (3, 3) := by kernel_rfl
@[go_sem] theorem fo29_4 : fieldOff Tryd.prog 29 4 = some (4, 3) := by kernel_rfl
@[go_sem] theorem fo29_5 : fieldOff Tryd.prog 29 5 = some (5, 3) := by kernel_rfl
@[go_sem] theorem sk29 : structKinds Tryd.prog 29 = some [2, 2, 0, 0, 0, 0] := nrfl (by kernel_rfl)
@[go_sem] theorem c30 : Tryd.prog.cellsOf 30 = 1 := nrfl (by kernel_rfl)
@[go_sem] theorem by30 : Tryd.prog.bytesOf 30 = 24 := nrfl (by kernel_rfl)
@[go_sem] theorem z30 : zeroA Tryd.prog 30 = (.d .nilslice) := nrfl (by kernel_rfl)
@[go_sem] theorem c32 : Tryd.prog.cellsOf 32 = 1 := nrfl (by kernel_rfl)
@[go_sem] theorem by32 : Tryd.prog.bytesOf 32 = 24 := nrfl (by kernel_rfl)
@[go_sem] theorem z32 : zeroA Tryd.prog 32 = (.d .nilslice) := nrfl (by kernel_rfl)
@[go_sem] theorem c37 : Tryd.prog.cellsOf 37 = 1 := nrfl (by kernel_rfl)
@[go_sem] theorem by37 : Tryd.prog.bytesOf 37 = 8 := nrfl (by kernel_rfl)
@[go_sem] theorem z37 : zeroA Tryd.prog 37 = (.d (.int .i64 0)) := nrfl (by kernel_rfl)
@[go_sem] theorem c41 : Tryd.prog.cellsOf 41 = 3 := nrfl (by kernel_rfl)
@[go_sem] theorem by41 : Tryd.prog.bytesOf 41 = 32 := nrfl (by kernel_rfl)
@[go_sem] theorem z41 : zeroA Tryd.prog 41 = (.agg [(.d (.str [])), (.d (.bool false)), (.d (.int .i64 0))]) := nrfl (by kernel_rfl)
@[go_sem] theorem sp41 : structPlaces Tryd.prog 41 = some [(0, 1), (1, 1), (2, 1)] := nrfl (by kernel_rfl)
@[go_sem] theorem fo41_0 : fieldOff Tryd.prog 41 0 = some (0, 9) := by kernel_rfl
@[go_sem] theorem fo41_1 : fieldOff Tryd.prog 41 1 = some (1, 4) := by kernel_rfl
@[go_sem] theorem fo41_2 : fieldOff Tryd.prog 41 2 = some (2, 3) := by kernel_rfl
@[go_sem] theorem sk41 : structKinds Tryd.prog 41 = some [2, 1, 0] := nrfl (by kernel_rfl)
@[go_sem] theorem c42 : Tryd.prog.cellsOf 42 = 3 := nrfl (by kernel_rfl)
@[go_sem] theorem by42 : Tryd.prog.bytesOf 42 = 32 := nrfl (by kernel_rfl)
@[go_sem] theorem z42 : zeroA Tryd.prog 42 = (.agg [(.d (.str [])), (.d (.bool false)), (.d (.int .i64 0))]) := nrfl (by kernel_rfl)
@[go_sem] theorem sp42 : structPlaces Tryd.prog 42 = some [(0, 1), (1, 1), (2, 1)] := nrfl (by kernel_rfl)
@[go_sem] theorem fo42_0 : fieldOff Tryd.prog 42 0 = some (0, 9) := by kernel_rfl
@[go_sem] theorem fo42_1 : fieldOff Tryd.prog 42 1 = some (1, 4) := by kernel_rfl
@[go_sem] theorem fo42_2 : fieldOff Tryd.prog 42 2 = some (2, 3) := by kernel_rfl
@[go_sem] theorem sk42 : structKinds Tryd.prog 42 = some [2, 1, 0] := nrfl (by kernel_rfl)
@[go_sem] theorem c43 : Tryd.prog.cellsOf 43 = 1 := nrfl (by kernel_rfl)
@[go_sem] theorem by43 : Tryd.prog.bytesOf 43 = 8 := nrfl (by kernel_rfl)
@[go_sem] theorem z43 : zeroA Tryd.prog 43 = (.d .nilmap) := nrfl (by kernel_rfl)
@[go_sem] theorem c48 : Tryd.prog.cellsOf 48 = 1 := nrfl (by kernel_rfl)
@[go_sem] theorem by48 : Tryd.prog.bytesOf 48 = 24 := nrfl (by kernel_rfl)
@[go_sem] theorem z48 : zeroA Tryd.prog 48 = (.d .nilslice) := nrfl (by kernel_rfl)
@[go_sem] theorem c49 : Tryd.prog.cellsOf 49 = 1 := nrfl (by kernel_rfl)
@[go_sem] theorem by49 : Tryd.prog.bytesOf 49 = 24 := nrfl (by kernel_rfl)
@[go_sem] theorem z49 : zeroA Tryd.prog 49 = (.d .nilslice) := nrfl (by kernel_rfl)
@[go_sem] theorem c50 : Tryd.prog.cellsOf 50 = 5 := nrfl (by kernel_rfl)
@[go_sem] theorem by50 : Tryd.prog.bytesOf 50 = 72 := nrfl (by kernel_rfl)
@[go_sem] theorem z50 : zeroA Tryd.prog 50 = (.agg [(.d (.int .i64 0)), (.d .nilslice), (.d .nilslice), (.d (.int .i64 0)), (.d (.int .i64 0))]) := nrfl (by kernel_rfl)
@[go_sem] theorem sp50 : structPlaces Tryd.prog 50 = some [(0, 1), (1, 1), (2, 1), (3, 1), (4, 1)] := nrfl (by kernel_rfl)
@[go_sem] theorem fo50_0 : fieldOff Tryd.prog 50 0 = some (0, 3) := by kernel_rfl
@[go_sem] theorem fo50_1 : fieldOff Tryd.prog 50 1 = some (1, 48) := by kernel_rfl
@[go_sem] theorem fo50_2 : fieldOff Tryd.prog 50 2 = some (2, 49) := by kernel_rfl
@[go_sem] theorem fo50_3 : fieldOff Tryd.prog 50 3 = some (3, 3) := by kernel_rfl
@[go_sem] theorem fo50_4 : fieldOff Tryd.prog 50 4 = some (4, 3) := by kernel_rfl
@[go_sem] theorem c51 : Tryd.prog.cellsOf 51 = 5 := nrfl (by kernel_rfl)
@[go_sem] theorem by51 : Tryd.prog.bytesOf 51 = 72 := nrfl (by kernel_rfl)
@[go_sem] theorem z51 : zeroA Tryd.prog 51 = (.agg [(.d (.int .i64 0)), (.d .nilslice), (.d .nilslice), (.d (.int .i64 0)), (.d (.int .i64 0))]) := nrfl (by kernel_rfl)
@[go_sem] theorem sp51 : structPlaces Tryd.prog 51 = some [(0, 1), (1, 1), (2, 1), (3, 1), (4, 1)] := nrfl (by kernel_rfl)
@[go_sem] theorem fo51_0 : fieldOff Tryd.prog 51 0 = some (0, 3) := by kernel_rfl
@[go_sem] theorem fo51_1 : fieldOff Tryd.prog 51 1 = some (1, 48) := by kernel_rfl
@[go_sem] theorem fo51_2 : fieldOff Tryd.prog 51 2 = some (2, 49) := by kernel_rfl
@[go_sem] theorem fo51_3 : fieldOff Tryd.prog 51 3 = some (3, 3) := by kernel_rfl
@[go_sem] theorem fo51_4 : fieldOff Tryd.prog 51 4 = some (4, 3) := by kernel_rfl
@[go_sem] theorem c56 : Tryd.prog.cellsOf 56 = 1 := nrfl (by kernel_rfl)
@[go_sem] theorem by56 : Tryd.prog.bytesOf 56 = 8 := nrfl (by kernel_rfl)
@[go_sem] theorem z56 : zeroA Tryd.prog 56 = (.d .nilptr) := nrfl (by kernel_rfl)
@[go_sem] theorem c57 : Tryd.prog.cellsOf 57 = 1 := nrfl (by kernel_rfl)
@[go_sem] theorem by57 : Tryd.prog.bytesOf 57 = 24 := nrfl (by kernel_rfl)
@[go_sem] theorem z57 : zeroA Tryd.prog 57 = (.d .nilslice) := nrfl (by kernel_rfl)
@[go_sem] theorem c58 : Tryd.prog.cellsOf 58 = 2 := nrfl (by kernel_rfl)
@[go_sem] theorem by58 : Tryd.prog.bytesOf 58 = 32 := nrfl (by kernel_rfl)
@[go_sem] theorem z58 : zeroA Tryd.prog 58 = (.agg [(.d .nilptr), (.d .nilslice)]) := nrfl (by kernel_rfl)
@[go_sem] theorem sp58 : structPlaces Tryd.prog 58 = some [(0, 1), (1, 1)] := nrfl (by kernel_rfl)
@[go_sem] theorem fo58_0 : fieldOff Tryd.prog 58 0 = some (0, 56) := by kernel_rfl
@[go_sem] theorem fo58_1 : fieldOff Tryd.prog 58 1 = some (1, 57) := by kernel_rfl
@[go_sem] theorem c59 : Tryd.prog.cellsOf 59 = 2 := nrfl (by kernel_rfl)
@[go_sem] theorem by59 : Tryd.prog.bytesOf 59 = 32 := nrfl (by kernel_rfl)
@[go_sem] theorem z59 : zeroA Tryd.prog 59 = (.agg [(.d .nilptr), (.d .nilslice)]) := nrfl (by kernel_rfl)
@[go_sem] theorem sp59 : structPlaces Tryd.prog 59 = some [(0, 1), (1, 1)] := nrfl (by kernel_rfl)
@[go_sem] theorem fo59_0 : fieldOff Tryd.prog 59 0 = some (0, 56) := by kernel_rfl
@[go_sem] theorem fo59_1 : fieldOff Tryd.prog 59 1 = some (1, 57) := by kernel_rfl
@[go_sem] theorem c60 : Tryd.prog.cellsOf 60 = 1 := nrfl (by kernel_rfl)
@[go_sem] theorem by60 : Tryd.prog.bytesOf 60 = 16 := nrfl (by kernel_rfl)
@[go_sem] theorem z60 : zeroA Tryd.prog 60 = (.d .niliface) := nrfl (by kernel_rfl)
@[go_sem] theorem c61 : Tryd.prog.cellsOf 61 = 1 := nrfl (by kernel_rfl)
@[go_sem] theorem by61 : Tryd.prog.bytesOf 61 = 16 := nrfl (by kernel_rfl)
@[go_sem] theorem z61 : zeroA Tryd.prog 61 = (.d .niliface) := nrfl (by kernel_rfl)
@[go_sem] theorem c66 : Tryd.prog.cellsOf 66 = 0 := nrfl (by kernel_rfl)
@[go_sem] theorem by66 : Tryd.prog.bytesOf 66 = 0 := nrfl (by kernel_rfl)
@[go_sem] theorem z66 : zeroA Tryd.prog 66 = (.agg []) := nrfl (by kernel_rfl)
@[go_sem] theorem sp66 : structPlaces Tryd.prog 66 = some [] := nrfl (by kernel_rfl)
@[go_sem] theorem c67 : Tryd.prog.cellsOf 67 = 0 := nrfl (by kernel_rfl)
@[go_sem] theorem by67 : Tryd.prog.bytesOf 67 = 0 := nrfl (by kernel_rfl)
@[go_sem] theorem z67 : zeroA Tryd.prog 67 = (.agg []) := nrfl (by kernel_rfl)
@[go_sem] theorem sp67 : structPlaces Tryd.prog 67 = some [] := nrfl (by kernel_rfl)
@[go_sem] theorem c69 : Tryd.prog.cellsOf 69 = 1 := nrfl (by kernel_rfl)
@[go_sem] theorem by69 : Tryd.prog.bytesOf 69 = 8 := nrfl (by kernel_rfl)
@[go_sem] theorem z69 : zeroA Tryd.prog 69 = (.d .nilptr) := nrfl (by kernel_rfl)
@[go_sem] theorem c70 : Tryd.prog.cellsOf 70 = 1 := nrfl (by kernel_rfl)
@[go_sem] theorem by70 : Tryd.prog.bytesOf 70 = 24 := nrfl (by kernel_rfl)
@[go_sem] theorem z70 : zeroA Tryd.prog 70 = (.d .nilslice) := nrfl (by kernel_rfl)
@[go_sem] theorem c71 : Tryd.prog.cellsOf 71 = 2 := nrfl (by kernel_rfl)
@[go_sem] theorem by71 : Tryd.prog.bytesOf 71 = 32 := nrfl (by kernel_rfl)
@[go_sem] theorem z71 : zeroA Tryd.prog 71 = (.agg [(.d .nilslice), (.d (.int .i64 0))]) := nrfl (by kernel_rfl)
@[go_sem] theorem sp71 : structPlaces Tryd.prog 71 = some [(0, 1), (1, 1)] := nrfl (by kernel_rfl)
@[go_sem] theorem fo71_0 : fieldOff Tryd.prog 71 0 = some (0, 70) := by kernel_rfl
@[go_sem] theorem fo71_1 : fieldOff Tryd.prog 71 1 = some (1, 3) := by kernel_rfl
@[go_sem] theorem c72 : Tryd.prog.cellsOf 72 = 2 := nrfl (by kernel_rfl)
@[go_sem] theorem by72 : Tryd.prog.bytesOf 72 = 32 := nrfl (by kernel_rfl)
@[go_sem] theorem z72 : zeroA Tryd.prog 72 = (.agg [(.d .nilslice), (.d (.int .i64 0))]) := nrfl (by kernel_rfl)
@[go_sem] theorem sp72 : structPlaces Tryd.prog 72 = some [(0, 1), (1, 1)] := nrfl (by kernel_rfl)
@[go_sem] theorem fo72_0 : fieldOff Tryd.prog 72 0 = some (0, 70) := by kernel_rfl
@[go_sem] theorem fo72_1 : fieldOff Tryd.prog 72 1 = some (1, 3) := by kernel_rfl
@[go_sem] theorem c79 : Tryd.prog.cellsOf 79 = 1 := nrfl (by kernel_rfl)
@[go_sem] theorem by79 : Tryd.prog.bytesOf 79 = 24 := nrfl (by kernel_rfl)
@[go_sem] theorem z79 : zeroA Tryd.prog 79 = (.d .nilslice) := nrfl (by kernel_rfl)
@[go_sem] theorem c81 : Tryd.prog.cellsOf 81 = 1 := nrfl (by kernel_rfl)
@[go_sem] theorem by81 : Tryd.prog.bytesOf 81 = 8 := nrfl (by kernel_rfl)
@[go_sem] theorem z81 : zeroA Tryd.prog 81 = (.d .nilptr) := nrfl (by kernel_rfl)
@[go_sem] theorem c85 : Tryd.prog.cellsOf 85 = 4 := nrfl (by kernel_rfl)
@[go_sem] theorem by85 : Tryd.prog.bytesOf 85 = 24 := nrfl (by kernel_rfl)
@[go_sem] theorem z85 : zeroA Tryd.prog 85 = (.agg [(.d (.int .i32 0)), (.d (.int .i64 0)), (.d (.int .u8 0)), (.d (.int .u8 0))]) := nrfl (by kernel_rfl)
@[go_sem] theorem sp85 : structPlaces Tryd.prog 85 = some [(0, 1), (1, 1), (2, 1), (3, 1)] := nrfl (by kernel_rfl)
@[go_sem] theorem fo85_0 : fieldOff Tryd.prog 85 0 = some (0, 21) := by kernel_rfl
@[go_sem] theorem fo85_1 : fieldOff Tryd.prog 85 1 = some (1, 3) := by kernel_rfl
@[go_sem] theorem fo85_2 : fieldOff Tryd.prog 85 2 = some (2, 5) := by kernel_rfl
@[go_sem] theorem fo85_3 : fieldOff Tryd.prog 85 3 = some (3, 5) := by kernel_rfl
@[go_sem] theorem sk85 : structKinds Tryd.prog 85 = some [0, 0, 0, 0] := nrfl (by kernel_rfl)
@[go_sem] theorem c86 : Tryd.prog.cellsOf 86 = 4 := nrfl (by kernel_rfl)
@[go_sem] theorem by86 : Tryd.prog.bytesOf 86 = 24 := nrfl (by kernel_rfl)
@[go_sem] theorem z86 : zeroA Tryd.prog 86 = (.agg [(.d (.int .i32 0)), (.d (.int .i64 0)), (.d (.int .u8 0)), (.d (.int .u8 0))]) := nrfl (by kernel_rfl)
@[go_sem] theorem sp86 : structPlaces Tryd.prog 86 = some [(0, 1), (1, 1), (2, 1), (3, 1)] := nrfl (by kernel_rfl)
@[go_sem] theorem fo86_0 : fieldOff Tryd.prog 86 0 = some (0, 21) := by kernel_rfl
@[go_sem] theorem fo86_1 : fieldOff Tryd.prog 86 1 = some (1, 3) := by kernel_rfl
@[go_sem] theorem fo86_2 : fieldOff Tryd.prog 86 2 = some (2, 5) := by kernel_rfl
@[go_sem] theorem fo86_3 : fieldOff Tryd.prog 86 3 = some (3, 5) := by kernel_rfl
@[go_sem] theorem sk86 : structKinds Tryd.prog 86 = some [0, 0, 0, 0] := nrfl (by kernel_rfl)
@[go_sem] theorem c87 : Tryd.prog.cellsOf 87 = 1 := nrfl (by kernel_rfl)
@[go_sem] theorem by87 : Tryd.prog.bytesOf 87 = 8 := nrfl (by kernel_rfl)
@[go_sem] theorem z87 : zeroA Tryd.prog 87 = (.d (.int .u64 0)) := nrfl (by kernel_rfl)
@[go_sem] theorem c90 : Tryd.prog.cellsOf 90 = 2 := nrfl (by kernel_rfl)
@[go_sem] theorem by90 : Tryd.prog.bytesOf 90 = 8 := nrfl (by kernel_rfl)
@[go_sem] theorem z90 : zeroA Tryd.prog 90 = (.agg [(.d (.int .i32 0)), (.d (.int .i32 0))]) := nrfl (by kernel_rfl)
@[go_sem] theorem sp90 : structPlaces Tryd.prog 90 = some [(0, 1), (1, 1)] := nrfl (by kernel_rfl)
@[go_sem] theorem fo90_0 : fieldOff Tryd.prog 90 0 = some (0, 21) := by kernel_rfl
@[go_sem] theorem fo90_1 : fieldOff Tryd.prog 90 1 = some (1, 21) := by kernel_rfl
@[go_sem] theorem sk90 : structKinds Tryd.prog 90 = some [0, 0] := nrfl (by kernel_rfl)
@[go_sem] theorem c91 : Tryd.prog.cellsOf 91 = 2 := nrfl (by kernel_rfl)
@[go_sem] theorem by91 : Tryd.prog.bytesOf 91 = 8 := nrfl (by kernel_rfl)
@[go_sem] theorem z91 : zeroA Tryd.prog 91 = (.agg [(.d (.int .i32 0)), (.d (.int .i32 0))]) := nrfl (by kernel_rfl)
@[go_sem] theorem sp91 : structPlaces Tryd.prog 91 = some [(0, 1), (1, 1)] := nrfl (by kernel_rfl)
@[go_sem] theorem fo91_0 : fieldOff Tryd.prog 91 0 = some (0, 21) := by kernel_rfl
@[go_sem] theorem fo91_1 : fieldOff Tryd.prog 91 1 = some (1, 21) := by kernel_rfl
@[go_sem] theorem sk91 : structKinds Tryd.prog 91 = some [0, 0] := nrfl (by kernel_rfl)
@[go_sem] theorem c95 : Tryd.prog.cellsOf 95 = 1 := nrfl (by kernel_rfl)
@[go_sem] theorem by95 : Tryd.prog.bytesOf 95 = 8 := nrfl (by kernel_rfl)
@[go_sem] theorem z95 : zeroA Tryd.prog 95 = (.d .nilptr) := nrfl (by kernel_rfl)
@[go_sem] theorem c98 : Tryd.prog.cellsOf 98 = 256 := nrfl (by kernel_rfl)
@[go_sem] theorem by98 : Tryd.prog.bytesOf 98 = 256 := nrfl (by kernel_rfl)
@[go_sem] theorem z98 : zeroA Tryd.prog 98 = (.agg [(.d (.int .u8 0)), (.d (.int .u8 0)), (.d (.int .u8 0)), (.d (.int .u8 0)), (.d (.int .u8 0)), (.d (.int .u8 0)), (.d (.int .u8 0)), (.d (.int .u8 0)), (.d (.int .u8 0)), (.d (.int .u8 0)), (.d (.int .u8 0)), (.d (.int .u8 0)), (.d (.int .u8 0)), (.d (.int .u8 0)), (.d (.int .u8 0)), (.d (.int .u8 0)), (.d (.int .u8 0)), (.d (.int .u8 0)), (.d (.int .u8 0)), (.d (.int .u8 0)), (.d (.int .u8 0)), (.d (.int .u8 0)), (.d (.int .u8 0)), (.d (.int .u8 0)), (.d (.int .u8 0)), (.d (.int .u8 0)), (.d (.int .u8 0)), (.d (.int .u8 0)), (.d (.int .u8 0)), (.d (.int .u8 0)), (.d (.int .u8 0)), (.d (.int .u8 0)), (.d (.int .u8 0)), (.d (.int .u8 0)), (.d (.int .u8 0)), (.d (.int .u8 0)), (.d (.int .u8 0)), (.d (.int .u8 0)), (.d (.int .u8 0)), (.d (.int .u8 0)), (.d (.int .u8 0)), (.d (.int .u8 0)), (.d (.int .u8 0)), (.d (.int .u8 0)), (.d (.int .u8 0)), (.d (.int .u8 0)), (.d (.int .u8 0)), (.d (.int .u8 0)), (.d (.int .u8 0)), (.d (.int .u8 0)), (.d (.int .u8 0)), (.d (.int .u8 0)), (.d (.int .u8 0)), (.d (.int .u8 0)), (.d (.int .u8 0)), (.d (.int .u8 0)), (.d (.int .u8 0)), (.d (.int .u8 0)), (.d (.int .u8 0)), (.d (.int .u8 0)), (.d (.int .u8 0)), (.d (.int .u8 0)), (.d (.int .u8 0)), (.d (.int .u8 0)), (.d (.int .u8 0)), (.d (.int .u8 0)), (.d (.int .u8 0)), (.d (.int .u8 0)), (.d (.int .u8 0)), (.d (.int .u8 0)), (.d (.int .u8 0)), (.d (.int .u8 0)), (.d (.int .u8 0)), (.d (.int .u8 0)), (.d (.int .u8 0)), (.d (.int .u8 0)), (.d (.int .u8 0)), (.d (.int .u8 0)), (.d (.int .u8 0)), (.d (.int .u8 0)), (.d (.int .u8 0)), (.d (.int .u8 0)), (.d (.int .u8 0)), (.d (.int .u8 0)), (.d (.int .u8 0)), (.d (.int .u8 0)), (.d (.int .u8 0)), (.d (.int .u8 0)), (.d (.int .u8 0)), (.d (.int .u8 0)), (.d (.int .u8 0)), (.d (.int .u8 0)), (.d (.int .u8 0)), (.d (.int .u8 0)), (.d (.int .u8 0)), (.d (.int .u8 0)), (.d (.int .u8 0)), (.d (.int .u8 0)), (.d (.int .u8 0)), (.d (.int .u8 0)), (.d (.int .u8 0)), (.d (.int .u8 0)), (.d (.int .u8 0)), (.d (.int .u8 0)), (.d (.int .u8 0)), (.d (.int .u8 0)), (.d (.int .u8 0)), (.d (.int .u8 0)), (.d (.int .u8 0)), (.d (.int .u8 0)), (.d (.int .u8 0)), (.d (.int .u8 0)), (.d (.int .u8 0)), (.d (.int .u8 0)), (.d (.int .u8 0)), (.d (.int .u8 0)), (.d (.int .u8 0)), (.d (.int .u8 0)), (.d (.int .u8 0)), (.d (.int .u8 0)), (.d (.int .u8 0)), (.d (.int .u8 0)), (.d (.int .u8 0)), (.d (.int .u8 0)), (.d (.int .u8 0)), (.d (.int .u8 0)), (.d (.int .u8 0)), (.d (.int .u8 0)), (.d (.int .u8 0)), (.d (.int .u8 0)), (.d (.int .u8 0)), (.d (.int .u8 0)), (.d (.int .u8 0)), (.d (.int .u8 0)), (.d (.int .u8 0)), (.d (.int .u8 0)), (.d (.int .u8 0)), (.d (.int .u8 0)), (.d (.int .u8 0)), (.d (.int .u8 0)), (.d (.int .u8 0)), (.d (.int .u8 0)), (.d (.int .u8 0)), (.d (.int .u8 0)), (.d (.int .u8 0)), (.d (.int .u8 0)), (.d (.int .u8 0)), (.d (.int .u8 0)), (.d (.int .u8 0)), (.d (.int .u8 0)), (.d (.int .u8 0)), (.d (.int .u8 0)), (.d (.int .u8 0)), (.d (.int .u8 0)), (.d (.int .u8 0)), (.d (.int .u8 0)), (.d (.int .u8 0)), (.d (.int .u8 0)), (.d (.int .u8 0)), (.d (.int .u8 0)), (.d (.int .u8 0)), (.d (.int .u8 0)), (.d (.int .u8 0)), (.d (.int .u8 0)), (.d (.int .u8 0)), (.d (.int .u8 0)), (.d (.int .u8 0)), (.d (.int .u8 0)), (.d (.int .u8 0)), (.d (.int .u8 0)), (.d (.int .u8 0)), (.d (.int .u8 0)), (.d (.int .u8 0)), (.d (.int .u8 0)), (.d (.int .u8 0)), (.d (.int .u8 0)), (.d (.int .u8 0)), (.d (.int .u8 0)), (.d (.int .u8 0)), (.d (.int .u8 0)), (.d (.int .u8 0)), (.d (.int .u8 0)), (.d (.int .u8 0)), (.d (.int .u8 0)), (.d (.int .u8 0)), (.d (.int .u8 0)), (.d (.int .u8 0)), (.d (.int .u8 0)), (.d (.int .u8 0)), (.d (.int .u8 0)), (.d (.int .u8 0)), (.d (.int .u8 0)), (.d (.int .u8 0)), (.d (.int .u8 0)), (.d (.int .u8 0)), (.d (.int .u8 0)), (.d (.int .u8 0)), (.d (.int .u8 0)), (.d (.int .u8 0)), (.d (.int .u8 0)), (.d (.int .u8 0)), (.d (.int .u8 0)), (.d (.int .u8 0)), (.d (.int .u8 0)), (.d (.int .u8 0)), (.d (.int .u8 0)), (.d (.int .u8 0)), (.d (.int .u8 0)), (.d (.int .u8 0)), (.d (.int .u8 0)), (.d (.int .u8 0)), (.d (.int .u8 0)), (.d (.int .u8 0)), (.d (.int .u8 0)), (.d (.int .u8 0)), (.d (.int .u8 0)), (.d (.int .u8 0)), (.d (.int .u8 0)), (.d (.int .u8 0)), (.d (.int .u8 0)), (.d (.int .u8 0)), (.d (.int .u8 0)), (.d (.int .u8 0)), (.d (.int .u8 0)), (.d (.int .u8 0)), (.d (.int .u8 0)), (.d (.int .u8 0)), (.d (.int .u8 0)), (.d (.int .u8 0)), (.d (.int .u8 0)), (.d (.int .u8 0)), (.d (.int .u8 0)), (.d (.int .u8 0)), (.d (.int .u8 0)), (.d (.int .u8 0)), (.d (.int .u8 0)), (.d (.int .u8 0)), (.d (.int .u8 0)), (.d (.int .u8 0)), (.d (.int .u8 0)), (.d (.int .u8 0)), (.d (.int .u8 0)), (.d (.int .u8 0)), (.d (.int .u8 0)), (.d (.int .u8 0)), (.d (.int .u8 0)), (.d (.int .u8 0)), (.d (.int .u8 0)), (.d (.int .u8 0)), (.d (.int .u8 0)), (.d (.int .u8 0)), (.d (.int .u8 0)), (.d (.int .u8 0)), (.d (.int .u8 0)), (.d (.int .u8 0)), (.d (.int .u8 0))]) := nrfl (by kernel_rfl)
@[go_sem] theorem c99 : Tryd.prog.cellsOf 99 = 2 := nrfl (by kernel_rfl)
@[go_sem] theorem by99 : Tryd.prog.bytesOf 99 = 2 := nrfl (by kernel_rfl)
@[go_sem] theorem z99 : zeroA Tryd.prog 99 = (.agg [(.d (.int .u8 0)), (.d (.int .u8 0))]) := nrfl (by kernel_rfl)
@[go_sem] theorem sp99 : structPlaces Tryd.prog 99 = some [(0, 1), (1, 1)] := nrfl (by kernel_rfl)
@[go_sem] theorem fo99_0 : fieldOff Tryd.prog 99 0 = some (0, 5) := by kernel_rfl
@[go_sem] theorem fo99_1 : fieldOff Tryd.prog 99 1 = some (1, 5) := by kernel_rfl
@[go_sem] theorem sk99 : structKinds Tryd.prog 99 = some [0, 0] := nrfl (by kernel_rfl)
@[go_sem] theorem c100 : Tryd.prog.cellsOf 100 = 2 := nrfl (by kernel_rfl)
@[go_sem] theorem by100 : Tryd.prog.bytesOf 100 = 2 := nrfl (by kernel_rfl)
@[go_sem] theorem z100 : zeroA Tryd.prog 100 = (.agg [(.d (.int .u8 0)), (.d (.int .u8 0))]) := nrfl (by kernel_rfl)
@[go_sem] theorem sp100 : structPlaces Tryd.prog 100 = some [(0, 1), (1, 1)] := nrfl (by kernel_rfl)
@[go_sem] theorem fo100_0 : fieldOff Tryd.prog 100 0 = some (0, 5) := by kernel_rfl
@[go_sem] theorem fo100_1 : fieldOff Tryd.prog 100 1 = some (1, 5) := by kernel_rfl
@[go_sem] theorem sk100 : structKinds Tryd.prog 100 = some [0, 0] := nrfl (by kernel_rfl)
@[go_sem] theorem c101 : Tryd.prog.cellsOf 101 = 32 := nrfl (by kernel_rfl)
@[go_sem] theorem by101 : Tryd.prog.bytesOf 101 = 32 := nrfl (by kernel_rfl)
@[go_sem] theorem z101 : zeroA Tryd.prog 101 = (.agg [(.d (.int .u8 0)), (.d (.int .u8 0)), (.d (.int .u8 0)), (.d (.int .u8 0)), (.d (.int .u8 0)), (.d (.int .u8 0)), (.d (.int .u8 0)), (.d (.int .u8 0)), (.d (.int .u8 0)), (.d (.int .u8 0)), (.d (.int .u8 0)), (.d (.int .u8 0)), (.d (.int .u8 0)), (.d (.int .u8 0)), (.d (.int .u8 0)), (.d (.int .u8 0)), (.d (.int .u8 0)), (.d (.int .u8 0)), (.d (.int .u8 0)), (.d (.int .u8 0)), (.d (.int .u8 0)), (.d (.int .u8 0)), (.d (.int .u8 0)), (.d (.int .u8 0)), (.d (.int .u8 0)), (.d (.int .u8 0)), (.d (.int .u8 0)), (.d (.int .u8 0)), (.d (.int .u8 0)), (.d (.int .u8 0)), (.d (.int .u8 0)), (.d (.int .u8 0))]) := nrfl (by kernel_rfl)
@[go_sem] theorem c106 : Tryd.prog.cellsOf 106 = 1 := nrfl (by kernel_rfl)
@[go_sem] theorem by106 : Tryd.prog.bytesOf 106 = 8 := nrfl (by kernel_rfl)
@[go_sem] theorem z106 : zeroA Tryd.prog 106 = (.d (.int .u64 0)) := nrfl (by kernel_rfl)
@[go_sem] theorem c109 : Tryd.prog.cellsOf 109 = 1 := nrfl (by kernel_rfl)
@[go_sem] theorem by109 : Tryd.prog.bytesOf 109 = 4 := nrfl (by kernel_rfl)
@[go_sem] theorem z109 : zeroA Tryd.prog 109 = (.d (.int .u32 0)) := nrfl (by kernel_rfl)
@[go_sem] theorem c121 : Tryd.prog.cellsOf 121 = 1 := nrfl (by kernel_rfl)
@[go_sem] theorem by121 : Tryd.prog.bytesOf 121 = 8 := nrfl (by kernel_rfl)
@[go_sem] theorem z121 : zeroA Tryd.prog 121 = (.d (.int .i64 0)) := nrfl (by kernel_rfl)
@[go_sem] theorem c130 : Tryd.prog.cellsOf 130 = 1 := nrfl (by kernel_rfl)
@[go_sem] theorem by130 : Tryd.prog.bytesOf 130 = 8 := nrfl (by kernel_rfl)
@[go_sem] theorem z130 : zeroA Tryd.prog 130 = (.d (.int .u64 0)) := nrfl (by kernel_rfl)
@[go_sem] theorem c134 : Tryd.prog.cellsOf 134 = 1 := nrfl (by kernel_rfl)
@[go_sem] theorem by134 : Tryd.prog.bytesOf 134 = 8 := nrfl (by kernel_rfl)
@[go_sem] theorem z134 : zeroA Tryd.prog 134 = (.d .nilptr) := nrfl (by kernel_rfl)
@[go_sem] theorem c136 : Tryd.prog.cellsOf 136 = 1 := nrfl (by kernel_rfl)
@[go_sem] theorem by136 : Tryd.prog.bytesOf 136 = 8 := nrfl (by kernel_rfl)
@[go_sem] theorem z136 : zeroA Tryd.prog 136 = (.d .nilptr) := nrfl (by kernel_rfl)
@[go_sem] theorem c139 : Tryd.prog.cellsOf 139 = 4 := nrfl (by kernel_rfl)
@[go_sem] theorem by139 : Tryd.prog.bytesOf 139 = 40 := nrfl (by kernel_rfl)
@[go_sem] theorem z139 : zeroA Tryd.prog 139 = (.agg [(.d .nilptr), (.d .nilptr), (.d .nilptr), (.d (.str []))]) := nrfl (by kernel_rfl)
@[go_sem] theorem sp139 : structPlaces Tryd.prog 139 = some [(0, 1), (1, 1), (2, 1), (3, 1)] := nrfl (by kernel_rfl)
@[go_sem] theorem fo139_0 : fieldOff Tryd.prog 139 0 = some (0, 17) := by kernel_rfl
@[go_sem] theorem fo139_1 : fieldOff Tryd.prog 139 1 = some (1, 17) := by kernel_rfl
@[go_sem] theorem fo139_2 : fieldOff Tryd.prog 139 2 = some (2, 17) := by kernel_rfl
@[go_sem] theorem fo139_3 : fieldOff Tryd.prog 139 3 = some (3, 9) := by kernel_rfl
@[go_sem] theorem c140 : Tryd.prog.cellsOf 140 = 4 := nrfl (by kernel_rfl)
@[go_sem] theorem by140 : Tryd.prog.bytesOf 140 = 40 := nrfl (by kernel_rfl)
@[go_sem] theorem z140 : zeroA Tryd.prog 140 = (.agg [(.d .nilptr), (.d .nilptr), (.d .nilptr), (.d (.str []))]) := nrfl (by kernel_rfl)
@[go_sem] theorem sp140 : structPlaces Tryd.prog 140 = some [(0, 1), (1, 1), (2, 1), (3, 1)] := nrfl (by kernel_rfl)
@[go_sem] theorem fo140_0 : fieldOff Tryd.prog 140 0 = some (0, 17) := by kernel_rfl
@[go_sem] theorem fo140_1 : fieldOff Tryd.prog 140 1 = some (1, 17) := by kernel_rfl
@[go_sem] theorem fo140_2 : fieldOff Tryd.prog 140 2 = some (2, 17) := by kernel_rfl
@[go_sem] theorem fo140_3 : fieldOff Tryd.prog 140 3 = some (3, 9) := by kernel_rfl
@[go_sem] theorem c141 : Tryd.prog.cellsOf 141 = 0 := nrfl (by kernel_rfl)
@[go_sem] theorem by141 : Tryd.prog.bytesOf 141 = 0 := nrfl (by kernel_rfl)
@[go_sem] theorem z141 : zeroA Tryd.prog 141 = (.agg []) := nrfl (by kernel_rfl)
@[go_sem] theorem c142 : Tryd.prog.cellsOf 142 = 0 := nrfl (by kernel_rfl)
@[go_sem] theorem by142 : Tryd.prog.bytesOf 142 = 0 := nrfl (by kernel_rfl)
@[go_sem] theorem z142 : zeroA Tryd.prog 142 = (.agg []) := nrfl (by kernel_rfl)
@[go_sem] theorem sp142 : structPlaces Tryd.prog 142 = some [(0, 0)] := nrfl (by kernel_rfl)
@[go_sem] theorem c143 : Tryd.prog.cellsOf 143 = 0 := nrfl (by kernel_rfl)
@[go_sem] theorem by143 : Tryd.prog.bytesOf 143 = 0 := nrfl (by kernel_rfl)
@[go_sem] theorem z143 : zeroA Tryd.prog 143 = (.agg []) := nrfl (by kernel_rfl)
@[go_sem] theorem sp143 : structPlaces Tryd.prog 143 = some [(0, 0)] := nrfl (by kernel_rfl)
@[go_sem] theorem c144 : Tryd.prog.cellsOf 144 = 1 := nrfl (by kernel_rfl)
@[go_sem] theorem by144 : Tryd.prog.bytesOf 144 = 1 := nrfl (by kernel_rfl)
@[go_sem] theorem z144 : zeroA Tryd.prog 144 = (.d (.int .u8 0)) := nrfl (by kernel_rfl)
@[go_sem] theorem c145 : Tryd.prog.cellsOf 145 = 1 := nrfl (by kernel_rfl)
@[go_sem] theorem by145 : Tryd.prog.bytesOf 145 = 1 := nrfl (by kernel_rfl)
@[go_sem] theorem z145 : zeroA Tryd.prog 145 = (.d (.int .u8 0)) := nrfl (by kernel_rfl)
@[go_sem] theorem c147 : Tryd.prog.cellsOf 147 = 1 := nrfl (by kernel_rfl)
@[go_sem] theorem by147 : Tryd.prog.bytesOf 147 = 4 := nrfl (by kernel_rfl)
@[go_sem] theorem z147 : zeroA Tryd.prog 147 = (.d (.int .i32 0)) := nrfl (by kernel_rfl)
@[go_sem] theorem c148 : Tryd.prog.cellsOf 148 = 1 := nrfl (by kernel_rfl)
@[go_sem] theorem by148 : Tryd.prog.bytesOf 148 = 4 := nrfl (by kernel_rfl)
@[go_sem] theorem z148 : zeroA Tryd.prog 148 = (.d (.int .i32 0)) := nrfl (by kernel_rfl)
@[go_sem] theorem c149 : Tryd.prog.cellsOf 149 = 11 := nrfl (by kernel_rfl)
@[go_sem] theorem by149 : Tryd.prog.bytesOf 149 = 48 := nrfl (by kernel_rfl)
@[go_sem] theorem z149 : zeroA Tryd.prog 149 = (.agg [(.d (.int .u64 0)), (.d (.int .u64 0)), (.d (.int .u32 0)), (.d (.int .u8 0)), (.d (.int .u8 0)), (.d (.int .u8 0)), (.d (.int .u8 0)), (.d .nilfunc), (.d .nilptr), (.d (.int .i32 0)), (.d (.int .i32 0))]) := nrfl (by kernel_rfl)
@[go_sem] theorem sp149 : structPlaces Tryd.prog 149 = some [(0, 1), (1, 1), (2, 1), (3, 1), (4, 1), (5, 1), (6, 1), (7, 1), (8, 1), (9, 1), (10, 1)] := nrfl (by kernel_rfl)
@[go_sem] theorem fo149_0 : fieldOff Tryd.prog 149 0 = some (0, 12) := by kernel_rfl
@[go_sem] theorem fo149_1 : fieldOff Tryd.prog 149 1 = some (1, 12) := by kernel_rfl
@[go_sem] theorem fo149_2 : fieldOff Tryd.prog 149 2 = some (2, 109) := by kernel_rfl
@[go_sem] theorem fo149_3 : fieldOff Tryd.prog 149 3 = some (3, 144) := by kernel_rfl
@[go_sem] theorem fo149_4 : fieldOff Tryd.prog 149 4 = some (4, 5) := by kernel_rfl
@[go_sem] theorem fo149_5 : fieldOff Tryd.prog 149 5 = some (5, 5) := by kernel_rfl
@[go_sem] theorem fo149_6 : fieldOff Tryd.prog 149 6 = some (6, 145) := by kernel_rfl
@[go_sem] theorem fo149_7 : fieldOff Tryd.prog 149 7 = some (7, 146) := by kernel_rfl
@[go_sem] theorem fo149_8 : fieldOff Tryd.prog 149 8 = some (8, 81) := by kernel_rfl
@[go_sem] theorem fo149_9 : fieldOff Tryd.prog 149 9 = some (9, 147) := by kernel_rfl
@[go_sem] theorem fo149_10 : fieldOff Tryd.prog 149 10 = some (10, 148) := by kernel_rfl
@[go_sem] theorem c150 : Tryd.prog.cellsOf 150 = 11 := nrfl (by kernel_rfl)
@[go_sem] theorem by150 : Tryd.prog.bytesOf 150 = 48 := nrfl (by kernel_rfl)
@[go_sem] theorem z150 : zeroA Tryd.prog 150 = (.agg [(.d (.int .u64 0)), (.d (.int .u64 0)), (.d (.int .u32 0)), (.d (.int .u8 0)), (.d (.int .u8 0)), (.d (.int .u8 0)), (.d (.int .u8 0)), (.d .nilfunc), (.d .nilptr), (.d (.int .i32 0)), (.d (.int .i32 0))]) := nrfl (by kernel_rfl)
@[go_sem] theorem sp150 : structPlaces Tryd.prog 150 = some [(0, 1), (1, 1), (2, 1), (3, 1), (4, 1), (5, 1), (6, 1), (7, 1), (8, 1), (9, 1), (10, 1)] := nrfl (by kernel_rfl)
@[go_sem] theorem fo150_0 : fieldOff Tryd.prog 150 0 = some (0, 12) := by kernel_rfl
@[go_sem] theorem fo150_1 : fieldOff Tryd.prog 150 1 = some (1, 12) := by kernel_rfl
@[go_sem] theorem fo150_2 : fieldOff Tryd.prog 150 2 = some (2, 109) := by kernel_rfl
@[go_sem] theorem fo150_3 : fieldOff Tryd.prog 150 3 = some (3, 144) := by kernel_rfl
@[go_sem] theorem fo150_4 : fieldOff Tryd.prog 150 4 = some (4, 5) := by kernel_rfl
@[go_sem] theorem fo150_5 : fieldOff Tryd.prog 150 5 = some (5, 5) := by kernel_rfl
@[go_sem] theorem fo150_6 : fieldOff Tryd.prog 150 6 = some (6, 145) := by kernel_rfl
@[go_sem] theorem fo150_7 : fieldOff Tryd.prog 150 7 = some (7, 146) := by kernel_rfl
@[go_sem] theorem fo150_8 : fieldOff Tryd.prog 150 8 = some (8, 81) := by kernel_rfl
@[go_sem] theorem fo150_9 : fieldOff Tryd.prog 150 9 = some (9, 147) := by kernel_rfl
@[go_sem] theorem fo150_10 : fieldOff Tryd.prog 150 10 = some (10, 148) := by kernel_rfl

theorem foll : Tryd.prog.follows .mixedOrders = true := by kernel_rfl
@[go_sem] theorem pf0 : plainFn Tryd.prog 0 = false := nrfl (by kernel_rfl)
@[go_sem] theorem pf1 : plainFn Tryd.prog 1 = false := nrfl (by kernel_rfl)
@[go_sem] theorem pf2 : plainFn Tryd.prog 2 = true := nrfl (by kernel_rfl)
@[go_sem] theorem pf3 : plainFn Tryd.prog 3 = true := nrfl (by kernel_rfl)
@[go_sem] theorem pf4 : plainFn Tryd.prog 4 = true := nrfl (by kernel_rfl)
@[go_sem] theorem pf5 : plainFn Tryd.prog 5 = true := nrfl (by kernel_rfl)
@[go_sem] theorem pf6 : plainFn Tryd.prog 6 = true := nrfl (by kernel_rfl)
@[go_sem] theorem pf7 : plainFn Tryd.prog 7 = true := nrfl (by kernel_rfl)
@[go_sem] theorem pf8 : plainFn Tryd.prog 8 = true := nrfl (by kernel_rfl)
@[go_sem] theorem pf9 : plainFn Tryd.prog 9 = true := nrfl (by kernel_rfl)
@[go_sem] theorem pf10 : plainFn Tryd.prog 10 = true := nrfl (by kernel_rfl)
@[go_sem] theorem pf11 : plainFn Tryd.prog 11 = true := nrfl (by kernel_rfl)
@[go_sem] theorem pf12 : plainFn Tryd.prog 12 = true := nrfl (by kernel_rfl)
@[go_sem] theorem pf13 : plainFn Tryd.prog 13 = true := nrfl (by kernel_rfl)
@[go_sem] theorem pf14 : plainFn Tryd.prog 14 = true := nrfl (by kernel_rfl)
@[go_sem] theorem pf15 : plainFn Tryd.prog 15 = true := nrfl (by kernel_rfl)
@[go_sem] theorem pf16 : plainFn Tryd.prog 16 = true := nrfl (by kernel_rfl)
@[go_sem] theorem pf17 : plainFn Tryd.prog 17 = true := nrfl (by kernel_rfl)
@[go_sem] theorem pf18 : plainFn Tryd.prog 18 = true := nrfl (by kernel_rfl)
@[go_sem] theorem pf19 : plainFn Tryd.prog 19 = true := nrfl (by kernel_rfl)
@[go_sem] theorem pf20 : plainFn Tryd.prog 20 = true := nrfl (by kernel_rfl)
@[go_sem] theorem pf21 : plainFn Tryd.prog 21 = true := nrfl (by kernel_rfl)
@[go_sem] theorem pf22 : plainFn Tryd.prog 22 = true := nrfl (by kernel_rfl)
@[go_sem] theorem pf23 : plainFn Tryd.prog 23 = true := nrfl (by kernel_rfl)
@[go_sem] theorem pf24 : plainFn Tryd.prog 24 = true := nrfl (by kernel_rfl)
@[go_sem] theorem pf25 : plainFn Tryd.prog 25 = true := nrfl (by kernel_rfl)
@[go_sem] theorem pf26 : plainFn Tryd.prog 26 = true := nrfl (by kernel_rfl)
@[go_sem] theorem pf27 : plainFn Tryd.prog 27 = true := nrfl (by kernel_rfl)
@[go_sem] theorem pf28 : plainFn Tryd.prog 28 = true := nrfl (by kernel_rfl)
@[go_sem] theorem pf29 : plainFn Tryd.prog 29 = true := nrfl (by kernel_rfl)
@[go_sem] theorem pf30 : plainFn Tryd.prog 30 = true := nrfl (by kernel_rfl)
@[go_sem] theorem pf31 : plainFn Tryd.prog 31 = true := nrfl (by kernel_rfl)
@[go_sem] theorem pf32 : plainFn Tryd.prog 32 = true := nrfl (by kernel_rfl)
@[go_sem] theorem pf33 : plainFn Tryd.prog 33 = true := nrfl (by kernel_rfl)
@[go_sem] theorem pf34 : plainFn Tryd.prog 34 = true := nrfl (by kernel_rfl)
@[go_sem] theorem pf35 : plainFn Tryd.prog 35 = true := nrfl (by kernel_rfl)
@[go_sem] theorem pf36 : plainFn Tryd.prog 36 = true := nrfl (by kernel_rfl)
@[go_sem] theorem pf37 : plainFn Tryd.prog 37 = true := nrfl (by kernel_rfl)
@[go_sem] theorem pf38 : plainFn Tryd.prog 38 = true := nrfl (by kernel_rfl)
@[go_sem] theorem pf39 : plainFn Tryd.prog 39 = true := nrfl (by kernel_rfl)
@[go_sem] theorem pf40 : plainFn Tryd.prog 40 = true := nrfl (by kernel_rfl)
@[go_sem] theorem pf41 : plainFn Tryd.prog 41 = true := nrfl (by kernel_rfl)
@[go_sem] theorem pf42 : plainFn Tryd.prog 42 = true := nrfl (by kernel_rfl)
@[go_sem] theorem pf43 : plainFn Tryd.prog 43 = true := nrfl (by kernel_rfl)
@[go_sem] theorem pf44 : plainFn Tryd.prog 44 = true := nrfl (by kernel_rfl)
@[go_sem] theorem pf45 : plainFn Tryd.prog 45 = true := nrfl (by kernel_rfl)
@[go_sem] theorem pf46 : plainFn Tryd.prog 46 = false := nrfl (by kernel_rfl)
@[go_sem] theorem ne46 : NoEsc Tryd.prog 46 = True := eq_true ⟨Tryd.f46, Tryd.func46, by kernel_rfl, by kernel_rfl, by kernel_rfl, by kernel_rfl⟩
@[go_sem] theorem pf47 : plainFn Tryd.prog 47 = true := nrfl (by kernel_rfl)
@[go_sem] theorem pf48 : plainFn Tryd.prog 48 = true := nrfl (by kernel_rfl)
@[go_sem] theorem pf49 : plainFn Tryd.prog 49 = true := nrfl (by kernel_rfl)
@[go_sem] theorem pf50 : plainFn Tryd.prog 50 = true := nrfl (by kernel_rfl)
@[go_sem] theorem pf51 : plainFn Tryd.prog 51 = true := nrfl (by kernel_rfl)
@[go_sem] theorem pf52 : plainFn Tryd.prog 52 = true := nrfl (by kernel_rfl)
@[go_sem] theorem pf53 : plainFn Tryd.prog 53 = false := nrfl (by kernel_rfl)
@[go_sem] theorem pf54 : plainFn Tryd.prog 54 = true := nrfl (by kernel_rfl)
@[go_sem] theorem pf55 : plainFn Tryd.prog 55 = true := nrfl (by kernel_rfl)
@[go_sem] theorem pf56 : plainFn Tryd.prog 56 = true := nrfl (by kernel_rfl)
@[go_sem] theorem pf57 : plainFn Tryd.prog 57 = true := nrfl (by kernel_rfl)
@[go_sem] theorem pf58 : plainFn Tryd.prog 58 = true := nrfl (by kernel_rfl)
@[go_sem] theorem pf59 : plainFn Tryd.prog 59 = true := nrfl (by kernel_rfl)
@[go_sem] theorem pf60 : plainFn Tryd.prog 60 = false := nrfl (by kernel_rfl)
@[go_sem] theorem pf61 : plainFn Tryd.prog 61 = true := nrfl (by kernel_rfl)
@[go_sem] theorem pf62 : plainFn Tryd.prog 62 = true := nrfl (by kernel_rfl)
@[go_sem] theorem pf63 : plainFn Tryd.prog 63 = true := nrfl (by kernel_rfl)
@[go_sem] theorem pf64 : plainFn Tryd.prog 64 = true := nrfl (by kernel_rfl)
@[go_sem] theorem pf65 : plainFn Tryd.prog 65 = true := nrfl (by kernel_rfl)
@[go_sem] theorem pf66 : plainFn Tryd.prog 66 = true := nrfl (by kernel_rfl)
@[go_sem] theorem pf67 : plainFn Tryd.prog 67 = true := nrfl (by kernel_rfl)
@[go_sem] theorem pf68 : plainFn Tryd.prog 68 = true := nrfl (by kernel_rfl)
@[go_sem] theorem pf69 : plainFn Tryd.prog 69 = true := nrfl (by kernel_rfl)
@[go_sem] theorem pf70 : plainFn Tryd.prog 70 = true := nrfl (by kernel_rfl)
@[go_sem] theorem pf71 : plainFn Tryd.prog 71 = true := nrfl (by kernel_rfl)
@[go_sem] theorem pf72 : plainFn Tryd.prog 72 = true := nrfl (by kernel_rfl)
@[go_sem] theorem pf73 : plainFn Tryd.prog 73 = true := nrfl (by kernel_rfl)
@[go_sem] theorem pf74 : plainFn Tryd.prog 74 = true := nrfl (by kernel_rfl)
@[go_sem] theorem pf75 : plainFn Tryd.prog 75 = true := nrfl (by kernel_rfl)
@[go_sem] theorem pf76 : plainFn Tryd.prog 76 = true := nrfl (by kernel_rfl)
@[go_sem] theorem pf77 : plainFn Tryd.prog 77 = true := nrfl (by kernel_rfl)
@[go_sem] theorem pf78 : plainFn Tryd.prog 78 = true := nrfl (by kernel_rfl)
@[go_sem] theorem pf79 : plainFn Tryd.prog 79 = true := nrfl (by kernel_rfl)
@[go_sem] theorem pf80 : plainFn Tryd.prog 80 = true := nrfl (by kernel_rfl)
@[go_sem] theorem pf81 : plainFn Tryd.prog 81 = true := nrfl (by kernel_rfl)
@[go_sem] theorem pf82 : plainFn Tryd.prog 82 = true := nrfl (by kernel_rfl)
@[go_sem] theorem pf83 : plainFn Tryd.prog 83 = true := nrfl (by kernel_rfl)
@[go_sem] theorem pf84 : plainFn Tryd.prog 84 = true := nrfl (by kernel_rfl)
@[go_sem] theorem pf85 : plainFn Tryd.prog 85 = true := nrfl (by kernel_rfl)
@[go_sem] theorem pf86 : plainFn Tryd.prog 86 = true := nrfl (by kernel_rfl)
@[go_sem] theorem pf87 : plainFn Tryd.prog 87 = true := nrfl (by kernel_rfl)
@[go_sem] theorem pf88 : plainFn Tryd.prog 88 = true := nrfl (by kernel_rfl)
@[go_sem] theorem pf89 : plainFn Tryd.prog 89 = true := nrfl (by kernel_rfl)
@[go_sem] theorem pf90 : plainFn Tryd.prog 90 = true := nrfl (by kernel_rfl)
@[go_sem] theorem pf91 : plainFn Tryd.prog 91 = false := nrfl (by kernel_rfl)
@[go_sem] theorem pf92 : plainFn Tryd.prog 92 = false := nrfl (by kernel_rfl)
@[go_sem] theorem pf93 : plainFn Tryd.prog 93 = false := nrfl (by kernel_rfl)
@[go_sem] theorem pf94 : plainFn Tryd.prog 94 = false := nrfl (by kernel_rfl)
@[go_sem] theorem pf95 : plainFn Tryd.prog 95 = false := nrfl (by kernel_rfl)
@[go_sem] theorem pf96 : plainFn Tryd.prog 96 = false := nrfl (by kernel_rfl)
@[go_sem] theorem pf97 : plainFn Tryd.prog 97 = false := nrfl (by kernel_rfl)
@[go_sem] theorem pf98 : plainFn Tryd.prog 98 = false := nrfl (by kernel_rfl)
@[go_sem] theorem pf99 : plainFn Tryd.prog 99 = false := nrfl (by kernel_rfl)
@[go_sem] theorem pf100 : plainFn Tryd.prog 100 = false := nrfl (by kernel_rfl)
@[go_sem] theorem pf101 : plainFn Tryd.prog 101 = false := nrfl (by kernel_rfl)
@[go_sem] theorem pf102 : plainFn Tryd.prog 102 = false := nrfl (by kernel_rfl)
@[go_sem] theorem pf103 : plainFn Tryd.prog 103 = false := nrfl (by kernel_rfl)
@[go_sem] theorem pf104 : plainFn Tryd.prog 104 = false := nrfl (by kernel_rfl)
@[go_sem] theorem pf105 : plainFn Tryd.prog 105 = false := nrfl (by kernel_rfl)
@[go_sem] theorem pf106 : plainFn Tryd.prog 106 = false := nrfl (by kernel_rfl)
@[go_sem] theorem pf107 : plainFn Tryd.prog 107 = false := nrfl (by kernel_rfl)
@[go_sem] theorem pf108 : plainFn Tryd.prog 108 = false := nrfl (by kernel_rfl)
@[go_sem] theorem pf109 : plainFn Tryd.prog 109 = false := nrfl (by kernel_rfl)
@[go_sem] theorem pf110 : plainFn Tryd.prog 110 = false := nrfl (by kernel_rfl)
@[go_sem] theorem pf111 : plainFn Tryd.prog 111 = false := nrfl (by kernel_rfl)
@[go_sem] theorem pf112 : plainFn Tryd.prog 112 = true := nrfl (by kernel_rfl)

/-- narrator.narratorlaw37.ClassifyMost -/
theorem fn3 : FnIs Tryd.prog 3 1 [Go.ResultVar.tmp 2] (.seq (.region [⟨some 2, Go.Op.assign (Go.Operand.const (Go.Value.bool false)), 4, none⟩])
    (.seq (.region [⟨some 3, Go.Op.move (Go.Operand.tmp 0), 22, none⟩,
      ⟨some 4, Go.Op.call { callee := Go.Callee.builtin Go.Builtin.len, args := #[Go.Operand.tmp 3], argTypes := #[22] }, 3, none⟩,
      ⟨some 5, Go.Op.binOp Go.BinOp.gtr 3 (Go.Operand.tmp 4) (Go.Operand.const (Go.Value.int Go.IntKind.i64 20)) 3, 4, none⟩,
      ⟨some 6, Go.Op.move (Go.Operand.tmp 5), 4, none⟩,
      ⟨some 7, Go.Op.call { callee := Go.Callee.value (Go.Operand.func 5), args := #[], argTypes := #[] }, 4, (some (6, true))⟩,
      ⟨some 8, Go.Op.pick (Go.Operand.tmp 6) (Go.Operand.tmp 7) (Go.Operand.const (Go.Value.bool false)), 4, none⟩,
      ⟨some 9, Go.Op.move (Go.Operand.tmp 8), 4, none⟩,
      ⟨some 10, Go.Op.move (Go.Operand.tmp 0), 22, (some (9, false))⟩,
      ⟨some 11, Go.Op.call { callee := Go.Callee.builtin Go.Builtin.len, args := #[Go.Operand.tmp 10], argTypes := #[22] }, 3, (some (9, false))⟩,
      ⟨some 12, Go.Op.binOp Go.BinOp.leq 3 (Go.Operand.tmp 11) (Go.Operand.const (Go.Value.int Go.IntKind.i64 20)) 3, 4, (some (9, false))⟩,
      ⟨some 13, Go.Op.move (Go.Operand.tmp 12), 4, (some (9, false))⟩,
      ⟨some 14, Go.Op.move (Go.Operand.tmp 0), 22, (some (13, true))⟩,
      ⟨some 15, Go.Op.call { callee := Go.Callee.value (Go.Operand.func 6), args := #[Go.Operand.tmp 14], argTypes := #[22] }, 25, (some (13, true))⟩,
      ⟨some 16, Go.Op.move (Go.Operand.tmp 0), 22, (some (13, true))⟩,
      ⟨some 17, Go.Op.call { callee := Go.Callee.value (Go.Operand.func 7), args := #[Go.Operand.tmp 16], argTypes := #[22] }, 25, (some (13, true))⟩,
      ⟨some 18, Go.Op.binOp Go.BinOp.eql 25 (Go.Operand.tmp 15) (Go.Operand.tmp 17) 25, 4, (some (13, true))⟩,
      ⟨some 19, Go.Op.pick (Go.Operand.tmp 13) (Go.Operand.tmp 18) (Go.Operand.const (Go.Value.bool false)), 4, (some (9, false))⟩,
      ⟨some 20, Go.Op.move (Go.Operand.tmp 19), 4, (some (9, false))⟩,
      ⟨some 21, Go.Op.call { callee := Go.Callee.value (Go.Operand.func 5), args := #[], argTypes := #[] }, 4, (some (20, true))⟩,
      ⟨some 22, Go.Op.pick (Go.Operand.tmp 20) (Go.Operand.tmp 21) (Go.Operand.const (Go.Value.bool false)), 4, (some (9, false))⟩,
      ⟨some 23, Go.Op.pick (Go.Operand.tmp 9) (Go.Operand.const (Go.Value.bool true)) (Go.Operand.tmp 22), 4, none⟩,
      ⟨some 2, Go.Op.assign (Go.Operand.tmp 23), 4, none⟩])
    .ret)) :=
  ⟨foll, Tryd.f3, Tryd.func3, by kernel_rfl, by kernel_rfl, by kernel_rfl, by rw [Tryd.ntmps3]; decide⟩

/-- narrator.narratorlaw37.ClassifyUrgent -/
theorem fn4 : FnIs Tryd.prog 4 1 [Go.ResultVar.tmp 2] (.seq (.region [⟨some 2, Go.Op.assign (Go.Operand.const (Go.Value.bool false)), 4, none⟩])
    (.seq (.seq (.region [⟨some 9, Go.Op.move (Go.Operand.tmp 0), 22, none⟩,
      ⟨some 10, Go.Op.call { callee := Go.Callee.builtin Go.Builtin.len, args := #[Go.Operand.tmp 9], argTypes := #[22] }, 3, none⟩,
      ⟨some 11, Go.Op.binOp Go.BinOp.gtr 3 (Go.Operand.tmp 10) (Go.Operand.const (Go.Value.int Go.IntKind.i64 20)) 3, 4, none⟩,
      ⟨some 12, Go.Op.move (Go.Operand.tmp 11), 4, none⟩,
      ⟨some 13, Go.Op.move (Go.Operand.tmp 0), 22, (some (12, false))⟩,
      ⟨some 14, Go.Op.call { callee := Go.Callee.builtin Go.Builtin.len, args := #[Go.Operand.tmp 13], argTypes := #[22] }, 3, (some (12, false))⟩,
      ⟨some 15, Go.Op.binOp Go.BinOp.eql 3 (Go.Operand.tmp 14) (Go.Operand.const (Go.Value.int Go.IntKind.i64 0)) 3, 4, (some (12, false))⟩,
      ⟨some 16, Go.Op.pick (Go.Operand.tmp 12) (Go.Operand.const (Go.Value.bool true)) (Go.Operand.tmp 15), 4, none⟩])
    (.cond (Go.Operand.tmp 16)
      (.seq (.region [⟨some 17, Go.Op.call { callee := Go.Callee.value (Go.Operand.func 6), args := #[Go.Operand.const (Go.Value.slice none 0 0)], argTypes := #[22] }, 25, none⟩,
        ⟨some 18, Go.Op.build 25 #[(0, Go.Operand.const (Go.Value.int Go.IntKind.i64 2)), (2, Go.Operand.const (Go.Value.int Go.IntKind.i64 (-1)))], 25, none⟩,
        ⟨some 19, Go.Op.binOp Go.BinOp.eql 25 (Go.Operand.tmp 17) (Go.Operand.tmp 18) 25, 4, none⟩,
        ⟨some 20, Go.Op.move (Go.Operand.tmp 19), 4, none⟩,
        ⟨some 21, Go.Op.call { callee := Go.Callee.value (Go.Operand.func 5), args := #[], argTypes := #[] }, 4, (some (20, true))⟩,
        ⟨some 22, Go.Op.pick (Go.Operand.tmp 20) (Go.Operand.tmp 21) (Go.Operand.const (Go.Value.bool false)), 4, none⟩,
        ⟨some 2, Go.Op.assign (Go.Operand.tmp 22), 4, none⟩])
      .ret)
      .skip))
    (.seq (.region [⟨some 23, Go.Op.move (Go.Operand.tmp 0), 22, none⟩,
      ⟨some 24, Go.Op.call { callee := Go.Callee.value (Go.Operand.func 6), args := #[Go.Operand.tmp 23], argTypes := #[22] }, 25, none⟩,
      ⟨some 3, Go.Op.alloc 25, 0, none⟩,
      ⟨none, Go.Op.store 25 (Go.Operand.tmp 3) (Go.Operand.tmp 24), 0, none⟩])
    (.seq (.region [⟨some 4, Go.Op.assign (Go.Operand.const (Go.Value.bool false)), 4, none⟩])
    (.seq (.region [⟨some 25, Go.Op.buildSlice 22 0 #[], 22, none⟩,
      ⟨some 5, Go.Op.assign (Go.Operand.tmp 25), 22, none⟩])
    (.seq (.seq (.region [⟨some 26, Go.Op.move (Go.Operand.tmp 0), 22, none⟩,
      ⟨some 27, Go.Op.call { callee := Go.Callee.builtin Go.Builtin.len, args := #[Go.Operand.tmp 26], argTypes := #[22] }, 3, none⟩,
      ⟨some 28, Go.Op.move (Go.Operand.const (Go.Value.int Go.IntKind.i64 0)), 3, none⟩])
    (.block 0
      (.loop
        (.seq (.region [⟨some 29, Go.Op.binOp Go.BinOp.lss 3 (Go.Operand.tmp 28) (Go.Operand.tmp 27) 3, 0, none⟩])
        (.seq (.cond (Go.Operand.tmp 29)
          .skip
          (.exit 0))
        (.seq (.block 1
          (.seq (.region [⟨some 30, Go.Op.move (Go.Operand.tmp 28), 3, none⟩,
            ⟨some 31, Go.Op.indexAddr 22 (Go.Operand.tmp 26) (Go.Operand.tmp 28), 0, none⟩,
            ⟨some 32, Go.Op.load 25 (Go.Operand.tmp 31), 25, none⟩,
            ⟨some 7, Go.Op.alloc 25, 0, none⟩,
            ⟨some 6, Go.Op.assign (Go.Operand.tmp 30), 3, none⟩,
            ⟨none, Go.Op.store 25 (Go.Operand.tmp 7) (Go.Operand.tmp 32), 0, none⟩])
          (.seq (.region [⟨some 33, Go.Op.move (Go.Operand.tmp 4), 4, none⟩,
            ⟨some 34, Go.Op.move (Go.Operand.tmp 33), 4, none⟩,
            ⟨some 35, Go.Op.load 25 (Go.Operand.tmp 7), 25, (some (34, false))⟩,
            ⟨some 36, Go.Op.load 25 (Go.Operand.tmp 3), 25, (some (34, false))⟩,
            ⟨some 37, Go.Op.binOp Go.BinOp.eql 25 (Go.Operand.tmp 35) (Go.Operand.tmp 36) 25, 4, (some (34, false))⟩,
            ⟨some 38, Go.Op.pick (Go.Operand.tmp 34) (Go.Operand.const (Go.Value.bool true)) (Go.Operand.tmp 37), 4, none⟩,
            ⟨some 4, Go.Op.assign (Go.Operand.tmp 38), 4, none⟩])
          (.seq (.seq (.region [⟨some 39, Go.Op.fieldAddr 25 (Go.Operand.tmp 7) 0, 0, none⟩,
            ⟨some 40, Go.Op.load 3 (Go.Operand.tmp 39), 3, none⟩,
            ⟨some 41, Go.Op.fieldAddr 25 (Go.Operand.tmp 3) 0, 0, none⟩,
            ⟨some 42, Go.Op.load 3 (Go.Operand.tmp 41), 3, none⟩,
            ⟨some 43, Go.Op.binOp Go.BinOp.lss 3 (Go.Operand.tmp 40) (Go.Operand.tmp 42) 3, 4, none⟩,
            ⟨some 44, Go.Op.move (Go.Operand.tmp 43), 4, none⟩,
            ⟨some 45, Go.Op.fieldAddr 25 (Go.Operand.tmp 7) 0, 0, (some (44, false))⟩,
            ⟨some 46, Go.Op.load 3 (Go.Operand.tmp 45), 3, (some (44, false))⟩,
            ⟨some 47, Go.Op.fieldAddr 25 (Go.Operand.tmp 3) 0, 0, (some (44, false))⟩,
            ⟨some 48, Go.Op.load 3 (Go.Operand.tmp 47), 3, (some (44, false))⟩,
            ⟨some 49, Go.Op.binOp Go.BinOp.eql 3 (Go.Operand.tmp 46) (Go.Operand.tmp 48) 3, 4, (some (44, false))⟩,
            ⟨some 50, Go.Op.move (Go.Operand.tmp 49), 4, (some (44, false))⟩,
            ⟨some 51, Go.Op.fieldAddr 25 (Go.Operand.tmp 7) 1, 0, (some (50, true))⟩,
            ⟨some 52, Go.Op.load 3 (Go.Operand.tmp 51), 3, (some (50, true))⟩,
            ⟨some 53, Go.Op.fieldAddr 25 (Go.Operand.tmp 3) 1, 0, (some (50, true))⟩,
            ⟨some 54, Go.Op.load 3 (Go.Operand.tmp 53), 3, (some (50, true))⟩,
            ⟨some 55, Go.Op.binOp Go.BinOp.lss 3 (Go.Operand.tmp 52) (Go.Operand.tmp 54) 3, 4, (some (50, true))⟩,
            ⟨some 56, Go.Op.pick (Go.Operand.tmp 50) (Go.Operand.tmp 55) (Go.Operand.const (Go.Value.bool false)), 4, (some (44, false))⟩,
            ⟨some 57, Go.Op.pick (Go.Operand.tmp 44) (Go.Operand.const (Go.Value.bool true)) (Go.Operand.tmp 56), 4, none⟩])
          (.cond (Go.Operand.tmp 57)
            (.seq (.region [⟨some 2, Go.Op.assign (Go.Operand.const (Go.Value.bool false)), 4, none⟩])
            .ret)
            .skip))
          (.region [⟨some 58, Go.Op.move (Go.Operand.tmp 5), 22, none⟩,
            ⟨some 59, Go.Op.move (Go.Operand.tmp 0), 22, none⟩,
            ⟨some 60, Go.Op.move (Go.Operand.tmp 0), 22, none⟩,
            ⟨some 61, Go.Op.call { callee := Go.Callee.builtin Go.Builtin.len, args := #[Go.Operand.tmp 60], argTypes := #[22] }, 3, none⟩,
            ⟨some 62, Go.Op.binOp Go.BinOp.sub 3 (Go.Operand.tmp 61) (Go.Operand.const (Go.Value.int Go.IntKind.i64 1)) 3, 3, none⟩,
            ⟨some 63, Go.Op.move (Go.Operand.tmp 6), 3, none⟩,
            ⟨some 64, Go.Op.binOp Go.BinOp.sub 3 (Go.Operand.tmp 62) (Go.Operand.tmp 63) 3, 3, none⟩,
            ⟨some 65, Go.Op.indexAddr 22 (Go.Operand.tmp 59) (Go.Operand.tmp 64), 0, none⟩,
            ⟨some 66, Go.Op.load 25 (Go.Operand.tmp 65), 25, none⟩,
            ⟨some 67, Go.Op.buildSlice 22 1 #[(0, Go.Operand.tmp 66)], 22, none⟩,
            ⟨some 68, Go.Op.call { callee := Go.Callee.builtin Go.Builtin.append, args := #[Go.Operand.tmp 58, Go.Operand.tmp 67], argTypes := #[22, 22] }, 22, none⟩,
            ⟨some 5, Go.Op.assign (Go.Operand.tmp 68), 22, none⟩])))))
        (.region [⟨some 69, Go.Op.binOp Go.BinOp.add 3 (Go.Operand.tmp 28) (Go.Operand.const (Go.Value.int Go.IntKind.i64 1)) 3, 3, none⟩,
          ⟨some 28, Go.Op.move (Go.Operand.tmp 69), 3, none⟩])))))))
    (.seq (.region [⟨some 70, Go.Op.move (Go.Operand.tmp 5), 22, none⟩,
      ⟨some 71, Go.Op.call { callee := Go.Callee.value (Go.Operand.func 6), args := #[Go.Operand.tmp 70], argTypes := #[22] }, 25, none⟩,
      ⟨some 8, Go.Op.alloc 25, 0, none⟩,
      ⟨none, Go.Op.store 25 (Go.Operand.tmp 8) (Go.Operand.tmp 71), 0, none⟩])
    (.seq (.region [⟨some 72, Go.Op.move (Go.Operand.tmp 4), 4, none⟩,
      ⟨some 73, Go.Op.move (Go.Operand.tmp 72), 4, none⟩,
      ⟨some 74, Go.Op.fieldAddr 25 (Go.Operand.tmp 8) 0, 0, (some (73, true))⟩,
      ⟨some 75, Go.Op.load 3 (Go.Operand.tmp 74), 3, (some (73, true))⟩,
      ⟨some 76, Go.Op.fieldAddr 25 (Go.Operand.tmp 3) 0, 0, (some (73, true))⟩,
      ⟨some 77, Go.Op.load 3 (Go.Operand.tmp 76), 3, (some (73, true))⟩,
      ⟨some 78, Go.Op.binOp Go.BinOp.eql 3 (Go.Operand.tmp 75) (Go.Operand.tmp 77) 3, 4, (some (73, true))⟩,
      ⟨some 79, Go.Op.pick (Go.Operand.tmp 73) (Go.Operand.tmp 78) (Go.Operand.const (Go.Value.bool false)), 4, none⟩,
      ⟨some 80, Go.Op.move (Go.Operand.tmp 79), 4, none⟩,
      ⟨some 81, Go.Op.fieldAddr 25 (Go.Operand.tmp 8) 1, 0, (some (80, true))⟩,
      ⟨some 82, Go.Op.load 3 (Go.Operand.tmp 81), 3, (some (80, true))⟩,
      ⟨some 83, Go.Op.fieldAddr 25 (Go.Operand.tmp 3) 1, 0, (some (80, true))⟩,
      ⟨some 84, Go.Op.load 3 (Go.Operand.tmp 83), 3, (some (80, true))⟩,
      ⟨some 85, Go.Op.binOp Go.BinOp.eql 3 (Go.Operand.tmp 82) (Go.Operand.tmp 84) 3, 4, (some (80, true))⟩,
      ⟨some 86, Go.Op.pick (Go.Operand.tmp 80) (Go.Operand.tmp 85) (Go.Operand.const (Go.Value.bool false)), 4, none⟩,
      ⟨some 87, Go.Op.move (Go.Operand.tmp 86), 4, none⟩,
      ⟨some 88, Go.Op.call { callee := Go.Callee.value (Go.Operand.func 5), args := #[], argTypes := #[] }, 4, (some (87, true))⟩,
      ⟨some 89, Go.Op.pick (Go.Operand.tmp 87) (Go.Operand.tmp 88) (Go.Operand.const (Go.Value.bool false)), 4, none⟩,
      ⟨some 2, Go.Op.assign (Go.Operand.tmp 89), 4, none⟩])
    .ret)))))))) :=
  ⟨foll, Tryd.f4, Tryd.func4, by kernel_rfl, by kernel_rfl, by kernel_rfl, by rw [Tryd.ntmps4]; decide⟩

/-- narrator.classify.Most -/
theorem fn6 : FnIs Tryd.prog 6 1 [Go.ResultVar.cell 2 25] (.seq (.region [⟨some 2, Go.Op.alloc 25, 0, none⟩])
    (.seq (.seq (.region [⟨some 3, Go.Op.move (Go.Operand.tmp 0), 22, none⟩,
      ⟨some 4, Go.Op.call { callee := Go.Callee.builtin Go.Builtin.len, args := #[Go.Operand.tmp 3], argTypes := #[22] }, 3, none⟩,
      ⟨some 5, Go.Op.binOp Go.BinOp.eql 3 (Go.Operand.tmp 4) (Go.Operand.const (Go.Value.int Go.IntKind.i64 0)) 3, 4, none⟩])
    (.cond (Go.Operand.tmp 5)
      (.seq (.region [⟨some 6, Go.Op.call { callee := Go.Callee.value (Go.Operand.func 10), args := #[], argTypes := #[] }, 25, none⟩,
        ⟨none, Go.Op.store 25 (Go.Operand.tmp 2) (Go.Operand.tmp 6), 0, none⟩])
      .ret)
      .skip))
    (.seq (.region [⟨some 7, Go.Op.move (Go.Operand.tmp 0), 22, none⟩,
      ⟨some 8, Go.Op.call { callee := Go.Callee.value (Go.Operand.func 11), args := #[Go.Operand.tmp 7, Go.Operand.func 12], argTypes := #[22, 36] }, 25, none⟩,
      ⟨none, Go.Op.store 25 (Go.Operand.tmp 2) (Go.Operand.tmp 8), 0, none⟩])
    .ret))) :=
  ⟨foll, Tryd.f6, Tryd.func6, by kernel_rfl, by kernel_rfl, by kernel_rfl, by rw [Tryd.ntmps6]; decide⟩

/-- narrator.narratorref37.Most -/
theorem fn7 : FnIs Tryd.prog 7 1 [Go.ResultVar.cell 2 25] (.seq (.region [⟨some 2, Go.Op.alloc 25, 0, none⟩])
    (.seq (.seq (.region [⟨some 5, Go.Op.move (Go.Operand.tmp 0), 22, none⟩,
      ⟨some 6, Go.Op.call { callee := Go.Callee.builtin Go.Builtin.len, args := #[Go.Operand.tmp 5], argTypes := #[22] }, 3, none⟩,
      ⟨some 7, Go.Op.binOp Go.BinOp.eql 3 (Go.Operand.tmp 6) (Go.Operand.const (Go.Value.int Go.IntKind.i64 0)) 3, 4, none⟩])
    (.cond (Go.Operand.tmp 7)
      (.seq (.region [⟨some 8, Go.Op.build 25 #[(0, Go.Operand.const (Go.Value.int Go.IntKind.i64 2)), (2, Go.Operand.const (Go.Value.int Go.IntKind.i64 (-1)))], 25, none⟩,
        ⟨none, Go.Op.store 25 (Go.Operand.tmp 2) (Go.Operand.tmp 8), 0, none⟩])
      .ret)
      .skip))
    (.seq (.region [⟨some 9, Go.Op.move (Go.Operand.tmp 0), 22, none⟩,
      ⟨some 10, Go.Op.indexAddr 22 (Go.Operand.tmp 9) (Go.Operand.const (Go.Value.int Go.IntKind.i64 0)), 0, none⟩,
      ⟨some 11, Go.Op.load 25 (Go.Operand.tmp 10), 25, none⟩,
      ⟨some 3, Go.Op.alloc 25, 0, none⟩,
      ⟨none, Go.Op.store 25 (Go.Operand.tmp 3) (Go.Operand.tmp 11), 0, none⟩])
    (.seq (.seq (.region [⟨some 4, Go.Op.assign (Go.Operand.const (Go.Value.int Go.IntKind.i64 1)), 3, none⟩])
    (.block 0
      (.loop
        (.seq (.seq (.region [⟨some 12, Go.Op.move (Go.Operand.tmp 4), 3, none⟩,
          ⟨some 13, Go.Op.move (Go.Operand.tmp 0), 22, none⟩,
          ⟨some 14, Go.Op.call { callee := Go.Callee.builtin Go.Builtin.len, args := #[Go.Operand.tmp 13], argTypes := #[22] }, 3, none⟩,
          ⟨some 15, Go.Op.binOp Go.BinOp.lss 3 (Go.Operand.tmp 12) (Go.Operand.tmp 14) 3, 4, none⟩])
        (.cond (Go.Operand.tmp 15)
          .skip
          (.exit 0)))
        (.seq (.block 1
          (.seq (.draw [⟨⟨some 18, Go.Op.move (Go.Operand.tmp 0), 22, none⟩, false, false, false⟩,
            ⟨⟨some 19, Go.Op.move (Go.Operand.tmp 4), 3, none⟩, false, false, false⟩,
            ⟨⟨some 20, Go.Op.indexAddr 22 (Go.Operand.tmp 18) (Go.Operand.tmp 19), 0, none⟩, false, false, false⟩,
            ⟨⟨some 21, Go.Op.fieldAddr 25 (Go.Operand.tmp 20) 0, 0, none⟩, false, false, false⟩,
            ⟨⟨some 22, Go.Op.load 3 (Go.Operand.tmp 21), 3, none⟩, false, false, false⟩,
            ⟨⟨some 23, Go.Op.fieldAddr 25 (Go.Operand.tmp 3) 0, 0, none⟩, false, false, false⟩,
            ⟨⟨some 24, Go.Op.load 3 (Go.Operand.tmp 23), 3, none⟩, false, false, false⟩,
            ⟨⟨some 25, Go.Op.binOp Go.BinOp.lss 3 (Go.Operand.tmp 22) (Go.Operand.tmp 24) 3, 4, none⟩, false, false, false⟩,
            ⟨⟨some 26, Go.Op.move (Go.Operand.tmp 25), 4, none⟩, false, false, false⟩,
            ⟨⟨some 27, Go.Op.move (Go.Operand.tmp 0), 22, (some (26, false))⟩, false, false, false⟩,
            ⟨⟨some 28, Go.Op.move (Go.Operand.tmp 4), 3, (some (26, false))⟩, false, false, false⟩,
            ⟨⟨some 29, Go.Op.indexAddr 22 (Go.Operand.tmp 27) (Go.Operand.tmp 28), 0, (some (26, false))⟩, false, false, false⟩,
            ⟨⟨some 30, Go.Op.fieldAddr 25 (Go.Operand.tmp 29) 0, 0, (some (26, false))⟩, false, false, false⟩,
            ⟨⟨some 31, Go.Op.load 3 (Go.Operand.tmp 30), 3, (some (26, false))⟩, false, false, false⟩,
            ⟨⟨some 32, Go.Op.fieldAddr 25 (Go.Operand.tmp 3) 0, 0, (some (26, false))⟩, false, false, false⟩,
            ⟨⟨some 33, Go.Op.load 3 (Go.Operand.tmp 32), 3, (some (26, false))⟩, false, false, false⟩,
            ⟨⟨some 34, Go.Op.binOp Go.BinOp.eql 3 (Go.Operand.tmp 31) (Go.Operand.tmp 33) 3, 4, (some (26, false))⟩, false, false, false⟩,
            ⟨⟨some 35, Go.Op.move (Go.Operand.tmp 34), 4, (some (26, false))⟩, false, false, false⟩,
            ⟨⟨some 36, Go.Op.move (Go.Operand.tmp 0), 22, (some (35, true))⟩, false, false, false⟩,
            ⟨⟨some 37, Go.Op.move (Go.Operand.tmp 4), 3, (some (35, true))⟩, false, false, false⟩,
            ⟨⟨some 38, Go.Op.indexAddr 22 (Go.Operand.tmp 36) (Go.Operand.tmp 37), 0, (some (35, true))⟩, false, false, false⟩,
            ⟨⟨some 39, Go.Op.fieldAddr 25 (Go.Operand.tmp 38) 1, 0, (some (35, true))⟩, false, false, false⟩,
            ⟨⟨some 40, Go.Op.load 3 (Go.Operand.tmp 39), 3, (some (35, true))⟩, false, false, false⟩,
            ⟨⟨some 41, Go.Op.fieldAddr 25 (Go.Operand.tmp 3) 1, 0, (some (35, true))⟩, false, false, false⟩,
            ⟨⟨some 42, Go.Op.load 3 (Go.Operand.tmp 41), 3, (some (35, true))⟩, false, false, false⟩,
            ⟨⟨some 43, Go.Op.binOp Go.BinOp.lss 3 (Go.Operand.tmp 40) (Go.Operand.tmp 42) 3, 4, (some (35, true))⟩, false, false, false⟩,
            ⟨⟨some 44, Go.Op.pick (Go.Operand.tmp 35) (Go.Operand.tmp 43) (Go.Operand.const (Go.Value.bool false)), 4, (some (26, false))⟩, false, false, false⟩,
            ⟨⟨some 45, Go.Op.pick (Go.Operand.tmp 26) (Go.Operand.const (Go.Value.bool true)) (Go.Operand.tmp 44), 4, none⟩, false, false, false⟩])
          (.cond (Go.Operand.tmp 45)
            (.region [⟨some 46, Go.Op.move (Go.Operand.tmp 0), 22, none⟩,
              ⟨some 47, Go.Op.move (Go.Operand.tmp 4), 3, none⟩,
              ⟨some 48, Go.Op.indexAddr 22 (Go.Operand.tmp 46) (Go.Operand.tmp 47), 0, none⟩,
              ⟨some 49, Go.Op.load 25 (Go.Operand.tmp 48), 25, none⟩,
              ⟨none, Go.Op.store 25 (Go.Operand.tmp 3) (Go.Operand.tmp 49), 0, none⟩])
            .skip)))
        (.region [⟨some 16, Go.Op.move (Go.Operand.tmp 4), 3, none⟩,
          ⟨some 17, Go.Op.binOp Go.BinOp.add 3 (Go.Operand.tmp 16) (Go.Operand.const (Go.Value.int Go.IntKind.i64 1)) 3, 3, none⟩,
          ⟨some 4, Go.Op.assign (Go.Operand.tmp 17), 3, none⟩]))))))
    (.seq (.region [⟨some 50, Go.Op.load 25 (Go.Operand.tmp 3), 25, none⟩,
      ⟨none, Go.Op.store 25 (Go.Operand.tmp 2) (Go.Operand.tmp 50), 0, none⟩])
    .ret))))) :=
  ⟨foll, Tryd.f7, Tryd.func7, by kernel_rfl, by kernel_rfl, by kernel_rfl, by rw [Tryd.ntmps7]; decide⟩

/-- narrator.classify.standard -/
theorem fn10 : FnIs Tryd.prog 10 0 [Go.ResultVar.cell 0 25] (.seq (.region [⟨some 0, Go.Op.alloc 25, 0, none⟩])
    (.seq (.region [⟨some 1, Go.Op.build 25 #[(0, Go.Operand.const (Go.Value.int Go.IntKind.i64 2)), (2, Go.Operand.const (Go.Value.int Go.IntKind.i64 (-1)))], 25, none⟩,
      ⟨none, Go.Op.store 25 (Go.Operand.tmp 0) (Go.Operand.tmp 1), 0, none⟩])
    .ret)) :=
  ⟨foll, Tryd.f10, Tryd.func10, by kernel_rfl, by kernel_rfl, by kernel_rfl, by rw [Tryd.ntmps10]; decide⟩

/-- narrator.classify.first -/
theorem fn11 : FnIs Tryd.prog 11 2 [Go.ResultVar.cell 4 25] (.seq (.region [⟨some 4, Go.Op.alloc 25, 0, none⟩])
    (.seq (.region [⟨some 8, Go.Op.move (Go.Operand.tmp 0), 22, none⟩,
      ⟨some 9, Go.Op.indexAddr 22 (Go.Operand.tmp 8) (Go.Operand.const (Go.Value.int Go.IntKind.i64 0)), 0, none⟩,
      ⟨some 10, Go.Op.load 25 (Go.Operand.tmp 9), 25, none⟩,
      ⟨some 5, Go.Op.alloc 25, 0, none⟩,
      ⟨none, Go.Op.store 25 (Go.Operand.tmp 5) (Go.Operand.tmp 10), 0, none⟩])
    (.seq (.seq (.region [⟨some 11, Go.Op.move (Go.Operand.tmp 0), 22, none⟩,
      ⟨some 12, Go.Op.slice 22 (Go.Operand.tmp 11) (some (Go.Operand.const (Go.Value.int Go.IntKind.i64 1))) none none, 22, none⟩,
      ⟨some 13, Go.Op.call { callee := Go.Callee.builtin Go.Builtin.len, args := #[Go.Operand.tmp 12], argTypes := #[22] }, 3, none⟩,
      ⟨some 14, Go.Op.move (Go.Operand.const (Go.Value.int Go.IntKind.i64 0)), 3, none⟩])
    (.block 0
      (.loop
        (.seq (.region [⟨some 15, Go.Op.binOp Go.BinOp.lss 3 (Go.Operand.tmp 14) (Go.Operand.tmp 13) 3, 0, none⟩])
        (.seq (.cond (Go.Operand.tmp 15)
          .skip
          (.exit 0))
        (.seq (.block 1
          (.seq (.region [⟨some 16, Go.Op.indexAddr 22 (Go.Operand.tmp 12) (Go.Operand.tmp 14), 0, none⟩,
            ⟨some 17, Go.Op.load 25 (Go.Operand.tmp 16), 25, none⟩,
            ⟨some 7, Go.Op.alloc 25, 0, none⟩,
            ⟨none, Go.Op.store 25 (Go.Operand.tmp 7) (Go.Operand.tmp 17), 0, none⟩])
          (.seq (.region [⟨some 18, Go.Op.move (Go.Operand.tmp 1), 36, none⟩,
            ⟨some 19, Go.Op.load 25 (Go.Operand.tmp 7), 25, none⟩,
            ⟨some 20, Go.Op.load 25 (Go.Operand.tmp 5), 25, none⟩,
            ⟨some 21, Go.Op.call { callee := Go.Callee.value (Go.Operand.tmp 18), args := #[Go.Operand.tmp 19, Go.Operand.tmp 20], argTypes := #[25, 25] }, 4, none⟩])
          (.cond (Go.Operand.tmp 21)
            (.region [⟨some 22, Go.Op.load 25 (Go.Operand.tmp 7), 25, none⟩,
              ⟨none, Go.Op.store 25 (Go.Operand.tmp 5) (Go.Operand.tmp 22), 0, none⟩])
            .skip))))
        (.region [⟨some 23, Go.Op.binOp Go.BinOp.add 3 (Go.Operand.tmp 14) (Go.Operand.const (Go.Value.int Go.IntKind.i64 1)) 3, 3, none⟩,
          ⟨some 14, Go.Op.move (Go.Operand.tmp 23), 3, none⟩])))))))
    (.seq (.region [⟨some 24, Go.Op.load 25 (Go.Operand.tmp 5), 25, none⟩,
      ⟨none, Go.Op.store 25 (Go.Operand.tmp 4) (Go.Operand.tmp 24), 0, none⟩])
    .ret)))) :=
  ⟨foll, Tryd.f11, Tryd.func11, by kernel_rfl, by kernel_rfl, by kernel_rfl, by rw [Tryd.ntmps11]; decide⟩

/-- narrator.classify.Most$1 -/
theorem fn12 : FnIs Tryd.prog 12 2 [Go.ResultVar.tmp 4] (.seq (.region [⟨some 2, Go.Op.box 25 (Go.Operand.tmp 0), 0, none⟩,
      ⟨some 3, Go.Op.box 25 (Go.Operand.tmp 1), 0, none⟩,
      ⟨some 4, Go.Op.assign (Go.Operand.const (Go.Value.bool false)), 4, none⟩])
    (.seq (.seq (.region [⟨some 5, Go.Op.fieldAddr 25 (Go.Operand.tmp 2) 0, 0, none⟩,
      ⟨some 6, Go.Op.load 3 (Go.Operand.tmp 5), 3, none⟩,
      ⟨some 7, Go.Op.fieldAddr 25 (Go.Operand.tmp 3) 0, 0, none⟩,
      ⟨some 8, Go.Op.load 3 (Go.Operand.tmp 7), 3, none⟩,
      ⟨some 9, Go.Op.binOp Go.BinOp.neq 3 (Go.Operand.tmp 6) (Go.Operand.tmp 8) 3, 4, none⟩])
    (.cond (Go.Operand.tmp 9)
      (.seq (.region [⟨some 10, Go.Op.fieldAddr 25 (Go.Operand.tmp 2) 0, 0, none⟩,
        ⟨some 11, Go.Op.load 3 (Go.Operand.tmp 10), 3, none⟩,
        ⟨some 12, Go.Op.fieldAddr 25 (Go.Operand.tmp 3) 0, 0, none⟩,
        ⟨some 13, Go.Op.load 3 (Go.Operand.tmp 12), 3, none⟩,
        ⟨some 14, Go.Op.binOp Go.BinOp.lss 3 (Go.Operand.tmp 11) (Go.Operand.tmp 13) 3, 4, none⟩,
        ⟨some 4, Go.Op.assign (Go.Operand.tmp 14), 4, none⟩])
      .ret)
      .skip))
    (.seq (.region [⟨some 15, Go.Op.fieldAddr 25 (Go.Operand.tmp 2) 1, 0, none⟩,
      ⟨some 16, Go.Op.load 3 (Go.Operand.tmp 15), 3, none⟩,
      ⟨some 17, Go.Op.fieldAddr 25 (Go.Operand.tmp 3) 1, 0, none⟩,
      ⟨some 18, Go.Op.load 3 (Go.Operand.tmp 17), 3, none⟩,
      ⟨some 19, Go.Op.binOp Go.BinOp.lss 3 (Go.Operand.tmp 16) (Go.Operand.tmp 18) 3, 4, none⟩,
      ⟨some 4, Go.Op.assign (Go.Operand.tmp 19), 4, none⟩])
    .ret))) :=
  ⟨foll, Tryd.f12, Tryd.func12, by kernel_rfl, by kernel_rfl, by kernel_rfl, by rw [Tryd.ntmps12]; decide⟩

end Go.Proofs.YtegnibocbgngjaaDoor
