/- Facts on the types of this seat's program, and the prepared code of its functions. Written by a program of mine (gen.py) out of what the loaded dump prints. -/
import Derived.Test.YtjgbdlaecpkmhaaGreatDoorProg
import Derived.Test.YtjgbdlaecpkmhaaGreatDoorG10NvP
import Derived.KernelRfl
set_option linter.unusedVariables false
set_option maxRecDepth 100000
namespace Go.Proofs.YtjgbdlaecpkmhaaGreatDoor
open Go Nv

attribute [go_sem] Tryz.underlying0 Tryz.underlying1 Tryz.underlying2 Tryz.underlying3 Tryz.underlying4 Tryz.underlying5 Tryz.underlying6 Tryz.underlying7 Tryz.underlying8 Tryz.underlying9 Tryz.underlying10 Tryz.underlying11 Tryz.underlying12 Tryz.underlying13 Tryz.underlying14 Tryz.underlying15 Tryz.underlying16 Tryz.underlying17 Tryz.underlying18 Tryz.underlying19 Tryz.underlying20 Tryz.underlying21 Tryz.underlying22 Tryz.underlying23 Tryz.underlying24 Tryz.underlying25 Tryz.underlying26 Tryz.underlying27 Tryz.underlying28 Tryz.underlying29 Tryz.underlying30 Tryz.underlying31 Tryz.underlying32 Tryz.underlying33 Tryz.underlying34 Tryz.underlying35 Tryz.underlying36 Tryz.underlying37 Tryz.underlying38 Tryz.underlying39 Tryz.underlying40 Tryz.underlying41 Tryz.underlying42 Tryz.underlying43 Tryz.underlying44 Tryz.underlying45 Tryz.underlying46 Tryz.underlying47 Tryz.underlying48 Tryz.underlying49 Tryz.underlying50 Tryz.underlying51 Tryz.underlying52 Tryz.underlying53 Tryz.underlying54 Tryz.underlying55 Tryz.underlying56 Tryz.underlying57 Tryz.underlying58 Tryz.underlying59 Tryz.underlying60 Tryz.underlying61 Tryz.underlying62 Tryz.underlying63 Tryz.underlying64 Tryz.underlying65 Tryz.underlying66 Tryz.underlying67 Tryz.underlying68 Tryz.underlying69 Tryz.underlying70 Tryz.underlying71 Tryz.underlying72 Tryz.underlying73 Tryz.underlying74 Tryz.underlying75 Tryz.underlying76 Tryz.underlying77 Tryz.underlying78 Tryz.underlying79 Tryz.underlying80 Tryz.underlying81 Tryz.underlying82 Tryz.underlying83 Tryz.underlying84 Tryz.underlying85 Tryz.underlying86 Tryz.underlying87 Tryz.underlying88 Tryz.underlying89 Tryz.underlying90 Tryz.underlying91 Tryz.underlying92 Tryz.underlying93 Tryz.underlying94 Tryz.underlying95 Tryz.underlying96 Tryz.underlying97 Tryz.underlying98 Tryz.underlying99 Tryz.underlying100 Tryz.underlying101 Tryz.underlying102 Tryz.underlying103 Tryz.underlying104 Tryz.underlying105 Tryz.underlying106 Tryz.underlying107 Tryz.underlying108 Tryz.underlying109 Tryz.underlying110 Tryz.underlying111 Tryz.underlying112 Tryz.underlying113 Tryz.underlying114 Tryz.underlying115 Tryz.underlying116 Tryz.underlying117 Tryz.underlying118 Tryz.underlying119 Tryz.underlying120 Tryz.underlying121 Tryz.underlying122 Tryz.underlying123 Tryz.underlying124 Tryz.underlying125 Tryz.underlying126 Tryz.underlying127 Tryz.underlying128 Tryz.underlying129 Tryz.underlying130 Tryz.underlying131 Tryz.underlying132 Tryz.underlying133 Tryz.underlying134 Tryz.underlying135 Tryz.underlying136 Tryz.underlying137 Tryz.underlying138 Tryz.underlying139 Tryz.underlying140 Tryz.underlying141 Tryz.underlying142 Tryz.underlying143 Tryz.underlying144 Tryz.underlying145 Tryz.underlying146 Tryz.underlying147 Tryz.underlying148 Tryz.underlying149 Tryz.underlying150 Tryz.underlying151 Tryz.underlying152 Tryz.underlying153 Tryz.underlying154 Tryz.underlying155 Tryz.underlying156 Tryz.underlying157 Tryz.underlying158 Tryz.underlying159 Tryz.underlying160 Tryz.underlying161 Tryz.underlying162 Tryz.underlying163 Tryz.underlying164 Tryz.underlying165 Tryz.underlying166 Tryz.underlying167 Tryz.underlying168 Tryz.underlying169 Tryz.underlying170 Tryz.underlying171 Tryz.underlying172 Tryz.underlying173 Tryz.underlying174 Tryz.underlying175 Tryz.underlying176 Tryz.underlying177 Tryz.underlying178 Tryz.underlying179 Tryz.underlying180 Tryz.underlying181 Tryz.underlying182 Tryz.underlying183 Tryz.underlying184 Tryz.underlying185 Tryz.underlying186 Tryz.underlying187 Tryz.underlying188 Tryz.underlying189 Tryz.underlying190
@[go_sem] theorem c2 : Tryz.prog.cellsOf 2 = 1 := nrfl (by kernel_rfl)
@[go_sem] theorem by2 : Tryz.prog.bytesOf 2 = 8 := nrfl (by kernel_rfl)
@[go_sem] theorem z2 : zeroA Tryz.prog 2 = (.d (.int .i64 0)) := nrfl (by kernel_rfl)
@[go_sem] theorem c3 : Tryz.prog.cellsOf 3 = 1 := nrfl (by kernel_rfl)
@[go_sem] theorem by3 : Tryz.prog.bytesOf 3 = 8 := nrfl (by kernel_rfl)
@[go_sem] theorem z3 : zeroA Tryz.prog 3 = (.d (.int .i64 0)) := nrfl (by kernel_rfl)
@[go_sem] theorem c4 : Tryz.prog.cellsOf 4 = 1 := nrfl (by kernel_rfl)
@[go_sem] theorem by4 : Tryz.prog.bytesOf 4 = 1 := nrfl (by kernel_rfl)
@[go_sem] theorem z4 : zeroA Tryz.prog 4 = (.d (.bool false)) := nrfl (by kernel_rfl)
@[go_sem] theorem c5 : Tryz.prog.cellsOf 5 = 1 := nrfl (by kernel_rfl)
@[go_sem] theorem by5 : Tryz.prog.bytesOf 5 = 1 := nrfl (by kernel_rfl)
@[go_sem] theorem z5 : zeroA Tryz.prog 5 = (.d (.int .u8 0)) := nrfl (by kernel_rfl)
@[go_sem] theorem c6 : Tryz.prog.cellsOf 6 = 1 := nrfl (by kernel_rfl)
@[go_sem] theorem by6 : Tryz.prog.bytesOf 6 = 1 := nrfl (by kernel_rfl)
@[go_sem] theorem z6 : zeroA Tryz.prog 6 = (.d (.int .u8 0)) := nrfl (by kernel_rfl)
@[go_sem] theorem c7 : Tryz.prog.cellsOf 7 = 4 := nrfl (by kernel_rfl)
@[go_sem] theorem by7 : Tryz.prog.bytesOf 7 = 24 := nrfl (by kernel_rfl)
@[go_sem] theorem z7 : zeroA Tryz.prog 7 = (.agg [(.d (.int .i64 0)), (.d (.int .i64 0)), (.d (.bool false)), (.d (.int .u8 0))]) := nrfl (by kernel_rfl)
@[go_sem] theorem sp7 : structPlaces Tryz.prog 7 = some [(0, 1), (1, 1), (2, 1), (3, 1)] := nrfl (by kernel_rfl)
@[go_sem] theorem fo7_0 : fieldOff Tryz.prog 7 0 = some (0, 2) := by kernel_rfl
@[go_sem] theorem fo7_1 : fieldOff Tryz.prog 7 1 = some (1, 3) := by kernel_rfl
@[go_sem] theorem fo7_2 : fieldOff Tryz.prog 7 2 = some (2, 4) := by kernel_rfl
@[go_sem] theorem fo7_3 : fieldOff Tryz.prog 7 3 = some (3, 6) := by kernel_rfl
@[go_sem] theorem c8 : Tryz.prog.cellsOf 8 = 4 := nrfl (by kernel_rfl)
@[go_sem] theorem by8 : Tryz.prog.bytesOf 8 = 24 := nrfl (by kernel_rfl)
@[go_sem] theorem z8 : zeroA Tryz.prog 8 = (.agg [(.d (.int .i64 0)), (.d (.int .i64 0)), (.d (.bool false)), (.d (.int .u8 0))]) := nrfl (by kernel_rfl)
@[go_sem] theorem sp8 : structPlaces Tryz.prog 8 = some [(0, 1), (1, 1), (2, 1), (3, 1)] := nrfl (by kernel_rfl)
@[go_sem] theorem fo8_0 : fieldOff Tryz.prog 8 0 = some (0, 2) := by kernel_rfl
@[go_sem] theorem fo8_1 : fieldOff Tryz.prog 8 1 = some (1, 3) := by kernel_rfl
@[go_sem] theorem fo8_2 : fieldOff Tryz.prog 8 2 = some (2, 4) := by kernel_rfl
@[go_sem] theorem fo8_3 : fieldOff Tryz.prog 8 3 = some (3, 6) := by kernel_rfl
@[go_sem] theorem c9 : Tryz.prog.cellsOf 9 = 1 := nrfl (by kernel_rfl)
@[go_sem] theorem by9 : Tryz.prog.bytesOf 9 = 16 := nrfl (by kernel_rfl)
@[go_sem] theorem z9 : zeroA Tryz.prog 9 = (.d (.str [])) := nrfl (by kernel_rfl)
@[go_sem] theorem c10 : Tryz.prog.cellsOf 10 = 1 := nrfl (by kernel_rfl)
@[go_sem] theorem by10 : Tryz.prog.bytesOf 10 = 16 := nrfl (by kernel_rfl)
@[go_sem] theorem z10 : zeroA Tryz.prog 10 = (.d (.str [])) := nrfl (by kernel_rfl)
@[go_sem] theorem c11 : Tryz.prog.cellsOf 11 = 1 := nrfl (by kernel_rfl)
@[go_sem] theorem by11 : Tryz.prog.bytesOf 11 = 16 := nrfl (by kernel_rfl)
@[go_sem] theorem z11 : zeroA Tryz.prog 11 = (.d (.str [])) := nrfl (by kernel_rfl)
@[go_sem] theorem c12 : Tryz.prog.cellsOf 12 = 1 := nrfl (by kernel_rfl)
@[go_sem] theorem by12 : Tryz.prog.bytesOf 12 = 8 := nrfl (by kernel_rfl)
@[go_sem] theorem z12 : zeroA Tryz.prog 12 = (.d (.int .u64 0)) := nrfl (by kernel_rfl)
@[go_sem] theorem c13 : Tryz.prog.cellsOf 13 = 2 := nrfl (by kernel_rfl)
@[go_sem] theorem by13 : Tryz.prog.bytesOf 13 = 24 := nrfl (by kernel_rfl)
@[go_sem] theorem z13 : zeroA Tryz.prog 13 = (.agg [(.d (.str [])), (.d (.int .u64 0))]) := nrfl (by kernel_rfl)
@[go_sem] theorem sp13 : structPlaces Tryz.prog 13 = some [(0, 1), (1, 1)] := nrfl (by kernel_rfl)
@[go_sem] theorem fo13_0 : fieldOff Tryz.prog 13 0 = some (0, 9) := by kernel_rfl
@[go_sem] theorem fo13_1 : fieldOff Tryz.prog 13 1 = some (1, 12) := by kernel_rfl
@[go_sem] theorem c14 : Tryz.prog.cellsOf 14 = 2 := nrfl (by kernel_rfl)
@[go_sem] theorem by14 : Tryz.prog.bytesOf 14 = 24 := nrfl (by kernel_rfl)
@[go_sem] theorem z14 : zeroA Tryz.prog 14 = (.agg [(.d (.str [])), (.d (.int .u64 0))]) := nrfl (by kernel_rfl)
@[go_sem] theorem sp14 : structPlaces Tryz.prog 14 = some [(0, 1), (1, 1)] := nrfl (by kernel_rfl)
@[go_sem] theorem fo14_0 : fieldOff Tryz.prog 14 0 = some (0, 9) := by kernel_rfl
@[go_sem] theorem fo14_1 : fieldOff Tryz.prog 14 1 = some (1, 12) := by kernel_rfl
@[go_sem] theorem c15 : Tryz.prog.cellsOf 15 = 1 := nrfl (by kernel_rfl)
@[go_sem] theorem by15 : Tryz.prog.bytesOf 15 = 8 := nrfl (by kernel_rfl)
@[go_sem] theorem z15 : zeroA Tryz.prog 15 = (.d .nilptr) := nrfl (by kernel_rfl)
@[go_sem] theorem c16 : Tryz.prog.cellsOf 16 = 1 := nrfl (by kernel_rfl)
@[go_sem] theorem by16 : Tryz.prog.bytesOf 16 = 8 := nrfl (by kernel_rfl)
@[go_sem] theorem z16 : zeroA Tryz.prog 16 = (.d .nilptr) := nrfl (by kernel_rfl)
@[go_sem] theorem c17 : Tryz.prog.cellsOf 17 = 1 := nrfl (by kernel_rfl)
@[go_sem] theorem by17 : Tryz.prog.bytesOf 17 = 8 := nrfl (by kernel_rfl)
@[go_sem] theorem z17 : zeroA Tryz.prog 17 = (.d .nilptr) := nrfl (by kernel_rfl)
@[go_sem] theorem c18 : Tryz.prog.cellsOf 18 = 1 := nrfl (by kernel_rfl)
@[go_sem] theorem by18 : Tryz.prog.bytesOf 18 = 8 := nrfl (by kernel_rfl)
@[go_sem] theorem z18 : zeroA Tryz.prog 18 = (.agg [(.d .nilptr)]) := nrfl (by kernel_rfl)
@[go_sem] theorem sp18 : structPlaces Tryz.prog 18 = some [(0, 1)] := nrfl (by kernel_rfl)
@[go_sem] theorem fo18_0 : fieldOff Tryz.prog 18 0 = some (0, 17) := by kernel_rfl
@[go_sem] theorem c19 : Tryz.prog.cellsOf 19 = 1 := nrfl (by kernel_rfl)
@[go_sem] theorem by19 : Tryz.prog.bytesOf 19 = 8 := nrfl (by kernel_rfl)
@[go_sem] theorem z19 : zeroA Tryz.prog 19 = (.agg [(.d .nilptr)]) := nrfl (by kernel_rfl)
@[go_sem] theorem sp19 : structPlaces Tryz.prog 19 = some [(0, 1)] := nrfl (by kernel_rfl)
@[go_sem] theorem fo19_0 : fieldOff Tryz.prog 19 0 = some (0, 17) := by kernel_rfl
@[go_sem] theorem c20 : Tryz.prog.cellsOf 20 = 1 := nrfl (by kernel_rfl)
@[go_sem] theorem by20 : Tryz.prog.bytesOf 20 = 16 := nrfl (by kernel_rfl)
@[go_sem] theorem z20 : zeroA Tryz.prog 20 = (.d .niliface) := nrfl (by kernel_rfl)
@[go_sem] theorem c21 : Tryz.prog.cellsOf 21 = 1 := nrfl (by kernel_rfl)
@[go_sem] theorem by21 : Tryz.prog.bytesOf 21 = 4 := nrfl (by kernel_rfl)
@[go_sem] theorem z21 : zeroA Tryz.prog 21 = (.d (.int .i32 0)) := nrfl (by kernel_rfl)
@[go_sem] theorem c23 : Tryz.prog.cellsOf 23 = 1 := nrfl (by kernel_rfl)
@[go_sem] theorem by23 : Tryz.prog.bytesOf 23 = 24 := nrfl (by kernel_rfl)
@[go_sem] theorem z23 : zeroA Tryz.prog 23 = (.d .nilslice) := nrfl (by kernel_rfl)
@[go_sem] theorem c24 : Tryz.prog.cellsOf 24 = 1 := nrfl (by kernel_rfl)
@[go_sem] theorem by24 : Tryz.prog.bytesOf 24 = 8 := nrfl (by kernel_rfl)
@[go_sem] theorem z24 : zeroA Tryz.prog 24 = (.d (.int .i64 0)) := nrfl (by kernel_rfl)
@[go_sem] theorem c32 : Tryz.prog.cellsOf 32 = 6 := nrfl (by kernel_rfl)
@[go_sem] theorem by32 : Tryz.prog.bytesOf 32 = 64 := nrfl (by kernel_rfl)
@[go_sem] theorem z32 : zeroA Tryz.prog 32 = (.agg [(.d (.str [])), (.d (.str [])), (.d (.int .i64 0)), (.d (.int .i64 0)), (.d (.int .i64 0)), (.d (.int .i64 0))]) := nrfl (by kernel_rfl)
@[go_sem] theorem sp32 : structPlaces Tryz.prog 32 = some [(0, 1), (1, 1), (2, 1), (3, 1), (4, 1), (5, 1)] := nrfl (by kernel_rfl)
@[go_sem] theorem fo32_0 : fieldOff Tryz.prog 32 0 = some (0, 9) := by kernel_rfl
@[go_sem] theorem fo32_1 : fieldOff Tryz.prog 32 1 = some (1, 9) := by kernel_rfl
@[go_sem] theorem fo32_2 : fieldOff Tryz.prog 32 2 = some (2, 3) := by kernel_rfl
@[go_sem] theorem fo32_3 : fieldOff Tryz.prog 32 3 = some (3, 3) := by kernel_rfl
@[go_sem] theorem fo32_4 : fieldOff Tryz.prog 32 4 = some (4, 3) := by kernel_rfl
@[go_sem] theorem fo32_5 : fieldOff Tryz.prog 32 5 = some (5, 3) := by kernel_rfl
@[go_sem] theorem sk32 : structKinds Tryz.prog 32 = some [2, 2, 0, 0, 0, 0] := nrfl (by kernel_rfl)
@[go_sem] theorem c33 : Tryz.prog.cellsOf 33 = 6 := nrfl (by kernel_rfl)
@[go_sem] theorem by33 : Tryz.prog.bytesOf 33 = 64 := nrfl (by kernel_rfl)
@[go_sem] theorem z33 : zeroA Tryz.prog 33 = (.agg [(.d (.str [])), (.d (.str [])), (.d (.int .i64 0)), (.d (.int .i64 0)), (.d (.int .i64 0)), (.d (.int .i64 0))]) := nrfl (by kernel_rfl)
@[go_sem] theorem sp33 : structPlaces Tryz.prog 33 = some [(0, 1), (1, 1), (2, 1), (3, 1), (4, 1), (5, 1)] := nrfl (by kernel_rfl)
@[go_sem] theorem fo33_0 : fieldOff Tryz.prog 33 0 = some (0, 9) := by kernel_rfl
@[go_sem] theorem fo33_1 : fieldOff Tryz.prog 33 1 = some (1, 9) := by kernel_rfl
@[go_sem] theorem fo33_2 : fieldOff Tryz.prog 33 2 = some (2, 3) := by kernel_rfl
@[go_sem] theorem fo33_3 : fieldOff Tryz.prog 33 3 = some (3, 3) := by kernel_rfl
@[go_sem] theorem fo33_4 : fieldOff Tryz.prog 33 4 = some (4, 3) := by kernel_rfl
@[go_sem] theorem fo33_5 : fieldOff Tryz.prog 33 5 = some (5, 3) := by kernel_rfl
@[go_sem] theorem sk33 : structKinds Tryz.prog 33 = some [2, 2, 0, 0, 0, 0] := nrfl (by kernel_rfl)
@[go_sem] theorem c37 : Tryz.prog.cellsOf 37 = 1 := nrfl (by kernel_rfl)
@[go_sem] theorem by37 : Tryz.prog.bytesOf 37 = 24 := nrfl (by kernel_rfl)
@[go_sem] theorem z37 : zeroA Tryz.prog 37 = (.d .nilslice) := nrfl (by kernel_rfl)
@[go_sem] theorem c38 : Tryz.prog.cellsOf 38 = 1 := nrfl (by kernel_rfl)
@[go_sem] theorem by38 : Tryz.prog.bytesOf 38 = 24 := nrfl (by kernel_rfl)
@[go_sem] theorem z38 : zeroA Tryz.prog 38 = (.d .nilslice) := nrfl (by kernel_rfl)
@[go_sem] theorem c50 : Tryz.prog.cellsOf 50 = 1 := nrfl (by kernel_rfl)
@[go_sem] theorem by50 : Tryz.prog.bytesOf 50 = 8 := nrfl (by kernel_rfl)
@[go_sem] theorem z50 : zeroA Tryz.prog 50 = (.d .nilmap) := nrfl (by kernel_rfl)
@[go_sem] theorem c52 : Tryz.prog.cellsOf 52 = 1 := nrfl (by kernel_rfl)
@[go_sem] theorem by52 : Tryz.prog.bytesOf 52 = 8 := nrfl (by kernel_rfl)
@[go_sem] theorem z52 : zeroA Tryz.prog 52 = (.d .nilptr) := nrfl (by kernel_rfl)
@[go_sem] theorem c53 : Tryz.prog.cellsOf 53 = 2 := nrfl (by kernel_rfl)
@[go_sem] theorem by53 : Tryz.prog.bytesOf 53 = 32 := nrfl (by kernel_rfl)
@[go_sem] theorem z53 : zeroA Tryz.prog 53 = (.agg [(.d .nilptr), (.d .nilslice)]) := nrfl (by kernel_rfl)
@[go_sem] theorem sp53 : structPlaces Tryz.prog 53 = some [(0, 1), (1, 1)] := nrfl (by kernel_rfl)
@[go_sem] theorem fo53_0 : fieldOff Tryz.prog 53 0 = some (0, 52) := by kernel_rfl
@[go_sem] theorem fo53_1 : fieldOff Tryz.prog 53 1 = some (1, 38) := by kernel_rfl
@[go_sem] theorem c54 : Tryz.prog.cellsOf 54 = 2 := nrfl (by kernel_rfl)
@[go_sem] theorem by54 : Tryz.prog.bytesOf 54 = 32 := nrfl (by kernel_rfl)
@[go_sem] theorem z54 : zeroA Tryz.prog 54 = (.agg [(.d .nilptr), (.d .nilslice)]) := nrfl (by kernel_rfl)
@[go_sem] theorem sp54 : structPlaces Tryz.prog 54 = some [(0, 1), (1, 1)] := nrfl (by kernel_rfl)
@[go_sem] theorem fo54_0 : fieldOff Tryz.prog 54 0 = some (0, 52) := by kernel_rfl
@[go_sem] theorem fo54_1 : fieldOff Tryz.prog 54 1 = some (1, 38) := by kernel_rfl
@[go_sem] theorem c55 : Tryz.prog.cellsOf 55 = 1 := nrfl (by kernel_rfl)
@[go_sem] theorem by55 : Tryz.prog.bytesOf 55 = 16 := nrfl (by kernel_rfl)
@[go_sem] theorem z55 : zeroA Tryz.prog 55 = (.d .niliface) := nrfl (by kernel_rfl)
@[go_sem] theorem c56 : Tryz.prog.cellsOf 56 = 1 := nrfl (by kernel_rfl)
@[go_sem] theorem by56 : Tryz.prog.bytesOf 56 = 16 := nrfl (by kernel_rfl)
@[go_sem] theorem z56 : zeroA Tryz.prog 56 = (.d .niliface) := nrfl (by kernel_rfl)
@[go_sem] theorem c69 : Tryz.prog.cellsOf 69 = 1 := nrfl (by kernel_rfl)
@[go_sem] theorem by69 : Tryz.prog.bytesOf 69 = 8 := nrfl (by kernel_rfl)
@[go_sem] theorem z69 : zeroA Tryz.prog 69 = (.d .nilmap) := nrfl (by kernel_rfl)
@[go_sem] theorem c75 : Tryz.prog.cellsOf 75 = 1 := nrfl (by kernel_rfl)
@[go_sem] theorem by75 : Tryz.prog.bytesOf 75 = 24 := nrfl (by kernel_rfl)
@[go_sem] theorem z75 : zeroA Tryz.prog 75 = (.d .nilslice) := nrfl (by kernel_rfl)
@[go_sem] theorem c76 : Tryz.prog.cellsOf 76 = 1 := nrfl (by kernel_rfl)
@[go_sem] theorem by76 : Tryz.prog.bytesOf 76 = 24 := nrfl (by kernel_rfl)
@[go_sem] theorem z76 : zeroA Tryz.prog 76 = (.d .nilslice) := nrfl (by kernel_rfl)
@[go_sem] theorem c77 : Tryz.prog.cellsOf 77 = 5 := nrfl (by kernel_rfl)
@[go_sem] theorem by77 : Tryz.prog.bytesOf 77 = 72 := nrfl (by kernel_rfl)
@[go_sem] theorem z77 : zeroA Tryz.prog 77 = (.agg [(.d (.int .i64 0)), (.d .nilslice), (.d .nilslice), (.d (.int .i64 0)), (.d (.int .i64 0))]) := nrfl (by kernel_rfl)
@[go_sem] theorem sp77 : structPlaces Tryz.prog 77 = some [(0, 1), (1, 1), (2, 1), (3, 1), (4, 1)] := nrfl (by kernel_rfl)
@[go_sem] theorem fo77_0 : fieldOff Tryz.prog 77 0 = some (0, 3) := by kernel_rfl
@[go_sem] theorem fo77_1 : fieldOff Tryz.prog 77 1 = some (1, 75) := by kernel_rfl
@[go_sem] theorem fo77_2 : fieldOff Tryz.prog 77 2 = some (2, 76) := by kernel_rfl
@[go_sem] theorem fo77_3 : fieldOff Tryz.prog 77 3 = some (3, 3) := by kernel_rfl
@[go_sem] theorem fo77_4 : fieldOff Tryz.prog 77 4 = some (4, 3) := by kernel_rfl
@[go_sem] theorem c78 : Tryz.prog.cellsOf 78 = 5 := nrfl (by kernel_rfl)
@[go_sem] theorem by78 : Tryz.prog.bytesOf 78 = 72 := nrfl (by kernel_rfl)
@[go_sem] theorem z78 : zeroA Tryz.prog 78 = (.agg [(.d (.int .i64 0)), (.d .nilslice), (.d .nilslice), (.d (.int .i64 0)), (.d (.int .i64 0))]) := nrfl (by kernel_rfl)
@[go_sem] theorem sp78 : structPlaces Tryz.prog 78 = some [(0, 1), (1, 1), (2, 1), (3, 1), (4, 1)] := nrfl (by kernel_rfl)
@[go_sem] theorem fo78_0 : fieldOff Tryz.prog 78 0 = some (0, 3) := by kernel_rfl
@[go_sem] theorem fo78_1 : fieldOff Tryz.prog 78 1 = some (1, 75) := by kernel_rfl
@[go_sem] theorem fo78_2 : fieldOff Tryz.prog 78 2 = some (2, 76) := by kernel_rfl
@[go_sem] theorem fo78_3 : fieldOff Tryz.prog 78 3 = some (3, 3) := by kernel_rfl
@[go_sem] theorem fo78_4 : fieldOff Tryz.prog 78 4 = some (4, 3) := by kernel_rfl
@[go_sem] theorem c81 : Tryz.prog.cellsOf 81 = 1 := nrfl (by kernel_rfl)
@[go_sem] theorem by81 : Tryz.prog.bytesOf 81 = 8 := nrfl (by kernel_rfl)
@[go_sem] theorem z81 : zeroA Tryz.prog 81 = (.d .nilptr) := nrfl (by kernel_rfl)
@[go_sem] theorem c85 : Tryz.prog.cellsOf 85 = 1 := nrfl (by kernel_rfl)
@[go_sem] theorem by85 : Tryz.prog.bytesOf 85 = 24 := nrfl (by kernel_rfl)
@[go_sem] theorem z85 : zeroA Tryz.prog 85 = (.d .nilslice) := nrfl (by kernel_rfl)
@[go_sem] theorem c86 : Tryz.prog.cellsOf 86 = 2 := nrfl (by kernel_rfl)
@[go_sem] theorem by86 : Tryz.prog.bytesOf 86 = 16 := nrfl (by kernel_rfl)
@[go_sem] theorem z86 : zeroA Tryz.prog 86 = (.agg [(.d (.int .i64 0)), (.d (.int .i64 0))]) := nrfl (by kernel_rfl)
@[go_sem] theorem sp86 : structPlaces Tryz.prog 86 = some [(0, 1), (1, 1)] := nrfl (by kernel_rfl)
@[go_sem] theorem fo86_0 : fieldOff Tryz.prog 86 0 = some (0, 3) := by kernel_rfl
@[go_sem] theorem fo86_1 : fieldOff Tryz.prog 86 1 = some (1, 3) := by kernel_rfl
@[go_sem] theorem sk86 : structKinds Tryz.prog 86 = some [0, 0] := nrfl (by kernel_rfl)
@[go_sem] theorem c87 : Tryz.prog.cellsOf 87 = 2 := nrfl (by kernel_rfl)
@[go_sem] theorem by87 : Tryz.prog.bytesOf 87 = 16 := nrfl (by kernel_rfl)
@[go_sem] theorem z87 : zeroA Tryz.prog 87 = (.agg [(.d (.int .i64 0)), (.d (.int .i64 0))]) := nrfl (by kernel_rfl)
@[go_sem] theorem sp87 : structPlaces Tryz.prog 87 = some [(0, 1), (1, 1)] := nrfl (by kernel_rfl)
@[go_sem] theorem fo87_0 : fieldOff Tryz.prog 87 0 = some (0, 3) := by kernel_rfl
@[go_sem] theorem fo87_1 : fieldOff Tryz.prog 87 1 = some (1, 3) := by kernel_rfl
@[go_sem] theorem sk87 : structKinds Tryz.prog 87 = some [0, 0] := nrfl (by kernel_rfl)
@[go_sem] theorem c89 : Tryz.prog.cellsOf 89 = 256 := nrfl (by kernel_rfl)
@[go_sem] theorem by89 : Tryz.prog.bytesOf 89 = 256 := nrfl (by kernel_rfl)
@[go_sem] theorem z89 : zeroA Tryz.prog 89 = (.agg [(.d (.bool false)), (.d (.bool false)), (.d (.bool false)), (.d (.bool false)), (.d (.bool false)), (.d (.bool false)), (.d (.bool false)), (.d (.bool false)), (.d (.bool false)), (.d (.bool false)), (.d (.bool false)), (.d (.bool false)), (.d (.bool false)), (.d (.bool false)), (.d (.bool false)), (.d (.bool false)), (.d (.bool false)), (.d (.bool false)), (.d (.bool false)), (.d (.bool false)), (.d (.bool false)), (.d (.bool false)), (.d (.bool false)), (.d (.bool false)), (.d (.bool false)), (.d (.bool false)), (.d (.bool false)), (.d (.bool false)), (.d (.bool false)), (.d (.bool false)), (.d (.bool false)), (.d (.bool false)), (.d (.bool false)), (.d (.bool false)), (.d (.bool false)), (.d (.bool false)), (.d (.bool false)), (.d (.bool false)), (.d (.bool false)), (.d (.bool false)), (.d (.bool false)), (.d (.bool false)), (.d (.bool false)), (.d (.bool false)), (.d (.bool false)), (.d (.bool false)), (.d (.bool false)), (.d (.bool false)), (.d (.bool false)), (.d (.bool false)), (.d (.bool false)), (.d (.bool false)), (.d (.bool false)), (.d (.bool false)), (.d (.bool false)), (.d (.bool false)), (.d (.bool false)), (.d (.bool false)), (.d (.bool false)), (.d (.bool false)), (.d (.bool false)), (.d (.bool false)), (.d (.bool false)), (.d (.bool false)), (.d (.bool false)), (.d (.bool false)), (.d (.bool false)), (.d (.bool false)), (.d (.bool false)), (.d (.bool false)), (.d (.bool false)), (.d (.bool false)), (.d (.bool false)), (.d (.bool false)), (.d (.bool false)), (.d (.bool false)), (.d (.bool false)), (.d (.bool false)), (.d (.bool false)), (.d (.bool false)), (.d (.bool false)), (.d (.bool false)), (.d (.bool false)), (.d (.bool false)), (.d (.bool false)), (.d (.bool false)), (.d (.bool false)), (.d (.bool false)), (.d (.bool false)), (.d (.bool false)), (.d (.bool false)), (.d (.bool false)), (.d (.bool false)), (.d (.bool false)), (.d (.bool false)), (.d (.bool false)), (.d (.bool false)), (.d (.bool false)), (.d (.bool false)), (.d (.bool false)), (.d (.bool false)), (.d (.bool false)), (.d (.bool false)), (.d (.bool false)), (.d (.bool false)), (.d (.bool false)), (.d (.bool false)), (.d (.bool false)), (.d (.bool false)), (.d (.bool false)), (.d (.bool false)), (.d (.bool false)), (.d (.bool false)), (.d (.bool false)), (.d (.bool false)), (.d (.bool false)), (.d (.bool false)), (.d (.bool false)), (.d (.bool false)), (.d (.bool false)), (.d (.bool false)), (.d (.bool false)), (.d (.bool false)), (.d (.bool false)), (.d (.bool false)), (.d (.bool false)), (.d (.bool false)), (.d (.bool false)), (.d (.bool false)), (.d (.bool false)), (.d (.bool false)), (.d (.bool false)), (.d (.bool false)), (.d (.bool false)), (.d (.bool false)), (.d (.bool false)), (.d (.bool false)), (.d (.bool false)), (.d (.bool false)), (.d (.bool false)), (.d (.bool false)), (.d (.bool false)), (.d (.bool false)), (.d (.bool false)), (.d (.bool false)), (.d (.bool false)), (.d (.bool false)), (.d (.bool false)), (.d (.bool false)), (.d (.bool false)), (.d (.bool false)), (.d (.bool false)), (.d (.bool false)), (.d (.bool false)), (.d (.bool false)), (.d (.bool false)), (.d (.bool false)), (.d (.bool false)), (.d (.bool false)), (.d (.bool false)), (.d (.bool false)), (.d (.bool false)), (.d (.bool false)), (.d (.bool false)), (.d (.bool false)), (.d (.bool false)), (.d (.bool false)), (.d (.bool false)), (.d (.bool false)), (.d (.bool false)), (.d (.bool false)), (.d (.bool false)), (.d (.bool false)), (.d (.bool false)), (.d (.bool false)), (.d (.bool false)), (.d (.bool false)), (.d (.bool false)), (.d (.bool false)), (.d (.bool false)), (.d (.bool false)), (.d (.bool false)), (.d (.bool false)), (.d (.bool false)), (.d (.bool false)), (.d (.bool false)), (.d (.bool false)), (.d (.bool false)), (.d (.bool false)), (.d (.bool false)), (.d (.bool false)), (.d (.bool false)), (.d (.bool false)), (.d (.bool false)), (.d (.bool false)), (.d (.bool false)), (.d (.bool false)), (.d (.bool false)), (.d (.bool false)), (.d (.bool false)), (.d (.bool false)), (.d (.bool false)), (.d (.bool false)), (.d (.bool false)), (.d (.bool false)), (.d (.bool false)), (.d (.bool false)), (.d (.bool false)), (.d (.bool false)), (.d (.bool false)), (.d (.bool false)), (.d (.bool false)), (.d (.bool false)), (.d (.bool false)), (.d (.bool false)), (.d (.bool false)), (.d (.bool false)), (.d (.bool false)), (.d (.bool false)), (.d (.bool false)), (.d (.bool false)), (.d (.bool false)), (.d (.bool false)), (.d (.bool false)), (.d (.bool false)), (.d (.bool false)), (.d (.bool false)), (.d (.bool false)), (.d (.bool false)), (.d (.bool false)), (.d (.bool false)), (.d (.bool false)), (.d (.bool false)), (.d (.bool false)), (.d (.bool false)), (.d (.bool false)), (.d (.bool false)), (.d (.bool false)), (.d (.bool false)), (.d (.bool false)), (.d (.bool false)), (.d (.bool false)), (.d (.bool false)), (.d (.bool false)), (.d (.bool false)), (.d (.bool false)), (.d (.bool false)), (.d (.bool false)), (.d (.bool false)), (.d (.bool false)), (.d (.bool false)), (.d (.bool false)), (.d (.bool false)), (.d (.bool false)), (.d (.bool false)), (.d (.bool false))]) := nrfl (by kernel_rfl)
@[go_sem] theorem c90 : Tryz.prog.cellsOf 90 = 256 := nrfl (by kernel_rfl)
@[go_sem] theorem by90 : Tryz.prog.bytesOf 90 = 256 := nrfl (by kernel_rfl)
@[go_sem] theorem z90 : zeroA Tryz.prog 90 = (.agg [(.d (.bool false)), (.d (.bool false)), (.d (.bool false)), (.d (.bool false)), (.d (.bool false)), (.d (.bool false)), (.d (.bool false)), (.d (.bool false)), (.d (.bool false)), (.d (.bool false)), (.d (.bool false)), (.d (.bool false)), (.d (.bool false)), (.d (.bool false)), (.d (.bool false)), (.d (.bool false)), (.d (.bool false)), (.d (.bool false)), (.d (.bool false)), (.d (.bool false)), (.d (.bool false)), (.d (.bool false)), (.d (.bool false)), (.d (.bool false)), (.d (.bool false)), (.d (.bool false)), (.d (.bool false)), (.d (.bool false)), (.d (.bool false)), (.d (.bool false)), (.d (.bool false)), (.d (.bool false)), (.d (.bool false)), (.d (.bool false)), (.d (.bool false)), (.d (.bool false)), (.d (.bool false)), (.d (.bool false)), (.d (.bool false)), (.d (.bool false)), (.d (.bool false)), (.d (.bool false)), (.d (.bool false)), (.d (.bool false)), (.d (.bool false)), (.d (.bool false)), (.d (.bool false)), (.d (.bool false)), (.d (.bool false)), (.d (.bool false)), (.d (.bool false)), (.d (.bool false)), (.d (.bool false)), (.d (.bool false)), (.d (.bool false)), (.d (.bool false)), (.d (.bool false)), (.d (.bool false)), (.d (.bool false)), (.d (.bool false)), (.d (.bool false)), (.d (.bool false)), (.d (.bool false)), (.d (.bool false)), (.d (.bool false)), (.d (.bool false)), (.d (.bool false)), (.d (.bool false)), (.d (.bool false)), (.d (.bool false)), (.d (.bool false)), (.d (.bool false)), (.d (.bool false)), (.d (.bool false)), (.d (.bool false)), (.d (.bool false)), (.d (.bool false)), (.d (.bool false)), (.d (.bool false)), (.d (.bool false)), (.d (.bool false)), (.d (.bool false)), (.d (.bool false)), (.d (.bool false)), (.d (.bool false)), (.d (.bool false)), (.d (.bool false)), (.d (.bool false)), (.d (.bool false)), (.d (.bool false)), (.d (.bool false)), (.d (.bool false)), (.d (.bool false)), (.d (.bool false)), (.d (.bool false)), (.d (.bool false)), (.d (.bool false)), (.d (.bool false)), (.d (.bool false)), (.d (.bool false)), (.d (.bool false)), (.d (.bool false)), (.d (.bool false)), (.d (.bool false)), (.d (.bool false)), (.d (.bool false)), (.d (.bool false)), (.d (.bool false)), (.d (.bool false)), (.d (.bool false)), (.d (.bool false)), (.d (.bool false)), (.d (.bool false)), (.d (.bool false)), (.d (.bool false)), (.d (.bool false)), (.d (.bool false)), (.d (.bool false)), (.d (.bool false)), (.d (.bool false)), (.d (.bool false)), (.d (.bool false)), (.d (.bool false)), (.d (.bool false)), (.d (.bool false)), (.d (.bool false)), (.d (.bool false)), (.d (.bool false)), (.d (.bool false)), (.d (.bool false)), (.d (.bool false)), (.d (.bool false)), (.d (.bool false)), (.d (.bool false)), (.d (.bool false)), (.d (.bool false)), (.d (.bool false)), (.d (.bool false)), (.d (.bool false)), (.d (.bool false)), (.d (.bool false)), (.d (.bool false)), (.d (.bool false)), (.d (.bool false)), (.d (.bool false)), (.d (.bool false)), (.d (.bool false)), (.d (.bool false)), (.d (.bool false)), (.d (.bool false)), (.d (.bool false)), (.d (.bool false)), (.d (.bool false)), (.d (.bool false)), (.d (.bool false)), (.d (.bool false)), (.d (.bool false)), (.d (.bool false)), (.d (.bool false)), (.d (.bool false)), (.d (.bool false)), (.d (.bool false)), (.d (.bool false)), (.d (.bool false)), (.d (.bool false)), (.d (.bool false)), (.d (.bool false)), (.d (.bool false)), (.d (.bool false)), (.d (.bool false)), (.d (.bool false)), (.d (.bool false)), (.d (.bool false)), (.d (.bool false)), (.d (.bool false)), (.d (.bool false)), (.d (.bool false)), (.d (.bool false)), (.d (.bool false)), (.d (.bool false)), (.d (.bool false)), (.d (.bool false)), (.d (.bool false)), (.d (.bool false)), (.d (.bool false)), (.d (.bool false)), (.d (.bool false)), (.d (.bool false)), (.d (.bool false)), (.d (.bool false)), (.d (.bool false)), (.d (.bool false)), (.d (.bool false)), (.d (.bool false)), (.d (.bool false)), (.d (.bool false)), (.d (.bool false)), (.d (.bool false)), (.d (.bool false)), (.d (.bool false)), (.d (.bool false)), (.d (.bool false)), (.d (.bool false)), (.d (.bool false)), (.d (.bool false)), (.d (.bool false)), (.d (.bool false)), (.d (.bool false)), (.d (.bool false)), (.d (.bool false)), (.d (.bool false)), (.d (.bool false)), (.d (.bool false)), (.d (.bool false)), (.d (.bool false)), (.d (.bool false)), (.d (.bool false)), (.d (.bool false)), (.d (.bool false)), (.d (.bool false)), (.d (.bool false)), (.d (.bool false)), (.d (.bool false)), (.d (.bool false)), (.d (.bool false)), (.d (.bool false)), (.d (.bool false)), (.d (.bool false)), (.d (.bool false)), (.d (.bool false)), (.d (.bool false)), (.d (.bool false)), (.d (.bool false)), (.d (.bool false)), (.d (.bool false)), (.d (.bool false)), (.d (.bool false)), (.d (.bool false)), (.d (.bool false)), (.d (.bool false)), (.d (.bool false)), (.d (.bool false)), (.d (.bool false)), (.d (.bool false)), (.d (.bool false)), (.d (.bool false)), (.d (.bool false)), (.d (.bool false)), (.d (.bool false)), (.d (.bool false)), (.d (.bool false)), (.d (.bool false)), (.d (.bool false)), (.d (.bool false)), (.d (.bool false)), (.d (.bool false))]) := nrfl (by kernel_rfl)
@[go_sem] theorem c94 : Tryz.prog.cellsOf 94 = 1 := nrfl (by kernel_rfl)
@[go_sem] theorem by94 : Tryz.prog.bytesOf 94 = 8 := nrfl (by kernel_rfl)
@[go_sem] theorem z94 : zeroA Tryz.prog 94 = (.d .nilptr) := nrfl (by kernel_rfl)
@[go_sem] theorem c96 : Tryz.prog.cellsOf 96 = 1 := nrfl (by kernel_rfl)
@[go_sem] theorem by96 : Tryz.prog.bytesOf 96 = 8 := nrfl (by kernel_rfl)
@[go_sem] theorem z96 : zeroA Tryz.prog 96 = (.d (.int .u64 0)) := nrfl (by kernel_rfl)
@[go_sem] theorem c97 : Tryz.prog.cellsOf 97 = 0 := nrfl (by kernel_rfl)
@[go_sem] theorem by97 : Tryz.prog.bytesOf 97 = 0 := nrfl (by kernel_rfl)
@[go_sem] theorem z97 : zeroA Tryz.prog 97 = (.agg []) := nrfl (by kernel_rfl)
@[go_sem] theorem sp97 : structPlaces Tryz.prog 97 = some [] := nrfl (by kernel_rfl)
@[go_sem] theorem c98 : Tryz.prog.cellsOf 98 = 0 := nrfl (by kernel_rfl)
@[go_sem] theorem by98 : Tryz.prog.bytesOf 98 = 0 := nrfl (by kernel_rfl)
@[go_sem] theorem z98 : zeroA Tryz.prog 98 = (.agg []) := nrfl (by kernel_rfl)
@[go_sem] theorem sp98 : structPlaces Tryz.prog 98 = some [] := nrfl (by kernel_rfl)
@[go_sem] theorem c100 : Tryz.prog.cellsOf 100 = 1 := nrfl (by kernel_rfl)
@[go_sem] theorem by100 : Tryz.prog.bytesOf 100 = 8 := nrfl (by kernel_rfl)
@[go_sem] theorem z100 : zeroA Tryz.prog 100 = (.d .nilptr) := nrfl (by kernel_rfl)
@[go_sem] theorem c101 : Tryz.prog.cellsOf 101 = 1 := nrfl (by kernel_rfl)
@[go_sem] theorem by101 : Tryz.prog.bytesOf 101 = 24 := nrfl (by kernel_rfl)
@[go_sem] theorem z101 : zeroA Tryz.prog 101 = (.d .nilslice) := nrfl (by kernel_rfl)
@[go_sem] theorem c102 : Tryz.prog.cellsOf 102 = 2 := nrfl (by kernel_rfl)
@[go_sem] theorem by102 : Tryz.prog.bytesOf 102 = 32 := nrfl (by kernel_rfl)
@[go_sem] theorem z102 : zeroA Tryz.prog 102 = (.agg [(.d .nilslice), (.d (.int .i64 0))]) := nrfl (by kernel_rfl)
@[go_sem] theorem sp102 : structPlaces Tryz.prog 102 = some [(0, 1), (1, 1)] := nrfl (by kernel_rfl)
@[go_sem] theorem fo102_0 : fieldOff Tryz.prog 102 0 = some (0, 101) := by kernel_rfl
@[go_sem] theorem fo102_1 : fieldOff Tryz.prog 102 1 = some (1, 3) := by kernel_rfl
@[go_sem] theorem c103 : Tryz.prog.cellsOf 103 = 2 := nrfl (by kernel_rfl)
@[go_sem] theorem by103 : Tryz.prog.bytesOf 103 = 32 := nrfl (by kernel_rfl)
@[go_sem] theorem z103 : zeroA Tryz.prog 103 = (.agg [(.d .nilslice), (.d (.int .i64 0))]) := nrfl (by kernel_rfl)
@[go_sem] theorem sp103 : structPlaces Tryz.prog 103 = some [(0, 1), (1, 1)] := nrfl (by kernel_rfl)
@[go_sem] theorem fo103_0 : fieldOff Tryz.prog 103 0 = some (0, 101) := by kernel_rfl
@[go_sem] theorem fo103_1 : fieldOff Tryz.prog 103 1 = some (1, 3) := by kernel_rfl
@[go_sem] theorem c106 : Tryz.prog.cellsOf 106 = 1 := nrfl (by kernel_rfl)
@[go_sem] theorem by106 : Tryz.prog.bytesOf 106 = 8 := nrfl (by kernel_rfl)
@[go_sem] theorem z106 : zeroA Tryz.prog 106 = (.d .nilptr) := nrfl (by kernel_rfl)
@[go_sem] theorem c113 : Tryz.prog.cellsOf 113 = 1 := nrfl (by kernel_rfl)
@[go_sem] theorem by113 : Tryz.prog.bytesOf 113 = 4 := nrfl (by kernel_rfl)
@[go_sem] theorem z113 : zeroA Tryz.prog 113 = (.d (.int .u32 0)) := nrfl (by kernel_rfl)
@[go_sem] theorem c116 : Tryz.prog.cellsOf 116 = 24 := nrfl (by kernel_rfl)
@[go_sem] theorem by116 : Tryz.prog.bytesOf 116 = 24 := nrfl (by kernel_rfl)
@[go_sem] theorem z116 : zeroA Tryz.prog 116 = (.agg [(.d (.int .u8 0)), (.d (.int .u8 0)), (.d (.int .u8 0)), (.d (.int .u8 0)), (.d (.int .u8 0)), (.d (.int .u8 0)), (.d (.int .u8 0)), (.d (.int .u8 0)), (.d (.int .u8 0)), (.d (.int .u8 0)), (.d (.int .u8 0)), (.d (.int .u8 0)), (.d (.int .u8 0)), (.d (.int .u8 0)), (.d (.int .u8 0)), (.d (.int .u8 0)), (.d (.int .u8 0)), (.d (.int .u8 0)), (.d (.int .u8 0)), (.d (.int .u8 0)), (.d (.int .u8 0)), (.d (.int .u8 0)), (.d (.int .u8 0)), (.d (.int .u8 0))]) := nrfl (by kernel_rfl)
@[go_sem] theorem c117 : Tryz.prog.cellsOf 117 = 1 := nrfl (by kernel_rfl)
@[go_sem] theorem by117 : Tryz.prog.bytesOf 117 = 8 := nrfl (by kernel_rfl)
@[go_sem] theorem z117 : zeroA Tryz.prog 117 = (.d (.int .u64 0)) := nrfl (by kernel_rfl)
@[go_sem] theorem c122 : Tryz.prog.cellsOf 122 = 256 := nrfl (by kernel_rfl)
@[go_sem] theorem by122 : Tryz.prog.bytesOf 122 = 256 := nrfl (by kernel_rfl)
@[go_sem] theorem z122 : zeroA Tryz.prog 122 = (.agg [(.d (.int .u8 0)), (.d (.int .u8 0)), (.d (.int .u8 0)), (.d (.int .u8 0)), (.d (.int .u8 0)), (.d (.int .u8 0)), (.d (.int .u8 0)), (.d (.int .u8 0)), (.d (.int .u8 0)), (.d (.int .u8 0)), (.d (.int .u8 0)), (.d (.int .u8 0)), (.d (.int .u8 0)), (.d (.int .u8 0)), (.d (.int .u8 0)), (.d (.int .u8 0)), (.d (.int .u8 0)), (.d (.int .u8 0)), (.d (.int .u8 0)), (.d (.int .u8 0)), (.d (.int .u8 0)), (.d (.int .u8 0)), (.d (.int .u8 0)), (.d (.int .u8 0)), (.d (.int .u8 0)), (.d (.int .u8 0)), (.d (.int .u8 0)), (.d (.int .u8 0)), (.d (.int .u8 0)), (.d (.int .u8 0)), (.d (.int .u8 0)), (.d (.int .u8 0)), (.d (.int .u8 0)), (.d (.int .u8 0)), (.d (.int .u8 0)), (.d (.int .u8 0)), (.d (.int .u8 0)), (.d (.int .u8 0)), (.d (.int .u8 0)), (.d (.int .u8 0)), (.d (.int .u8 0)), (.d (.int .u8 0)), (.d (.int .u8 0)), (.d (.int .u8 0)), (.d (.int .u8 0)), (.d (.int .u8 0)), (.d (.int .u8 0)), (.d (.int .u8 0)), (.d (.int .u8 0)), (.d (.int .u8 0)), (.d (.int .u8 0)), (.d (.int .u8 0)), (.d (.int .u8 0)), (.d (.int .u8 0)), (.d (.int .u8 0)), (.d (.int .u8 0)), (.d (.int .u8 0)), (.d (.int .u8 0)), (.d (.int .u8 0)), (.d (.int .u8 0)), (.d (.int .u8 0)), (.d (.int .u8 0)), (.d (.int .u8 0)), (.d (.int .u8 0)), (.d (.int .u8 0)), (.d (.int .u8 0)), (.d (.int .u8 0)), (.d (.int .u8 0)), (.d (.int .u8 0)), (.d (.int .u8 0)), (.d (.int .u8 0)), (.d (.int .u8 0)), (.d (.int .u8 0)), (.d (.int .u8 0)), (.d (.int .u8 0)), (.d (.int .u8 0)), (.d (.int .u8 0)), (.d (.int .u8 0)), (.d (.int .u8 0)), (.d (.int .u8 0)), (.d (.int .u8 0)), (.d (.int .u8 0)), (.d (.int .u8 0)), (.d (.int .u8 0)), (.d (.int .u8 0)), (.d (.int .u8 0)), (.d (.int .u8 0)), (.d (.int .u8 0)), (.d (.int .u8 0)), (.d (.int .u8 0)), (.d (.int .u8 0)), (.d (.int .u8 0)), (.d (.int .u8 0)), (.d (.int .u8 0)), (.d (.int .u8 0)), (.d (.int .u8 0)), (.d (.int .u8 0)), (.d (.int .u8 0)), (.d (.int .u8 0)), (.d (.int .u8 0)), (.d (.int .u8 0)), (.d (.int .u8 0)), (.d (.int .u8 0)), (.d (.int .u8 0)), (.d (.int .u8 0)), (.d (.int .u8 0)), (.d (.int .u8 0)), (.d (.int .u8 0)), (.d (.int .u8 0)), (.d (.int .u8 0)), (.d (.int .u8 0)), (.d (.int .u8 0)), (.d (.int .u8 0)), (.d (.int .u8 0)), (.d (.int .u8 0)), (.d (.int .u8 0)), (.d (.int .u8 0)), (.d (.int .u8 0)), (.d (.int .u8 0)), (.d (.int .u8 0)), (.d (.int .u8 0)), (.d (.int .u8 0)), (.d (.int .u8 0)), (.d (.int .u8 0)), (.d (.int .u8 0)), (.d (.int .u8 0)), (.d (.int .u8 0)), (.d (.int .u8 0)), (.d (.int .u8 0)), (.d (.int .u8 0)), (.d (.int .u8 0)), (.d (.int .u8 0)), (.d (.int .u8 0)), (.d (.int .u8 0)), (.d (.int .u8 0)), (.d (.int .u8 0)), (.d (.int .u8 0)), (.d (.int .u8 0)), (.d (.int .u8 0)), (.d (.int .u8 0)), (.d (.int .u8 0)), (.d (.int .u8 0)), (.d (.int .u8 0)), (.d (.int .u8 0)), (.d (.int .u8 0)), (.d (.int .u8 0)), (.d (.int .u8 0)), (.d (.int .u8 0)), (.d (.int .u8 0)), (.d (.int .u8 0)), (.d (.int .u8 0)), (.d (.int .u8 0)), (.d (.int .u8 0)), (.d (.int .u8 0)), (.d (.int .u8 0)), (.d (.int .u8 0)), (.d (.int .u8 0)), (.d (.int .u8 0)), (.d (.int .u8 0)), (.d (.int .u8 0)), (.d (.int .u8 0)), (.d (.int .u8 0)), (.d (.int .u8 0)), (.d (.int .u8 0)), (.d (.int .u8 0)), (.d (.int .u8 0)), (.d (.int .u8 0)), (.d (.int .u8 0)), (.d (.int .u8 0)), (.d (.int .u8 0)), (.d (.int .u8 0)), (.d (.int .u8 0)), (.d (.int .u8 0)), (.d (.int .u8 0)), (.d (.int .u8 0)), (.d (.int .u8 0)), (.d (.int .u8 0)), (.d (.int .u8 0)), (.d (.int .u8 0)), (.d (.int .u8 0)), (.d (.int .u8 0)), (.d (.int .u8 0)), (.d (.int .u8 0)), (.d (.int .u8 0)), (.d (.int .u8 0)), (.d (.int .u8 0)), (.d (.int .u8 0)), (.d (.int .u8 0)), (.d (.int .u8 0)), (.d (.int .u8 0)), (.d (.int .u8 0)), (.d (.int .u8 0)), (.d (.int .u8 0)), (.d (.int .u8 0)), (.d (.int .u8 0)), (.d (.int .u8 0)), (.d (.int .u8 0)), (.d (.int .u8 0)), (.d (.int .u8 0)), (.d (.int .u8 0)), (.d (.int .u8 0)), (.d (.int .u8 0)), (.d (.int .u8 0)), (.d (.int .u8 0)), (.d (.int .u8 0)), (.d (.int .u8 0)), (.d (.int .u8 0)), (.d (.int .u8 0)), (.d (.int .u8 0)), (.d (.int .u8 0)), (.d (.int .u8 0)), (.d (.int .u8 0)), (.d (.int .u8 0)), (.d (.int .u8 0)), (.d (.int .u8 0)), (.d (.int .u8 0)), (.d (.int .u8 0)), (.d (.int .u8 0)), (.d (.int .u8 0)), (.d (.int .u8 0)), (.d (.int .u8 0)), (.d (.int .u8 0)), (.d (.int .u8 0)), (.d (.int .u8 0)), (.d (.int .u8 0)), (.d (.int .u8 0)), (.d (.int .u8 0)), (.d (.int .u8 0)), (.d (.int .u8 0)), (.d (.int .u8 0)), (.d (.int .u8 0)), (.d (.int .u8 0)), (.d (.int .u8 0)), (.d (.int .u8 0)), (.d (.int .u8 0)), (.d (.int .u8 0)), (.d (.int .u8 0)), (.d (.int .u8 0)), (.d (.int .u8 0)), (.d (.int .u8 0)), (.d (.int .u8 0)), (.d (.int .u8 0)), (.d (.int .u8 0)), (.d (.int .u8 0)), (.d (.int .u8 0)), (.d (.int .u8 0)), (.d (.int .u8 0)), (.d (.int .u8 0)), (.d (.int .u8 0)), (.d (.int .u8 0)), (.d (.int .u8 0)), (.d (.int .u8 0)), (.d (.int .u8 0)), (.d (.int .u8 0)), (.d (.int .u8 0)), (.d (.int .u8 0))]) := nrfl (by kernel_rfl)
@[go_sem] theorem c123 : Tryz.prog.cellsOf 123 = 2 := nrfl (by kernel_rfl)
@[go_sem] theorem by123 : Tryz.prog.bytesOf 123 = 2 := nrfl (by kernel_rfl)
@[go_sem] theorem z123 : zeroA Tryz.prog 123 = (.agg [(.d (.int .u8 0)), (.d (.int .u8 0))]) := nrfl (by kernel_rfl)
@[go_sem] theorem sp123 : structPlaces Tryz.prog 123 = some [(0, 1), (1, 1)] := nrfl (by kernel_rfl)
@[go_sem] theorem fo123_0 : fieldOff Tryz.prog 123 0 = some (0, 5) := by kernel_rfl
@[go_sem] theorem fo123_1 : fieldOff Tryz.prog 123 1 = some (1, 5) := by kernel_rfl
@[go_sem] theorem sk123 : structKinds Tryz.prog 123 = some [0, 0] := nrfl (by kernel_rfl)
@[go_sem] theorem c124 : Tryz.prog.cellsOf 124 = 2 := nrfl (by kernel_rfl)
@[go_sem] theorem by124 : Tryz.prog.bytesOf 124 = 2 := nrfl (by kernel_rfl)
@[go_sem] theorem z124 : zeroA Tryz.prog 124 = (.agg [(.d (.int .u8 0)), (.d (.int .u8 0))]) := nrfl (by kernel_rfl)
@[go_sem] theorem sp124 : structPlaces Tryz.prog 124 = some [(0, 1), (1, 1)] := nrfl (by kernel_rfl)
@[go_sem] theorem fo124_0 : fieldOff Tryz.prog 124 0 = some (0, 5) := by kernel_rfl
@[go_sem] theorem fo124_1 : fieldOff Tryz.prog 124 1 = some (1, 5) := by kernel_rfl
@[go_sem] theorem sk124 : structKinds Tryz.prog 124 = some [0, 0] := nrfl (by kernel_rfl)
@[go_sem] theorem c125 : Tryz.prog.cellsOf 125 = 32 := nrfl (by kernel_rfl)
@[go_sem] theorem by125 : Tryz.prog.bytesOf 125 = 32 := nrfl (by kernel_rfl)
@[go_sem] theorem z125 : zeroA Tryz.prog 125 = (.agg [(.d (.int .u8 0)), (.d (.int .u8 0)), (.d (.int .u8 0)), (.d (.int .u8 0)), (.d (.int .u8 0)), (.d (.int .u8 0)), (.d (.int .u8 0)), (.d (.int .u8 0)), (.d (.int .u8 0)), (.d (.int .u8 0)), (.d (.int .u8 0)), (.d (.int .u8 0)), (.d (.int .u8 0)), (.d (.int .u8 0)), (.d (.int .u8 0)), (.d (.int .u8 0)), (.d (.int .u8 0)), (.d (.int .u8 0)), (.d (.int .u8 0)), (.d (.int .u8 0)), (.d (.int .u8 0)), (.d (.int .u8 0)), (.d (.int .u8 0)), (.d (.int .u8 0)), (.d (.int .u8 0)), (.d (.int .u8 0)), (.d (.int .u8 0)), (.d (.int .u8 0)), (.d (.int .u8 0)), (.d (.int .u8 0)), (.d (.int .u8 0)), (.d (.int .u8 0))]) := nrfl (by kernel_rfl)
@[go_sem] theorem c127 : Tryz.prog.cellsOf 127 = 1 := nrfl (by kernel_rfl)
@[go_sem] theorem by127 : Tryz.prog.bytesOf 127 = 8 := nrfl (by kernel_rfl)
@[go_sem] theorem z127 : zeroA Tryz.prog 127 = (.d (.int .i64 0)) := nrfl (by kernel_rfl)
@[go_sem] theorem c130 : Tryz.prog.cellsOf 130 = 1 := nrfl (by kernel_rfl)
@[go_sem] theorem by130 : Tryz.prog.bytesOf 130 = 8 := nrfl (by kernel_rfl)
@[go_sem] theorem z130 : zeroA Tryz.prog 130 = (.d .nilptr) := nrfl (by kernel_rfl)
@[go_sem] theorem c135 : Tryz.prog.cellsOf 135 = 20 := nrfl (by kernel_rfl)
@[go_sem] theorem by135 : Tryz.prog.bytesOf 135 = 160 := nrfl (by kernel_rfl)
@[go_sem] theorem z135 : zeroA Tryz.prog 135 = (.agg [(.d (.int .u64 0)), (.d (.int .u64 0)), (.d (.int .u64 0)), (.d (.int .u64 0)), (.d (.int .u64 0)), (.d (.int .u64 0)), (.d (.int .u64 0)), (.d (.int .u64 0)), (.d (.int .u64 0)), (.d (.int .u64 0)), (.d (.int .u64 0)), (.d (.int .u64 0)), (.d (.int .u64 0)), (.d (.int .u64 0)), (.d (.int .u64 0)), (.d (.int .u64 0)), (.d (.int .u64 0)), (.d (.int .u64 0)), (.d (.int .u64 0)), (.d (.int .u64 0))]) := nrfl (by kernel_rfl)
@[go_sem] theorem c136 : Tryz.prog.cellsOf 136 = 65 := nrfl (by kernel_rfl)
@[go_sem] theorem by136 : Tryz.prog.bytesOf 136 = 65 := nrfl (by kernel_rfl)
@[go_sem] theorem z136 : zeroA Tryz.prog 136 = (.agg [(.d (.int .u8 0)), (.d (.int .u8 0)), (.d (.int .u8 0)), (.d (.int .u8 0)), (.d (.int .u8 0)), (.d (.int .u8 0)), (.d (.int .u8 0)), (.d (.int .u8 0)), (.d (.int .u8 0)), (.d (.int .u8 0)), (.d (.int .u8 0)), (.d (.int .u8 0)), (.d (.int .u8 0)), (.d (.int .u8 0)), (.d (.int .u8 0)), (.d (.int .u8 0)), (.d (.int .u8 0)), (.d (.int .u8 0)), (.d (.int .u8 0)), (.d (.int .u8 0)), (.d (.int .u8 0)), (.d (.int .u8 0)), (.d (.int .u8 0)), (.d (.int .u8 0)), (.d (.int .u8 0)), (.d (.int .u8 0)), (.d (.int .u8 0)), (.d (.int .u8 0)), (.d (.int .u8 0)), (.d (.int .u8 0)), (.d (.int .u8 0)), (.d (.int .u8 0)), (.d (.int .u8 0)), (.d (.int .u8 0)), (.d (.int .u8 0)), (.d (.int .u8 0)), (.d (.int .u8 0)), (.d (.int .u8 0)), (.d (.int .u8 0)), (.d (.int .u8 0)), (.d (.int .u8 0)), (.d (.int .u8 0)), (.d (.int .u8 0)), (.d (.int .u8 0)), (.d (.int .u8 0)), (.d (.int .u8 0)), (.d (.int .u8 0)), (.d (.int .u8 0)), (.d (.int .u8 0)), (.d (.int .u8 0)), (.d (.int .u8 0)), (.d (.int .u8 0)), (.d (.int .u8 0)), (.d (.int .u8 0)), (.d (.int .u8 0)), (.d (.int .u8 0)), (.d (.int .u8 0)), (.d (.int .u8 0)), (.d (.int .u8 0)), (.d (.int .u8 0)), (.d (.int .u8 0)), (.d (.int .u8 0)), (.d (.int .u8 0)), (.d (.int .u8 0)), (.d (.int .u8 0))]) := nrfl (by kernel_rfl)
@[go_sem] theorem c142 : Tryz.prog.cellsOf 142 = 3 := nrfl (by kernel_rfl)
@[go_sem] theorem by142 : Tryz.prog.bytesOf 142 = 48 := nrfl (by kernel_rfl)
@[go_sem] theorem z142 : zeroA Tryz.prog 142 = (.agg [(.d (.str [])), (.d (.str [])), (.d .niliface)]) := nrfl (by kernel_rfl)
@[go_sem] theorem sp142 : structPlaces Tryz.prog 142 = some [(0, 1), (1, 1), (2, 1)] := nrfl (by kernel_rfl)
@[go_sem] theorem fo142_0 : fieldOff Tryz.prog 142 0 = some (0, 9) := by kernel_rfl
@[go_sem] theorem fo142_1 : fieldOff Tryz.prog 142 1 = some (1, 9) := by kernel_rfl
@[go_sem] theorem fo142_2 : fieldOff Tryz.prog 142 2 = some (2, 56) := by kernel_rfl
@[go_sem] theorem c143 : Tryz.prog.cellsOf 143 = 3 := nrfl (by kernel_rfl)
@[go_sem] theorem by143 : Tryz.prog.bytesOf 143 = 48 := nrfl (by kernel_rfl)
@[go_sem] theorem z143 : zeroA Tryz.prog 143 = (.agg [(.d (.str [])), (.d (.str [])), (.d .niliface)]) := nrfl (by kernel_rfl)
@[go_sem] theorem sp143 : structPlaces Tryz.prog 143 = some [(0, 1), (1, 1), (2, 1)] := nrfl (by kernel_rfl)
@[go_sem] theorem fo143_0 : fieldOff Tryz.prog 143 0 = some (0, 9) := by kernel_rfl
@[go_sem] theorem fo143_1 : fieldOff Tryz.prog 143 1 = some (1, 9) := by kernel_rfl
@[go_sem] theorem fo143_2 : fieldOff Tryz.prog 143 2 = some (2, 56) := by kernel_rfl
@[go_sem] theorem c149 : Tryz.prog.cellsOf 149 = 1 := nrfl (by kernel_rfl)
@[go_sem] theorem by149 : Tryz.prog.bytesOf 149 = 8 := nrfl (by kernel_rfl)
@[go_sem] theorem z149 : zeroA Tryz.prog 149 = (.d .nilptr) := nrfl (by kernel_rfl)
@[go_sem] theorem c150 : Tryz.prog.cellsOf 150 = 1 := nrfl (by kernel_rfl)
@[go_sem] theorem by150 : Tryz.prog.bytesOf 150 = 16 := nrfl (by kernel_rfl)
@[go_sem] theorem z150 : zeroA Tryz.prog 150 = (.agg [(.d (.str []))]) := nrfl (by kernel_rfl)
@[go_sem] theorem sp150 : structPlaces Tryz.prog 150 = some [(0, 1)] := nrfl (by kernel_rfl)
@[go_sem] theorem fo150_0 : fieldOff Tryz.prog 150 0 = some (0, 9) := by kernel_rfl
@[go_sem] theorem sk150 : structKinds Tryz.prog 150 = some [2] := nrfl (by kernel_rfl)
@[go_sem] theorem c151 : Tryz.prog.cellsOf 151 = 1 := nrfl (by kernel_rfl)
@[go_sem] theorem by151 : Tryz.prog.bytesOf 151 = 16 := nrfl (by kernel_rfl)
@[go_sem] theorem z151 : zeroA Tryz.prog 151 = (.agg [(.d (.str []))]) := nrfl (by kernel_rfl)
@[go_sem] theorem sp151 : structPlaces Tryz.prog 151 = some [(0, 1)] := nrfl (by kernel_rfl)
@[go_sem] theorem fo151_0 : fieldOff Tryz.prog 151 0 = some (0, 9) := by kernel_rfl
@[go_sem] theorem sk151 : structKinds Tryz.prog 151 = some [2] := nrfl (by kernel_rfl)
@[go_sem] theorem c153 : Tryz.prog.cellsOf 153 = 2 := nrfl (by kernel_rfl)
@[go_sem] theorem by153 : Tryz.prog.bytesOf 153 = 8 := nrfl (by kernel_rfl)
@[go_sem] theorem z153 : zeroA Tryz.prog 153 = (.agg [(.d (.int .i32 0)), (.d (.int .i32 0))]) := nrfl (by kernel_rfl)
@[go_sem] theorem sp153 : structPlaces Tryz.prog 153 = some [(0, 1), (1, 1)] := nrfl (by kernel_rfl)
@[go_sem] theorem fo153_0 : fieldOff Tryz.prog 153 0 = some (0, 21) := by kernel_rfl
@[go_sem] theorem fo153_1 : fieldOff Tryz.prog 153 1 = some (1, 21) := by kernel_rfl
@[go_sem] theorem sk153 : structKinds Tryz.prog 153 = some [0, 0] := nrfl (by kernel_rfl)
@[go_sem] theorem c154 : Tryz.prog.cellsOf 154 = 2 := nrfl (by kernel_rfl)
@[go_sem] theorem by154 : Tryz.prog.bytesOf 154 = 8 := nrfl (by kernel_rfl)
@[go_sem] theorem z154 : zeroA Tryz.prog 154 = (.agg [(.d (.int .i32 0)), (.d (.int .i32 0))]) := nrfl (by kernel_rfl)
@[go_sem] theorem sp154 : structPlaces Tryz.prog 154 = some [(0, 1), (1, 1)] := nrfl (by kernel_rfl)
@[go_sem] theorem fo154_0 : fieldOff Tryz.prog 154 0 = some (0, 21) := by kernel_rfl
@[go_sem] theorem fo154_1 : fieldOff Tryz.prog 154 1 = some (1, 21) := by kernel_rfl
@[go_sem] theorem sk154 : structKinds Tryz.prog 154 = some [0, 0] := nrfl (by kernel_rfl)
@[go_sem] theorem c155 : Tryz.prog.cellsOf 155 = 32 := nrfl (by kernel_rfl)
@[go_sem] theorem by155 : Tryz.prog.bytesOf 155 = 32 := nrfl (by kernel_rfl)
@[go_sem] theorem z155 : zeroA Tryz.prog 155 = (.agg [(.d (.int .u8 0)), (.d (.int .u8 0)), (.d (.int .u8 0)), (.d (.int .u8 0)), (.d (.int .u8 0)), (.d (.int .u8 0)), (.d (.int .u8 0)), (.d (.int .u8 0)), (.d (.int .u8 0)), (.d (.int .u8 0)), (.d (.int .u8 0)), (.d (.int .u8 0)), (.d (.int .u8 0)), (.d (.int .u8 0)), (.d (.int .u8 0)), (.d (.int .u8 0)), (.d (.int .u8 0)), (.d (.int .u8 0)), (.d (.int .u8 0)), (.d (.int .u8 0)), (.d (.int .u8 0)), (.d (.int .u8 0)), (.d (.int .u8 0)), (.d (.int .u8 0)), (.d (.int .u8 0)), (.d (.int .u8 0)), (.d (.int .u8 0)), (.d (.int .u8 0)), (.d (.int .u8 0)), (.d (.int .u8 0)), (.d (.int .u8 0)), (.d (.int .u8 0))]) := nrfl (by kernel_rfl)
@[go_sem] theorem c156 : Tryz.prog.cellsOf 156 = 64 := nrfl (by kernel_rfl)
@[go_sem] theorem by156 : Tryz.prog.bytesOf 156 = 64 := nrfl (by kernel_rfl)
@[go_sem] theorem z156 : zeroA Tryz.prog 156 = (.agg [(.d (.int .u8 0)), (.d (.int .u8 0)), (.d (.int .u8 0)), (.d (.int .u8 0)), (.d (.int .u8 0)), (.d (.int .u8 0)), (.d (.int .u8 0)), (.d (.int .u8 0)), (.d (.int .u8 0)), (.d (.int .u8 0)), (.d (.int .u8 0)), (.d (.int .u8 0)), (.d (.int .u8 0)), (.d (.int .u8 0)), (.d (.int .u8 0)), (.d (.int .u8 0)), (.d (.int .u8 0)), (.d (.int .u8 0)), (.d (.int .u8 0)), (.d (.int .u8 0)), (.d (.int .u8 0)), (.d (.int .u8 0)), (.d (.int .u8 0)), (.d (.int .u8 0)), (.d (.int .u8 0)), (.d (.int .u8 0)), (.d (.int .u8 0)), (.d (.int .u8 0)), (.d (.int .u8 0)), (.d (.int .u8 0)), (.d (.int .u8 0)), (.d (.int .u8 0)), (.d (.int .u8 0)), (.d (.int .u8 0)), (.d (.int .u8 0)), (.d (.int .u8 0)), (.d (.int .u8 0)), (.d (.int .u8 0)), (.d (.int .u8 0)), (.d (.int .u8 0)), (.d (.int .u8 0)), (.d (.int .u8 0)), (.d (.int .u8 0)), (.d (.int .u8 0)), (.d (.int .u8 0)), (.d (.int .u8 0)), (.d (.int .u8 0)), (.d (.int .u8 0)), (.d (.int .u8 0)), (.d (.int .u8 0)), (.d (.int .u8 0)), (.d (.int .u8 0)), (.d (.int .u8 0)), (.d (.int .u8 0)), (.d (.int .u8 0)), (.d (.int .u8 0)), (.d (.int .u8 0)), (.d (.int .u8 0)), (.d (.int .u8 0)), (.d (.int .u8 0)), (.d (.int .u8 0)), (.d (.int .u8 0)), (.d (.int .u8 0)), (.d (.int .u8 0))]) := nrfl (by kernel_rfl)
@[go_sem] theorem c164 : Tryz.prog.cellsOf 164 = 1 := nrfl (by kernel_rfl)
@[go_sem] theorem by164 : Tryz.prog.bytesOf 164 = 8 := nrfl (by kernel_rfl)
@[go_sem] theorem z164 : zeroA Tryz.prog 164 = (.d (.int .i64 0)) := nrfl (by kernel_rfl)
@[go_sem] theorem c170 : Tryz.prog.cellsOf 170 = 1 := nrfl (by kernel_rfl)
@[go_sem] theorem by170 : Tryz.prog.bytesOf 170 = 8 := nrfl (by kernel_rfl)
@[go_sem] theorem z170 : zeroA Tryz.prog 170 = (.d (.int .u64 0)) := nrfl (by kernel_rfl)
@[go_sem] theorem c174 : Tryz.prog.cellsOf 174 = 1 := nrfl (by kernel_rfl)
@[go_sem] theorem by174 : Tryz.prog.bytesOf 174 = 8 := nrfl (by kernel_rfl)
@[go_sem] theorem z174 : zeroA Tryz.prog 174 = (.d .nilptr) := nrfl (by kernel_rfl)
@[go_sem] theorem c176 : Tryz.prog.cellsOf 176 = 1 := nrfl (by kernel_rfl)
@[go_sem] theorem by176 : Tryz.prog.bytesOf 176 = 8 := nrfl (by kernel_rfl)
@[go_sem] theorem z176 : zeroA Tryz.prog 176 = (.d .nilptr) := nrfl (by kernel_rfl)
@[go_sem] theorem c179 : Tryz.prog.cellsOf 179 = 4 := nrfl (by kernel_rfl)
@[go_sem] theorem by179 : Tryz.prog.bytesOf 179 = 40 := nrfl (by kernel_rfl)
@[go_sem] theorem z179 : zeroA Tryz.prog 179 = (.agg [(.d .nilptr), (.d .nilptr), (.d .nilptr), (.d (.str []))]) := nrfl (by kernel_rfl)
@[go_sem] theorem sp179 : structPlaces Tryz.prog 179 = some [(0, 1), (1, 1), (2, 1), (3, 1)] := nrfl (by kernel_rfl)
@[go_sem] theorem fo179_0 : fieldOff Tryz.prog 179 0 = some (0, 17) := by kernel_rfl
@[go_sem] theorem fo179_1 : fieldOff Tryz.prog 179 1 = some (1, 17) := by kernel_rfl
@[go_sem] theorem fo179_2 : fieldOff Tryz.prog 179 2 = some (2, 17) := by kernel_rfl
@[go_sem] theorem fo179_3 : fieldOff Tryz.prog 179 3 = some (3, 9) := by kernel_rfl
@[go_sem] theorem c180 : Tryz.prog.cellsOf 180 = 4 := nrfl (by kernel_rfl)
@[go_sem] theorem by180 : Tryz.prog.bytesOf 180 = 40 := nrfl (by kernel_rfl)
@[go_sem] theorem z180 : zeroA Tryz.prog 180 = (.agg [(.d .nilptr), (.d .nilptr), (.d .nilptr), (.d (.str []))]) := nrfl (by kernel_rfl)
@[go_sem] theorem sp180 : structPlaces Tryz.prog 180 = some [(0, 1), (1, 1), (2, 1), (3, 1)] := nrfl (by kernel_rfl)
@[go_sem] theorem fo180_0 : fieldOff Tryz.prog 180 0 = some (0, 17) := by kernel_rfl
@[go_sem] theorem fo180_1 : fieldOff Tryz.prog 180 1 = some (1, 17) := by kernel_rfl
@[go_sem] theorem fo180_2 : fieldOff Tryz.prog 180 2 = some (2, 17) := by kernel_rfl
@[go_sem] theorem fo180_3 : fieldOff Tryz.prog 180 3 = some (3, 9) := by kernel_rfl
@[go_sem] theorem c181 : Tryz.prog.cellsOf 181 = 0 := nrfl (by kernel_rfl)
@[go_sem] theorem by181 : Tryz.prog.bytesOf 181 = 0 := nrfl (by kernel_rfl)
@[go_sem] theorem z181 : zeroA Tryz.prog 181 = (.agg []) := nrfl (by kernel_rfl)
@[go_sem] theorem c182 : Tryz.prog.cellsOf 182 = 0 := nrfl (by kernel_rfl)
@[go_sem] theorem by182 : Tryz.prog.bytesOf 182 = 0 := nrfl (by kernel_rfl)
@[go_sem] theorem z182 : zeroA Tryz.prog 182 = (.agg []) := nrfl (by kernel_rfl)
@[go_sem] theorem sp182 : structPlaces Tryz.prog 182 = some [(0, 0)] := nrfl (by kernel_rfl)
@[go_sem] theorem c183 : Tryz.prog.cellsOf 183 = 0 := nrfl (by kernel_rfl)
@[go_sem] theorem by183 : Tryz.prog.bytesOf 183 = 0 := nrfl (by kernel_rfl)
@[go_sem] theorem z183 : zeroA Tryz.prog 183 = (.agg []) := nrfl (by kernel_rfl)
@[go_sem] theorem sp183 : structPlaces Tryz.prog 183 = some [(0, 0)] := nrfl (by kernel_rfl)
@[go_sem] theorem c184 : Tryz.prog.cellsOf 184 = 1 := nrfl (by kernel_rfl)
@[go_sem] theorem by184 : Tryz.prog.bytesOf 184 = 1 := nrfl (by kernel_rfl)
@[go_sem] theorem z184 : zeroA Tryz.prog 184 = (.d (.int .u8 0)) := nrfl (by kernel_rfl)
@[go_sem] theorem c185 : Tryz.prog.cellsOf 185 = 1 := nrfl (by kernel_rfl)
@[go_sem] theorem by185 : Tryz.prog.bytesOf 185 = 1 := nrfl (by kernel_rfl)
@[go_sem] theorem z185 : zeroA Tryz.prog 185 = (.d (.int .u8 0)) := nrfl (by kernel_rfl)
@[go_sem] theorem c187 : Tryz.prog.cellsOf 187 = 1 := nrfl (by kernel_rfl)
@[go_sem] theorem by187 : Tryz.prog.bytesOf 187 = 4 := nrfl (by kernel_rfl)
@[go_sem] theorem z187 : zeroA Tryz.prog 187 = (.d (.int .i32 0)) := nrfl (by kernel_rfl)
@[go_sem] theorem c188 : Tryz.prog.cellsOf 188 = 1 := nrfl (by kernel_rfl)
@[go_sem] theorem by188 : Tryz.prog.bytesOf 188 = 4 := nrfl (by kernel_rfl)
@[go_sem] theorem z188 : zeroA Tryz.prog 188 = (.d (.int .i32 0)) := nrfl (by kernel_rfl)
@[go_sem] theorem c189 : Tryz.prog.cellsOf 189 = 11 := nrfl (by kernel_rfl)
@[go_sem] theorem by189 : Tryz.prog.bytesOf 189 = 48 := nrfl (by kernel_rfl)
@[go_sem] theorem z189 : zeroA Tryz.prog 189 = (.agg [(.d (.int .u64 0)), (.d (.int .u64 0)), (.d (.int .u32 0)), (.d (.int .u8 0)), (.d (.int .u8 0)), (.d (.int .u8 0)), (.d (.int .u8 0)), (.d .nilfunc), (.d .nilptr), (.d (.int .i32 0)), (.d (.int .i32 0))]) := nrfl (by kernel_rfl)
@[go_sem] theorem sp189 : structPlaces Tryz.prog 189 = some [(0, 1), (1, 1), (2, 1), (3, 1), (4, 1), (5, 1), (6, 1), (7, 1), (8, 1), (9, 1), (10, 1)] := nrfl (by kernel_rfl)
@[go_sem] theorem fo189_0 : fieldOff Tryz.prog 189 0 = some (0, 12) := by kernel_rfl
@[go_sem] theorem fo189_1 : fieldOff Tryz.prog 189 1 = some (1, 12) := by kernel_rfl
@[go_sem] theorem fo189_2 : fieldOff Tryz.prog 189 2 = some (2, 113) := by kernel_rfl
@[go_sem] theorem fo189_3 : fieldOff Tryz.prog 189 3 = some (3, 184) := by kernel_rfl
@[go_sem] theorem fo189_4 : fieldOff Tryz.prog 189 4 = some (4, 5) := by kernel_rfl
@[go_sem] theorem fo189_5 : fieldOff Tryz.prog 189 5 = some (5, 5) := by kernel_rfl
@[go_sem] theorem fo189_6 : fieldOff Tryz.prog 189 6 = some (6, 185) := by kernel_rfl
@[go_sem] theorem fo189_7 : fieldOff Tryz.prog 189 7 = some (7, 186) := by kernel_rfl
@[go_sem] theorem fo189_8 : fieldOff Tryz.prog 189 8 = some (8, 81) := by kernel_rfl
@[go_sem] theorem fo189_9 : fieldOff Tryz.prog 189 9 = some (9, 187) := by kernel_rfl
@[go_sem] theorem fo189_10 : fieldOff Tryz.prog 189 10 = some (10, 188) := by kernel_rfl
@[go_sem] theorem c190 : Tryz.prog.cellsOf 190 = 11 := nrfl (by kernel_rfl)
@[go_sem] theorem by190 : Tryz.prog.bytesOf 190 = 48 := nrfl (by kernel_rfl)
@[go_sem] theorem z190 : zeroA Tryz.prog 190 = (.agg [(.d (.int .u64 0)), (.d (.int .u64 0)), (.d (.int .u32 0)), (.d (.int .u8 0)), (.d (.int .u8 0)), (.d (.int .u8 0)), (.d (.int .u8 0)), (.d .nilfunc), (.d .nilptr), (.d (.int .i32 0)), (.d (.int .i32 0))]) := nrfl (by kernel_rfl)
@[go_sem] theorem sp190 : structPlaces Tryz.prog 190 = some [(0, 1), (1, 1), (2, 1), (3, 1), (4, 1), (5, 1), (6, 1), (7, 1), (8, 1), (9, 1), (10, 1)] := nrfl (by kernel_rfl)
@[go_sem] theorem fo190_0 : fieldOff Tryz.prog 190 0 = some (0, 12) := by kernel_rfl
@[go_sem] theorem fo190_1 : fieldOff Tryz.prog 190 1 = some (1, 12) := by kernel_rfl
@[go_sem] theorem fo190_2 : fieldOff Tryz.prog 190 2 = some (2, 113) := by kernel_rfl
@[go_sem] theorem fo190_3 : fieldOff Tryz.prog 190 3 = some (3, 184) := by kernel_rfl
@[go_sem] theorem fo190_4 : fieldOff Tryz.prog 190 4 = some (4, 5) := by kernel_rfl
@[go_sem] theorem fo190_5 : fieldOff Tryz.prog 190 5 = some (5, 5) := by kernel_rfl
@[go_sem] theorem fo190_6 : fieldOff Tryz.prog 190 6 = some (6, 185) := by kernel_rfl
@[go_sem] theorem fo190_7 : fieldOff Tryz.prog 190 7 = some (7, 186) := by kernel_rfl
@[go_sem] theorem fo190_8 : fieldOff Tryz.prog 190 8 = some (8, 81) := by kernel_rfl
@[go_sem] theorem fo190_9 : fieldOff Tryz.prog 190 9 = some (9, 187) := by kernel_rfl
@[go_sem] theorem fo190_10 : fieldOff Tryz.prog 190 10 = some (10, 188) := by kernel_rfl

theorem foll : Tryz.prog.follows .mixedOrders = true := by kernel_rfl
@[go_sem] theorem pf0 : plainFn Tryz.prog 0 = false := nrfl (by kernel_rfl)
@[go_sem] theorem pf1 : plainFn Tryz.prog 1 = false := nrfl (by kernel_rfl)
@[go_sem] theorem pf2 : plainFn Tryz.prog 2 = true := nrfl (by kernel_rfl)
@[go_sem] theorem pf3 : plainFn Tryz.prog 3 = true := nrfl (by kernel_rfl)
@[go_sem] theorem pf4 : plainFn Tryz.prog 4 = true := nrfl (by kernel_rfl)
@[go_sem] theorem pf5 : plainFn Tryz.prog 5 = true := nrfl (by kernel_rfl)
@[go_sem] theorem pf6 : plainFn Tryz.prog 6 = true := nrfl (by kernel_rfl)
@[go_sem] theorem pf7 : plainFn Tryz.prog 7 = true := nrfl (by kernel_rfl)
@[go_sem] theorem pf8 : plainFn Tryz.prog 8 = true := nrfl (by kernel_rfl)
@[go_sem] theorem pf9 : plainFn Tryz.prog 9 = true := nrfl (by kernel_rfl)
@[go_sem] theorem pf10 : plainFn Tryz.prog 10 = true := nrfl (by kernel_rfl)
@[go_sem] theorem pf11 : plainFn Tryz.prog 11 = true := nrfl (by kernel_rfl)
@[go_sem] theorem pf12 : plainFn Tryz.prog 12 = true := nrfl (by kernel_rfl)
@[go_sem] theorem pf13 : plainFn Tryz.prog 13 = true := nrfl (by kernel_rfl)
@[go_sem] theorem pf14 : plainFn Tryz.prog 14 = true := nrfl (by kernel_rfl)
@[go_sem] theorem pf15 : plainFn Tryz.prog 15 = true := nrfl (by kernel_rfl)
@[go_sem] theorem pf16 : plainFn Tryz.prog 16 = true := nrfl (by kernel_rfl)
@[go_sem] theorem pf17 : plainFn Tryz.prog 17 = true := nrfl (by kernel_rfl)
@[go_sem] theorem pf18 : plainFn Tryz.prog 18 = true := nrfl (by kernel_rfl)
@[go_sem] theorem pf19 : plainFn Tryz.prog 19 = true := nrfl (by kernel_rfl)
@[go_sem] theorem pf20 : plainFn Tryz.prog 20 = true := nrfl (by kernel_rfl)
@[go_sem] theorem pf21 : plainFn Tryz.prog 21 = true := nrfl (by kernel_rfl)
@[go_sem] theorem pf22 : plainFn Tryz.prog 22 = true := nrfl (by kernel_rfl)
@[go_sem] theorem pf23 : plainFn Tryz.prog 23 = true := nrfl (by kernel_rfl)
@[go_sem] theorem pf24 : plainFn Tryz.prog 24 = false := nrfl (by kernel_rfl)
@[go_sem] theorem pf25 : plainFn Tryz.prog 25 = true := nrfl (by kernel_rfl)
@[go_sem] theorem pf26 : plainFn Tryz.prog 26 = true := nrfl (by kernel_rfl)
@[go_sem] theorem pf27 : plainFn Tryz.prog 27 = true := nrfl (by kernel_rfl)
@[go_sem] theorem pf28 : plainFn Tryz.prog 28 = true := nrfl (by kernel_rfl)
@[go_sem] theorem pf29 : plainFn Tryz.prog 29 = true := nrfl (by kernel_rfl)
@[go_sem] theorem pf30 : plainFn Tryz.prog 30 = true := nrfl (by kernel_rfl)
@[go_sem] theorem pf31 : plainFn Tryz.prog 31 = true := nrfl (by kernel_rfl)
@[go_sem] theorem pf32 : plainFn Tryz.prog 32 = true := nrfl (by kernel_rfl)
@[go_sem] theorem pf33 : plainFn Tryz.prog 33 = true := nrfl (by kernel_rfl)
@[go_sem] theorem pf34 : plainFn Tryz.prog 34 = true := nrfl (by kernel_rfl)
@[go_sem] theorem pf35 : plainFn Tryz.prog 35 = true := nrfl (by kernel_rfl)
@[go_sem] theorem pf36 : plainFn Tryz.prog 36 = true := nrfl (by kernel_rfl)
@[go_sem] theorem pf37 : plainFn Tryz.prog 37 = true := nrfl (by kernel_rfl)
@[go_sem] theorem pf38 : plainFn Tryz.prog 38 = true := nrfl (by kernel_rfl)
@[go_sem] theorem pf39 : plainFn Tryz.prog 39 = true := nrfl (by kernel_rfl)
@[go_sem] theorem pf40 : plainFn Tryz.prog 40 = true := nrfl (by kernel_rfl)
@[go_sem] theorem pf41 : plainFn Tryz.prog 41 = true := nrfl (by kernel_rfl)
@[go_sem] theorem pf42 : plainFn Tryz.prog 42 = true := nrfl (by kernel_rfl)
@[go_sem] theorem pf43 : plainFn Tryz.prog 43 = true := nrfl (by kernel_rfl)
@[go_sem] theorem pf44 : plainFn Tryz.prog 44 = true := nrfl (by kernel_rfl)
@[go_sem] theorem pf45 : plainFn Tryz.prog 45 = true := nrfl (by kernel_rfl)
@[go_sem] theorem pf46 : plainFn Tryz.prog 46 = true := nrfl (by kernel_rfl)
@[go_sem] theorem pf47 : plainFn Tryz.prog 47 = true := nrfl (by kernel_rfl)
@[go_sem] theorem pf48 : plainFn Tryz.prog 48 = true := nrfl (by kernel_rfl)
@[go_sem] theorem pf49 : plainFn Tryz.prog 49 = true := nrfl (by kernel_rfl)
@[go_sem] theorem pf50 : plainFn Tryz.prog 50 = true := nrfl (by kernel_rfl)
@[go_sem] theorem pf51 : plainFn Tryz.prog 51 = true := nrfl (by kernel_rfl)
@[go_sem] theorem pf52 : plainFn Tryz.prog 52 = true := nrfl (by kernel_rfl)
@[go_sem] theorem pf53 : plainFn Tryz.prog 53 = true := nrfl (by kernel_rfl)
@[go_sem] theorem pf54 : plainFn Tryz.prog 54 = true := nrfl (by kernel_rfl)
@[go_sem] theorem pf55 : plainFn Tryz.prog 55 = true := nrfl (by kernel_rfl)
@[go_sem] theorem pf56 : plainFn Tryz.prog 56 = true := nrfl (by kernel_rfl)
@[go_sem] theorem pf57 : plainFn Tryz.prog 57 = true := nrfl (by kernel_rfl)
@[go_sem] theorem pf58 : plainFn Tryz.prog 58 = true := nrfl (by kernel_rfl)
@[go_sem] theorem pf59 : plainFn Tryz.prog 59 = true := nrfl (by kernel_rfl)
@[go_sem] theorem pf60 : plainFn Tryz.prog 60 = false := nrfl (by kernel_rfl)
@[go_sem] theorem pf61 : plainFn Tryz.prog 61 = true := nrfl (by kernel_rfl)
@[go_sem] theorem pf62 : plainFn Tryz.prog 62 = true := nrfl (by kernel_rfl)
@[go_sem] theorem pf63 : plainFn Tryz.prog 63 = true := nrfl (by kernel_rfl)
@[go_sem] theorem pf64 : plainFn Tryz.prog 64 = true := nrfl (by kernel_rfl)
@[go_sem] theorem pf65 : plainFn Tryz.prog 65 = true := nrfl (by kernel_rfl)
@[go_sem] theorem pf66 : plainFn Tryz.prog 66 = true := nrfl (by kernel_rfl)
@[go_sem] theorem pf67 : plainFn Tryz.prog 67 = false := nrfl (by kernel_rfl)
@[go_sem] theorem ne67 : NoEsc Tryz.prog 67 = True := eq_true ⟨Tryz.f67, Tryz.func67, by kernel_rfl, by kernel_rfl, by kernel_rfl, by kernel_rfl⟩
@[go_sem] theorem pf68 : plainFn Tryz.prog 68 = true := nrfl (by kernel_rfl)
@[go_sem] theorem pf69 : plainFn Tryz.prog 69 = false := nrfl (by kernel_rfl)
@[go_sem] theorem pf70 : plainFn Tryz.prog 70 = true := nrfl (by kernel_rfl)
@[go_sem] theorem pf71 : plainFn Tryz.prog 71 = true := nrfl (by kernel_rfl)
@[go_sem] theorem pf72 : plainFn Tryz.prog 72 = true := nrfl (by kernel_rfl)
@[go_sem] theorem pf73 : plainFn Tryz.prog 73 = true := nrfl (by kernel_rfl)
@[go_sem] theorem pf74 : plainFn Tryz.prog 74 = true := nrfl (by kernel_rfl)
@[go_sem] theorem pf75 : plainFn Tryz.prog 75 = true := nrfl (by kernel_rfl)
@[go_sem] theorem pf76 : plainFn Tryz.prog 76 = true := nrfl (by kernel_rfl)
@[go_sem] theorem pf77 : plainFn Tryz.prog 77 = true := nrfl (by kernel_rfl)
@[go_sem] theorem pf78 : plainFn Tryz.prog 78 = true := nrfl (by kernel_rfl)
@[go_sem] theorem pf79 : plainFn Tryz.prog 79 = true := nrfl (by kernel_rfl)
@[go_sem] theorem pf80 : plainFn Tryz.prog 80 = false := nrfl (by kernel_rfl)
@[go_sem] theorem pf81 : plainFn Tryz.prog 81 = true := nrfl (by kernel_rfl)
@[go_sem] theorem pf82 : plainFn Tryz.prog 82 = true := nrfl (by kernel_rfl)
@[go_sem] theorem pf83 : plainFn Tryz.prog 83 = true := nrfl (by kernel_rfl)
@[go_sem] theorem pf84 : plainFn Tryz.prog 84 = true := nrfl (by kernel_rfl)
@[go_sem] theorem pf85 : plainFn Tryz.prog 85 = true := nrfl (by kernel_rfl)
@[go_sem] theorem pf86 : plainFn Tryz.prog 86 = true := nrfl (by kernel_rfl)
@[go_sem] theorem pf87 : plainFn Tryz.prog 87 = true := nrfl (by kernel_rfl)
@[go_sem] theorem pf88 : plainFn Tryz.prog 88 = true := nrfl (by kernel_rfl)
@[go_sem] theorem pf89 : plainFn Tryz.prog 89 = true := nrfl (by kernel_rfl)
@[go_sem] theorem pf90 : plainFn Tryz.prog 90 = true := nrfl (by kernel_rfl)
@[go_sem] theorem pf91 : plainFn Tryz.prog 91 = true := nrfl (by kernel_rfl)
@[go_sem] theorem pf92 : plainFn Tryz.prog 92 = true := nrfl (by kernel_rfl)
@[go_sem] theorem pf93 : plainFn Tryz.prog 93 = true := nrfl (by kernel_rfl)
@[go_sem] theorem pf94 : plainFn Tryz.prog 94 = true := nrfl (by kernel_rfl)
@[go_sem] theorem pf95 : plainFn Tryz.prog 95 = true := nrfl (by kernel_rfl)
@[go_sem] theorem pf96 : plainFn Tryz.prog 96 = true := nrfl (by kernel_rfl)
@[go_sem] theorem pf97 : plainFn Tryz.prog 97 = true := nrfl (by kernel_rfl)
@[go_sem] theorem pf98 : plainFn Tryz.prog 98 = true := nrfl (by kernel_rfl)
@[go_sem] theorem pf99 : plainFn Tryz.prog 99 = true := nrfl (by kernel_rfl)
@[go_sem] theorem pf100 : plainFn Tryz.prog 100 = true := nrfl (by kernel_rfl)
@[go_sem] theorem pf101 : plainFn Tryz.prog 101 = true := nrfl (by kernel_rfl)
@[go_sem] theorem pf102 : plainFn Tryz.prog 102 = true := nrfl (by kernel_rfl)
@[go_sem] theorem pf103 : plainFn Tryz.prog 103 = true := nrfl (by kernel_rfl)
@[go_sem] theorem pf104 : plainFn Tryz.prog 104 = true := nrfl (by kernel_rfl)
@[go_sem] theorem pf105 : plainFn Tryz.prog 105 = true := nrfl (by kernel_rfl)
@[go_sem] theorem pf106 : plainFn Tryz.prog 106 = true := nrfl (by kernel_rfl)
@[go_sem] theorem pf107 : plainFn Tryz.prog 107 = true := nrfl (by kernel_rfl)
@[go_sem] theorem pf108 : plainFn Tryz.prog 108 = true := nrfl (by kernel_rfl)
@[go_sem] theorem pf109 : plainFn Tryz.prog 109 = true := nrfl (by kernel_rfl)
@[go_sem] theorem pf110 : plainFn Tryz.prog 110 = true := nrfl (by kernel_rfl)
@[go_sem] theorem pf111 : plainFn Tryz.prog 111 = true := nrfl (by kernel_rfl)
@[go_sem] theorem pf112 : plainFn Tryz.prog 112 = true := nrfl (by kernel_rfl)
@[go_sem] theorem pf113 : plainFn Tryz.prog 113 = true := nrfl (by kernel_rfl)
@[go_sem] theorem pf114 : plainFn Tryz.prog 114 = true := nrfl (by kernel_rfl)
@[go_sem] theorem pf115 : plainFn Tryz.prog 115 = true := nrfl (by kernel_rfl)
@[go_sem] theorem pf116 : plainFn Tryz.prog 116 = true := nrfl (by kernel_rfl)
@[go_sem] theorem pf117 : plainFn Tryz.prog 117 = true := nrfl (by kernel_rfl)
@[go_sem] theorem pf118 : plainFn Tryz.prog 118 = true := nrfl (by kernel_rfl)
@[go_sem] theorem pf119 : plainFn Tryz.prog 119 = true := nrfl (by kernel_rfl)
@[go_sem] theorem pf120 : plainFn Tryz.prog 120 = true := nrfl (by kernel_rfl)
@[go_sem] theorem pf121 : plainFn Tryz.prog 121 = true := nrfl (by kernel_rfl)
@[go_sem] theorem pf122 : plainFn Tryz.prog 122 = true := nrfl (by kernel_rfl)
@[go_sem] theorem pf123 : plainFn Tryz.prog 123 = true := nrfl (by kernel_rfl)
@[go_sem] theorem pf124 : plainFn Tryz.prog 124 = true := nrfl (by kernel_rfl)
@[go_sem] theorem pf125 : plainFn Tryz.prog 125 = true := nrfl (by kernel_rfl)
@[go_sem] theorem pf126 : plainFn Tryz.prog 126 = true := nrfl (by kernel_rfl)
@[go_sem] theorem pf127 : plainFn Tryz.prog 127 = true := nrfl (by kernel_rfl)
@[go_sem] theorem pf128 : plainFn Tryz.prog 128 = true := nrfl (by kernel_rfl)
@[go_sem] theorem pf129 : plainFn Tryz.prog 129 = true := nrfl (by kernel_rfl)
@[go_sem] theorem pf130 : plainFn Tryz.prog 130 = true := nrfl (by kernel_rfl)
@[go_sem] theorem pf131 : plainFn Tryz.prog 131 = true := nrfl (by kernel_rfl)
@[go_sem] theorem pf132 : plainFn Tryz.prog 132 = true := nrfl (by kernel_rfl)
@[go_sem] theorem pf133 : plainFn Tryz.prog 133 = true := nrfl (by kernel_rfl)
@[go_sem] theorem pf134 : plainFn Tryz.prog 134 = true := nrfl (by kernel_rfl)
@[go_sem] theorem pf135 : plainFn Tryz.prog 135 = true := nrfl (by kernel_rfl)
@[go_sem] theorem pf136 : plainFn Tryz.prog 136 = true := nrfl (by kernel_rfl)
@[go_sem] theorem pf137 : plainFn Tryz.prog 137 = true := nrfl (by kernel_rfl)
@[go_sem] theorem pf138 : plainFn Tryz.prog 138 = true := nrfl (by kernel_rfl)
@[go_sem] theorem pf139 : plainFn Tryz.prog 139 = true := nrfl (by kernel_rfl)
@[go_sem] theorem pf140 : plainFn Tryz.prog 140 = true := nrfl (by kernel_rfl)
@[go_sem] theorem pf141 : plainFn Tryz.prog 141 = true := nrfl (by kernel_rfl)
@[go_sem] theorem pf142 : plainFn Tryz.prog 142 = true := nrfl (by kernel_rfl)
@[go_sem] theorem pf143 : plainFn Tryz.prog 143 = false := nrfl (by kernel_rfl)
@[go_sem] theorem pf144 : plainFn Tryz.prog 144 = false := nrfl (by kernel_rfl)
@[go_sem] theorem pf145 : plainFn Tryz.prog 145 = false := nrfl (by kernel_rfl)
@[go_sem] theorem pf146 : plainFn Tryz.prog 146 = false := nrfl (by kernel_rfl)
@[go_sem] theorem pf147 : plainFn Tryz.prog 147 = false := nrfl (by kernel_rfl)
@[go_sem] theorem pf148 : plainFn Tryz.prog 148 = false := nrfl (by kernel_rfl)
@[go_sem] theorem pf149 : plainFn Tryz.prog 149 = false := nrfl (by kernel_rfl)
@[go_sem] theorem pf150 : plainFn Tryz.prog 150 = false := nrfl (by kernel_rfl)
@[go_sem] theorem pf151 : plainFn Tryz.prog 151 = false := nrfl (by kernel_rfl)
@[go_sem] theorem pf152 : plainFn Tryz.prog 152 = false := nrfl (by kernel_rfl)
@[go_sem] theorem pf153 : plainFn Tryz.prog 153 = false := nrfl (by kernel_rfl)
@[go_sem] theorem pf154 : plainFn Tryz.prog 154 = false := nrfl (by kernel_rfl)
@[go_sem] theorem pf155 : plainFn Tryz.prog 155 = false := nrfl (by kernel_rfl)
@[go_sem] theorem pf156 : plainFn Tryz.prog 156 = false := nrfl (by kernel_rfl)
@[go_sem] theorem pf157 : plainFn Tryz.prog 157 = false := nrfl (by kernel_rfl)
@[go_sem] theorem pf158 : plainFn Tryz.prog 158 = false := nrfl (by kernel_rfl)
@[go_sem] theorem pf159 : plainFn Tryz.prog 159 = false := nrfl (by kernel_rfl)
@[go_sem] theorem pf160 : plainFn Tryz.prog 160 = false := nrfl (by kernel_rfl)
@[go_sem] theorem pf161 : plainFn Tryz.prog 161 = false := nrfl (by kernel_rfl)
@[go_sem] theorem pf162 : plainFn Tryz.prog 162 = false := nrfl (by kernel_rfl)
@[go_sem] theorem pf163 : plainFn Tryz.prog 163 = false := nrfl (by kernel_rfl)
@[go_sem] theorem pf164 : plainFn Tryz.prog 164 = false := nrfl (by kernel_rfl)
@[go_sem] theorem pf165 : plainFn Tryz.prog 165 = false := nrfl (by kernel_rfl)
@[go_sem] theorem pf166 : plainFn Tryz.prog 166 = false := nrfl (by kernel_rfl)
@[go_sem] theorem pf167 : plainFn Tryz.prog 167 = false := nrfl (by kernel_rfl)
@[go_sem] theorem pf168 : plainFn Tryz.prog 168 = false := nrfl (by kernel_rfl)
@[go_sem] theorem pf169 : plainFn Tryz.prog 169 = false := nrfl (by kernel_rfl)
@[go_sem] theorem pf170 : plainFn Tryz.prog 170 = false := nrfl (by kernel_rfl)
@[go_sem] theorem pf171 : plainFn Tryz.prog 171 = false := nrfl (by kernel_rfl)
@[go_sem] theorem pf172 : plainFn Tryz.prog 172 = true := nrfl (by kernel_rfl)

/-- narrator.pattern.clip -/
theorem fn119 : FnIs Tryz.prog 119 2 [Go.ResultVar.tmp 4] (.seq (.region [⟨some 4, Go.Op.assign (Go.Operand.const (Go.Value.slice none 0 0)), 75, none⟩])
    (.seq (.region [⟨some 5, Go.Op.assign (Go.Operand.const (Go.Value.slice none 0 0)), 75, none⟩])
    (.seq (.seq (.region [⟨some 10, Go.Op.call { callee := Go.Callee.value (Go.Operand.func 116), args := #[], argTypes := #[] }, 75, none⟩,
      ⟨some 11, Go.Op.call { callee := Go.Callee.builtin Go.Builtin.len, args := #[Go.Operand.tmp 10], argTypes := #[75] }, 3, none⟩,
      ⟨some 12, Go.Op.move (Go.Operand.const (Go.Value.int Go.IntKind.i64 0)), 3, none⟩])
    (.block 0
      (.loop
        (.seq (.region [⟨some 13, Go.Op.binOp Go.BinOp.lss 3 (Go.Operand.tmp 12) (Go.Operand.tmp 11) 3, 0, none⟩])
        (.seq (.cond (Go.Operand.tmp 13)
          .skip
          (.exit 0))
        (.seq (.block 1
          (.seq (.region [⟨some 14, Go.Op.indexAddr 75 (Go.Operand.tmp 10) (Go.Operand.tmp 12), 0, none⟩,
            ⟨some 15, Go.Op.load 154 (Go.Operand.tmp 14), 154, none⟩,
            ⟨some 7, Go.Op.alloc 154, 0, none⟩,
            ⟨none, Go.Op.store 154 (Go.Operand.tmp 7) (Go.Operand.tmp 15), 0, none⟩])
          (.seq (.draw [⟨⟨some 16, Go.Op.move (Go.Operand.tmp 0), 21, none⟩, false, false, false⟩,
            ⟨⟨some 17, Go.Op.fieldAddr 154 (Go.Operand.tmp 7) 0, 0, none⟩, false, false, false⟩,
            ⟨⟨some 18, Go.Op.load 21 (Go.Operand.tmp 17), 21, none⟩, false, false, false⟩,
            ⟨⟨some 19, Go.Op.call { callee := Go.Callee.builtin Go.Builtin.max, args := #[Go.Operand.tmp 16, Go.Operand.tmp 18], argTypes := #[21, 21] }, 21, none⟩, false, false, false⟩,
            ⟨⟨some 20, Go.Op.move (Go.Operand.tmp 1), 21, none⟩, false, false, false⟩,
            ⟨⟨some 21, Go.Op.fieldAddr 154 (Go.Operand.tmp 7) 1, 0, none⟩, false, false, false⟩,
            ⟨⟨some 22, Go.Op.load 21 (Go.Operand.tmp 21), 21, none⟩, false, false, false⟩,
            ⟨⟨some 23, Go.Op.call { callee := Go.Callee.builtin Go.Builtin.min, args := #[Go.Operand.tmp 20, Go.Operand.tmp 22], argTypes := #[21, 21] }, 21, none⟩, false, false, false⟩,
            ⟨⟨some 8, Go.Op.assign (Go.Operand.tmp 19), 21, none⟩, false, false, false⟩,
            ⟨⟨some 9, Go.Op.assign (Go.Operand.tmp 23), 21, none⟩, false, false, false⟩])
          (.seq (.region [⟨some 24, Go.Op.move (Go.Operand.tmp 8), 21, none⟩,
            ⟨some 25, Go.Op.move (Go.Operand.tmp 9), 21, none⟩,
            ⟨some 26, Go.Op.binOp Go.BinOp.leq 21 (Go.Operand.tmp 24) (Go.Operand.tmp 25) 21, 4, none⟩])
          (.cond (Go.Operand.tmp 26)
            (.region [⟨some 27, Go.Op.move (Go.Operand.tmp 5), 75, none⟩,
              ⟨some 28, Go.Op.move (Go.Operand.tmp 8), 21, none⟩,
              ⟨some 29, Go.Op.move (Go.Operand.tmp 9), 21, none⟩,
              ⟨some 30, Go.Op.build 154 #[(0, Go.Operand.tmp 28), (1, Go.Operand.tmp 29)], 154, none⟩,
              ⟨some 31, Go.Op.buildSlice 75 1 #[(0, Go.Operand.tmp 30)], 75, none⟩,
              ⟨some 32, Go.Op.call { callee := Go.Callee.builtin Go.Builtin.append, args := #[Go.Operand.tmp 27, Go.Operand.tmp 31], argTypes := #[75, 75] }, 75, none⟩,
              ⟨some 5, Go.Op.assign (Go.Operand.tmp 32), 75, none⟩])
            .skip)))))
        (.region [⟨some 33, Go.Op.binOp Go.BinOp.add 3 (Go.Operand.tmp 12) (Go.Operand.const (Go.Value.int Go.IntKind.i64 1)) 3, 3, none⟩,
          ⟨some 12, Go.Op.move (Go.Operand.tmp 33), 3, none⟩])))))))
    (.seq (.region [⟨some 34, Go.Op.move (Go.Operand.tmp 5), 75, none⟩,
      ⟨some 4, Go.Op.assign (Go.Operand.tmp 34), 75, none⟩])
    .ret)))) :=
  ⟨foll, Tryz.f119, Tryz.func119, by kernel_rfl, by kernel_rfl, by kernel_rfl, by rw [Tryz.ntmps119]; decide⟩

end Go.Proofs.YtjgbdlaecpkmhaaGreatDoor
