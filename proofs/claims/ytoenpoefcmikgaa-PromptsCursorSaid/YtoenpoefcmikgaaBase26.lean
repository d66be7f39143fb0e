/- Facts on the types of this seat's program, and the prepared code of its functions. Written by a program of mine (gen.py) out of what the loaded dump prints. -/
import Derived.Test.YtoenpoefcmikgaaProg
import Derived.Test.YtoenpoefcmikgaaNvP
import Derived.KernelRfl
set_option linter.unusedVariables false
set_option maxRecDepth 100000
namespace Go.Proofs.Ytoenpoefcmikgaa
open Go Nv

attribute [go_sem] Try.underlying0 Try.underlying1 Try.underlying2 Try.underlying3 Try.underlying4 Try.underlying5 Try.underlying6 Try.underlying7 Try.underlying8 Try.underlying9 Try.underlying10 Try.underlying11 Try.underlying12 Try.underlying13 Try.underlying14 Try.underlying15 Try.underlying16 Try.underlying17 Try.underlying18 Try.underlying19 Try.underlying20 Try.underlying21 Try.underlying22 Try.underlying23 Try.underlying24 Try.underlying25 Try.underlying26 Try.underlying27 Try.underlying28 Try.underlying29 Try.underlying30 Try.underlying31 Try.underlying32 Try.underlying33 Try.underlying34 Try.underlying35 Try.underlying36 Try.underlying37 Try.underlying38 Try.underlying39 Try.underlying40 Try.underlying41 Try.underlying42 Try.underlying43 Try.underlying44 Try.underlying45 Try.underlying46 Try.underlying47 Try.underlying48 Try.underlying49 Try.underlying50 Try.underlying51 Try.underlying52 Try.underlying53 Try.underlying54 Try.underlying55 Try.underlying56 Try.underlying57 Try.underlying58 Try.underlying59 Try.underlying60 Try.underlying61 Try.underlying62 Try.underlying63 Try.underlying64 Try.underlying65 Try.underlying66 Try.underlying67 Try.underlying68 Try.underlying69 Try.underlying70 Try.underlying71 Try.underlying72 Try.underlying73 Try.underlying74 Try.underlying75 Try.underlying76 Try.underlying77 Try.underlying78 Try.underlying79 Try.underlying80 Try.underlying81
@[go_sem] theorem c2 : Try.prog.cellsOf 2 = 1 := nrfl (by kernel_rfl)
@[go_sem] theorem by2 : Try.prog.bytesOf 2 = 8 := nrfl (by kernel_rfl)
@[go_sem] theorem z2 : zeroA Try.prog 2 = (.d (.int .i64 0)) := nrfl (by kernel_rfl)
@[go_sem] theorem c3 : Try.prog.cellsOf 3 = 1 := nrfl (by kernel_rfl)
@[go_sem] theorem by3 : Try.prog.bytesOf 3 = 8 := nrfl (by kernel_rfl)
@[go_sem] theorem z3 : zeroA Try.prog 3 = (.d (.int .i64 0)) := nrfl (by kernel_rfl)
@[go_sem] theorem c4 : Try.prog.cellsOf 4 = 1 := nrfl (by kernel_rfl)
@[go_sem] theorem by4 : Try.prog.bytesOf 4 = 1 := nrfl (by kernel_rfl)
@[go_sem] theorem z4 : zeroA Try.prog 4 = (.d (.bool false)) := nrfl (by kernel_rfl)
@[go_sem] theorem c5 : Try.prog.cellsOf 5 = 1 := nrfl (by kernel_rfl)
@[go_sem] theorem by5 : Try.prog.bytesOf 5 = 1 := nrfl (by kernel_rfl)
@[go_sem] theorem z5 : zeroA Try.prog 5 = (.d (.int .u8 0)) := nrfl (by kernel_rfl)
@[go_sem] theorem c6 : Try.prog.cellsOf 6 = 1 := nrfl (by kernel_rfl)
@[go_sem] theorem by6 : Try.prog.bytesOf 6 = 1 := nrfl (by kernel_rfl)
@[go_sem] theorem z6 : zeroA Try.prog 6 = (.d (.int .u8 0)) := nrfl (by kernel_rfl)
@[go_sem] theorem c7 : Try.prog.cellsOf 7 = 4 := nrfl (by kernel_rfl)
@[go_sem] theorem by7 : Try.prog.bytesOf 7 = 24 := nrfl (by kernel_rfl)
@[go_sem] theorem z7 : zeroA Try.prog 7 = (.agg [(.d (.int .i64 0)), (.d (.int .i64 0)), (.d (.bool false)), (.d (.int .u8 0))]) := nrfl (by kernel_rfl)
@[go_sem] theorem sp7 : structPlaces Try.prog 7 = some [(0, 1), (1, 1), (2, 1), (3, 1)] := nrfl (by kernel_rfl)
@[go_sem] theorem fo7_0 : fieldOff Try.prog 7 0 = some (0, 2) := by kernel_rfl
@[go_sem] theorem fo7_1 : fieldOff Try.prog 7 1 = some (1, 3) := by kernel_rfl
@[go_sem] theorem fo7_2 : fieldOff Try.prog 7 2 = some (2, 4) := by kernel_rfl
@[go_sem] theorem fo7_3 : fieldOff Try.prog 7 3 = some (3, 6) := by kernel_rfl
@[go_sem] theorem c8 : Try.prog.cellsOf 8 = 4 := nrfl (by kernel_rfl)
@[go_sem] theorem by8 : Try.prog.bytesOf 8 = 24 := nrfl (by kernel_rfl)
@[go_sem] theorem z8 : zeroA Try.prog 8 = (.agg [(.d (.int .i64 0)), (.d (.int .i64 0)), (.d (.bool false)), (.d (.int .u8 0))]) := nrfl (by kernel_rfl)
@[go_sem] theorem sp8 : structPlaces Try.prog 8 = some [(0, 1), (1, 1), (2, 1), (3, 1)] := nrfl (by kernel_rfl)
@[go_sem] theorem fo8_0 : fieldOff Try.prog 8 0 = some (0, 2) := by kernel_rfl
@[go_sem] theorem fo8_1 : fieldOff Try.prog 8 1 = some (1, 3) := by kernel_rfl
@[go_sem] theorem fo8_2 : fieldOff Try.prog 8 2 = some (2, 4) := by kernel_rfl
@[go_sem] theorem fo8_3 : fieldOff Try.prog 8 3 = some (3, 6) := by kernel_rfl
@[go_sem] theorem c9 : Try.prog.cellsOf 9 = 1 := nrfl (by kernel_rfl)
@[go_sem] theorem by9 : Try.prog.bytesOf 9 = 16 := nrfl (by kernel_rfl)
@[go_sem] theorem z9 : zeroA Try.prog 9 = (.d (.str [])) := nrfl (by kernel_rfl)
@[go_sem] theorem c10 : Try.prog.cellsOf 10 = 1 := nrfl (by kernel_rfl)
@[go_sem] theorem by10 : Try.prog.bytesOf 10 = 16 := nrfl (by kernel_rfl)
@[go_sem] theorem z10 : zeroA Try.prog 10 = (.d (.str [])) := nrfl (by kernel_rfl)
@[go_sem] theorem c11 : Try.prog.cellsOf 11 = 1 := nrfl (by kernel_rfl)
@[go_sem] theorem by11 : Try.prog.bytesOf 11 = 16 := nrfl (by kernel_rfl)
@[go_sem] theorem z11 : zeroA Try.prog 11 = (.d (.str [])) := nrfl (by kernel_rfl)
@[go_sem] theorem c12 : Try.prog.cellsOf 12 = 1 := nrfl (by kernel_rfl)
@[go_sem] theorem by12 : Try.prog.bytesOf 12 = 8 := nrfl (by kernel_rfl)
@[go_sem] theorem z12 : zeroA Try.prog 12 = (.d (.int .u64 0)) := nrfl (by kernel_rfl)
@[go_sem] theorem c13 : Try.prog.cellsOf 13 = 2 := nrfl (by kernel_rfl)
@[go_sem] theorem by13 : Try.prog.bytesOf 13 = 24 := nrfl (by kernel_rfl)
@[go_sem] theorem z13 : zeroA Try.prog 13 = (.agg [(.d (.str [])), (.d (.int .u64 0))]) := nrfl (by kernel_rfl)
@[go_sem] theorem sp13 : structPlaces Try.prog 13 = some [(0, 1), (1, 1)] := nrfl (by kernel_rfl)
@[go_sem] theorem fo13_0 : fieldOff Try.prog 13 0 = some (0, 9) := by kernel_rfl
@[go_sem] theorem fo13_1 : fieldOff Try.prog 13 1 = some (1, 12) := by kernel_rfl
@[go_sem] theorem c14 : Try.prog.cellsOf 14 = 2 := nrfl (by kernel_rfl)
@[go_sem] theorem by14 : Try.prog.bytesOf 14 = 24 := nrfl (by kernel_rfl)
@[go_sem] theorem z14 : zeroA Try.prog 14 = (.agg [(.d (.str [])), (.d (.int .u64 0))]) := nrfl (by kernel_rfl)
@[go_sem] theorem sp14 : structPlaces Try.prog 14 = some [(0, 1), (1, 1)] := nrfl (by kernel_rfl)
@[go_sem] theorem fo14_0 : fieldOff Try.prog 14 0 = some (0, 9) := by kernel_rfl
@[go_sem] theorem fo14_1 : fieldOff Try.prog 14 1 = some (1, 12) := by kernel_rfl
@[go_sem] theorem c15 : Try.prog.cellsOf 15 = 1 := nrfl (by kernel_rfl)
@[go_sem] theorem by15 : Try.prog.bytesOf 15 = 8 := nrfl (by kernel_rfl)
@[go_sem] theorem z15 : zeroA Try.prog 15 = (.d .nilptr) := nrfl (by kernel_rfl)
@[go_sem] theorem c16 : Try.prog.cellsOf 16 = 1 := nrfl (by kernel_rfl)
@[go_sem] theorem by16 : Try.prog.bytesOf 16 = 8 := nrfl (by kernel_rfl)
@[go_sem] theorem z16 : zeroA Try.prog 16 = (.d .nilptr) := nrfl (by kernel_rfl)
@[go_sem] theorem c17 : Try.prog.cellsOf 17 = 1 := nrfl (by kernel_rfl)
@[go_sem] theorem by17 : Try.prog.bytesOf 17 = 8 := nrfl (by kernel_rfl)
@[go_sem] theorem z17 : zeroA Try.prog 17 = (.d .nilptr) := nrfl (by kernel_rfl)
@[go_sem] theorem c18 : Try.prog.cellsOf 18 = 1 := nrfl (by kernel_rfl)
@[go_sem] theorem by18 : Try.prog.bytesOf 18 = 8 := nrfl (by kernel_rfl)
@[go_sem] theorem z18 : zeroA Try.prog 18 = (.agg [(.d .nilptr)]) := nrfl (by kernel_rfl)
@[go_sem] theorem sp18 : structPlaces Try.prog 18 = some [(0, 1)] := nrfl (by kernel_rfl)
@[go_sem] theorem fo18_0 : fieldOff Try.prog 18 0 = some (0, 17) := by kernel_rfl
@[go_sem] theorem c19 : Try.prog.cellsOf 19 = 1 := nrfl (by kernel_rfl)
@[go_sem] theorem by19 : Try.prog.bytesOf 19 = 8 := nrfl (by kernel_rfl)
@[go_sem] theorem z19 : zeroA Try.prog 19 = (.agg [(.d .nilptr)]) := nrfl (by kernel_rfl)
@[go_sem] theorem sp19 : structPlaces Try.prog 19 = some [(0, 1)] := nrfl (by kernel_rfl)
@[go_sem] theorem fo19_0 : fieldOff Try.prog 19 0 = some (0, 17) := by kernel_rfl
@[go_sem] theorem c20 : Try.prog.cellsOf 20 = 1 := nrfl (by kernel_rfl)
@[go_sem] theorem by20 : Try.prog.bytesOf 20 = 16 := nrfl (by kernel_rfl)
@[go_sem] theorem z20 : zeroA Try.prog 20 = (.d .niliface) := nrfl (by kernel_rfl)
@[go_sem] theorem c21 : Try.prog.cellsOf 21 = 1 := nrfl (by kernel_rfl)
@[go_sem] theorem by21 : Try.prog.bytesOf 21 = 4 := nrfl (by kernel_rfl)
@[go_sem] theorem z21 : zeroA Try.prog 21 = (.d (.int .i32 0)) := nrfl (by kernel_rfl)
@[go_sem] theorem c22 : Try.prog.cellsOf 22 = 1 := nrfl (by kernel_rfl)
@[go_sem] theorem by22 : Try.prog.bytesOf 22 = 24 := nrfl (by kernel_rfl)
@[go_sem] theorem z22 : zeroA Try.prog 22 = (.d .nilslice) := nrfl (by kernel_rfl)
@[go_sem] theorem c26 : Try.prog.cellsOf 26 = 1 := nrfl (by kernel_rfl)
@[go_sem] theorem by26 : Try.prog.bytesOf 26 = 24 := nrfl (by kernel_rfl)
@[go_sem] theorem z26 : zeroA Try.prog 26 = (.d .nilslice) := nrfl (by kernel_rfl)
@[go_sem] theorem c27 : Try.prog.cellsOf 27 = 6 := nrfl (by kernel_rfl)
@[go_sem] theorem by27 : Try.prog.bytesOf 27 = 64 := nrfl (by kernel_rfl)
@[go_sem] theorem z27 : zeroA Try.prog 27 = (.agg [(.d (.int .i64 0)), (.d (.int .i64 0)), (.d .nilslice), (.d (.int .i64 0)), (.d (.int .i64 0)), (.d (.bool false))]) := nrfl (by kernel_rfl)
@[go_sem] theorem sp27 : structPlaces Try.prog 27 = some [(0, 1), (1, 1), (2, 1), (3, 1), (4, 1), (5, 1)] := nrfl (by kernel_rfl)
@[go_sem] theorem fo27_0 : fieldOff Try.prog 27 0 = some (0, 3) := by kernel_rfl
@[go_sem] theorem fo27_1 : fieldOff Try.prog 27 1 = some (1, 3) := by kernel_rfl
@[go_sem] theorem fo27_2 : fieldOff Try.prog 27 2 = some (2, 26) := by kernel_rfl
@[go_sem] theorem fo27_3 : fieldOff Try.prog 27 3 = some (3, 3) := by kernel_rfl
@[go_sem] theorem fo27_4 : fieldOff Try.prog 27 4 = some (4, 3) := by kernel_rfl
@[go_sem] theorem fo27_5 : fieldOff Try.prog 27 5 = some (5, 4) := by kernel_rfl
@[go_sem] theorem c28 : Try.prog.cellsOf 28 = 6 := nrfl (by kernel_rfl)
@[go_sem] theorem by28 : Try.prog.bytesOf 28 = 64 := nrfl (by kernel_rfl)
@[go_sem] theorem z28 : zeroA Try.prog 28 = (.agg [(.d (.int .i64 0)), (.d (.int .i64 0)), (.d .nilslice), (.d (.int .i64 0)), (.d (.int .i64 0)), (.d (.bool false))]) := nrfl (by kernel_rfl)
@[go_sem] theorem sp28 : structPlaces Try.prog 28 = some [(0, 1), (1, 1), (2, 1), (3, 1), (4, 1), (5, 1)] := nrfl (by kernel_rfl)
@[go_sem] theorem fo28_0 : fieldOff Try.prog 28 0 = some (0, 3) := by kernel_rfl
@[go_sem] theorem fo28_1 : fieldOff Try.prog 28 1 = some (1, 3) := by kernel_rfl
@[go_sem] theorem fo28_2 : fieldOff Try.prog 28 2 = some (2, 26) := by kernel_rfl
@[go_sem] theorem fo28_3 : fieldOff Try.prog 28 3 = some (3, 3) := by kernel_rfl
@[go_sem] theorem fo28_4 : fieldOff Try.prog 28 4 = some (4, 3) := by kernel_rfl
@[go_sem] theorem fo28_5 : fieldOff Try.prog 28 5 = some (5, 4) := by kernel_rfl
@[go_sem] theorem c31 : Try.prog.cellsOf 31 = 8 := nrfl (by kernel_rfl)
@[go_sem] theorem by31 : Try.prog.bytesOf 31 = 72 := nrfl (by kernel_rfl)
@[go_sem] theorem z31 : zeroA Try.prog 31 = (.agg [(.d (.int .i64 0)), (.d (.int .i64 0)), (.d (.int .i64 0)), (.d (.int .i64 0)), (.d (.int .i64 0)), (.d (.int .i64 0)), (.d (.int .i64 0)), (.d (.str []))]) := nrfl (by kernel_rfl)
@[go_sem] theorem sp31 : structPlaces Try.prog 31 = some [(0, 1), (1, 1), (2, 1), (3, 1), (4, 1), (5, 1), (6, 1), (7, 1)] := nrfl (by kernel_rfl)
@[go_sem] theorem fo31_0 : fieldOff Try.prog 31 0 = some (0, 3) := by kernel_rfl
@[go_sem] theorem fo31_1 : fieldOff Try.prog 31 1 = some (1, 3) := by kernel_rfl
@[go_sem] theorem fo31_2 : fieldOff Try.prog 31 2 = some (2, 3) := by kernel_rfl
@[go_sem] theorem fo31_3 : fieldOff Try.prog 31 3 = some (3, 3) := by kernel_rfl
@[go_sem] theorem fo31_4 : fieldOff Try.prog 31 4 = some (4, 3) := by kernel_rfl
@[go_sem] theorem fo31_5 : fieldOff Try.prog 31 5 = some (5, 3) := by kernel_rfl
@[go_sem] theorem fo31_6 : fieldOff Try.prog 31 6 = some (6, 3) := by kernel_rfl
@[go_sem] theorem fo31_7 : fieldOff Try.prog 31 7 = some (7, 9) := by kernel_rfl
@[go_sem] theorem sk31 : structKinds Try.prog 31 = some [0, 0, 0, 0, 0, 0, 0, 2] := nrfl (by kernel_rfl)
@[go_sem] theorem c32 : Try.prog.cellsOf 32 = 8 := nrfl (by kernel_rfl)
@[go_sem] theorem by32 : Try.prog.bytesOf 32 = 72 := nrfl (by kernel_rfl)
@[go_sem] theorem z32 : zeroA Try.prog 32 = (.agg [(.d (.int .i64 0)), (.d (.int .i64 0)), (.d (.int .i64 0)), (.d (.int .i64 0)), (.d (.int .i64 0)), (.d (.int .i64 0)), (.d (.int .i64 0)), (.d (.str []))]) := nrfl (by kernel_rfl)
@[go_sem] theorem sp32 : structPlaces Try.prog 32 = some [(0, 1), (1, 1), (2, 1), (3, 1), (4, 1), (5, 1), (6, 1), (7, 1)] := nrfl (by kernel_rfl)
@[go_sem] theorem fo32_0 : fieldOff Try.prog 32 0 = some (0, 3) := by kernel_rfl
@[go_sem] theorem fo32_1 : fieldOff Try.prog 32 1 = some (1, 3) := by kernel_rfl
@[go_sem] theorem fo32_2 : fieldOff Try.prog 32 2 = some (2, 3) := by kernel_rfl
@[go_sem] theorem fo32_3 : fieldOff Try.prog 32 3 = some (3, 3) := by kernel_rfl
@[go_sem] theorem fo32_4 : fieldOff Try.prog 32 4 = some (4, 3) := by kernel_rfl
@[go_sem] theorem fo32_5 : fieldOff Try.prog 32 5 = some (5, 3) := by kernel_rfl
@[go_sem] theorem fo32_6 : fieldOff Try.prog 32 6 = some (6, 3) := by kernel_rfl
@[go_sem] theorem fo32_7 : fieldOff Try.prog 32 7 = some (7, 9) := by kernel_rfl
@[go_sem] theorem sk32 : structKinds Try.prog 32 = some [0, 0, 0, 0, 0, 0, 0, 2] := nrfl (by kernel_rfl)
@[go_sem] theorem c34 : Try.prog.cellsOf 34 = 3 := nrfl (by kernel_rfl)
@[go_sem] theorem by34 : Try.prog.bytesOf 34 = 32 := nrfl (by kernel_rfl)
@[go_sem] theorem z34 : zeroA Try.prog 34 = (.agg [(.d (.str [])), (.d (.bool false)), (.d (.int .i64 0))]) := nrfl (by kernel_rfl)
@[go_sem] theorem sp34 : structPlaces Try.prog 34 = some [(0, 1), (1, 1), (2, 1)] := nrfl (by kernel_rfl)
@[go_sem] theorem fo34_0 : fieldOff Try.prog 34 0 = some (0, 9) := by kernel_rfl
@[go_sem] theorem fo34_1 : fieldOff Try.prog 34 1 = some (1, 4) := by kernel_rfl
@[go_sem] theorem fo34_2 : fieldOff Try.prog 34 2 = some (2, 3) := by kernel_rfl
@[go_sem] theorem sk34 : structKinds Try.prog 34 = some [2, 1, 0] := nrfl (by kernel_rfl)
@[go_sem] theorem c35 : Try.prog.cellsOf 35 = 3 := nrfl (by kernel_rfl)
@[go_sem] theorem by35 : Try.prog.bytesOf 35 = 32 := nrfl (by kernel_rfl)
@[go_sem] theorem z35 : zeroA Try.prog 35 = (.agg [(.d (.str [])), (.d (.bool false)), (.d (.int .i64 0))]) := nrfl (by kernel_rfl)
@[go_sem] theorem sp35 : structPlaces Try.prog 35 = some [(0, 1), (1, 1), (2, 1)] := nrfl (by kernel_rfl)
@[go_sem] theorem fo35_0 : fieldOff Try.prog 35 0 = some (0, 9) := by kernel_rfl
@[go_sem] theorem fo35_1 : fieldOff Try.prog 35 1 = some (1, 4) := by kernel_rfl
@[go_sem] theorem fo35_2 : fieldOff Try.prog 35 2 = some (2, 3) := by kernel_rfl
@[go_sem] theorem sk35 : structKinds Try.prog 35 = some [2, 1, 0] := nrfl (by kernel_rfl)
@[go_sem] theorem c50 : Try.prog.cellsOf 50 = 1 := nrfl (by kernel_rfl)
@[go_sem] theorem by50 : Try.prog.bytesOf 50 = 8 := nrfl (by kernel_rfl)
@[go_sem] theorem z50 : zeroA Try.prog 50 = (.d .nilptr) := nrfl (by kernel_rfl)
@[go_sem] theorem c51 : Try.prog.cellsOf 51 = 1 := nrfl (by kernel_rfl)
@[go_sem] theorem by51 : Try.prog.bytesOf 51 = 24 := nrfl (by kernel_rfl)
@[go_sem] theorem z51 : zeroA Try.prog 51 = (.d .nilslice) := nrfl (by kernel_rfl)
@[go_sem] theorem c52 : Try.prog.cellsOf 52 = 2 := nrfl (by kernel_rfl)
@[go_sem] theorem by52 : Try.prog.bytesOf 52 = 32 := nrfl (by kernel_rfl)
@[go_sem] theorem z52 : zeroA Try.prog 52 = (.agg [(.d .nilptr), (.d .nilslice)]) := nrfl (by kernel_rfl)
@[go_sem] theorem sp52 : structPlaces Try.prog 52 = some [(0, 1), (1, 1)] := nrfl (by kernel_rfl)
@[go_sem] theorem fo52_0 : fieldOff Try.prog 52 0 = some (0, 50) := by kernel_rfl
@[go_sem] theorem fo52_1 : fieldOff Try.prog 52 1 = some (1, 51) := by kernel_rfl
@[go_sem] theorem c53 : Try.prog.cellsOf 53 = 2 := nrfl (by kernel_rfl)
@[go_sem] theorem by53 : Try.prog.bytesOf 53 = 32 := nrfl (by kernel_rfl)
@[go_sem] theorem z53 : zeroA Try.prog 53 = (.agg [(.d .nilptr), (.d .nilslice)]) := nrfl (by kernel_rfl)
@[go_sem] theorem sp53 : structPlaces Try.prog 53 = some [(0, 1), (1, 1)] := nrfl (by kernel_rfl)
@[go_sem] theorem fo53_0 : fieldOff Try.prog 53 0 = some (0, 50) := by kernel_rfl
@[go_sem] theorem fo53_1 : fieldOff Try.prog 53 1 = some (1, 51) := by kernel_rfl
@[go_sem] theorem c54 : Try.prog.cellsOf 54 = 1 := nrfl (by kernel_rfl)
@[go_sem] theorem by54 : Try.prog.bytesOf 54 = 16 := nrfl (by kernel_rfl)
@[go_sem] theorem z54 : zeroA Try.prog 54 = (.d .niliface) := nrfl (by kernel_rfl)
@[go_sem] theorem c55 : Try.prog.cellsOf 55 = 1 := nrfl (by kernel_rfl)
@[go_sem] theorem by55 : Try.prog.bytesOf 55 = 16 := nrfl (by kernel_rfl)
@[go_sem] theorem z55 : zeroA Try.prog 55 = (.d .niliface) := nrfl (by kernel_rfl)
@[go_sem] theorem c60 : Try.prog.cellsOf 60 = 1 := nrfl (by kernel_rfl)
@[go_sem] theorem by60 : Try.prog.bytesOf 60 = 8 := nrfl (by kernel_rfl)
@[go_sem] theorem z60 : zeroA Try.prog 60 = (.d .nilptr) := nrfl (by kernel_rfl)
@[go_sem] theorem c61 : Try.prog.cellsOf 61 = 1 := nrfl (by kernel_rfl)
@[go_sem] theorem by61 : Try.prog.bytesOf 61 = 8 := nrfl (by kernel_rfl)
@[go_sem] theorem z61 : zeroA Try.prog 61 = (.d .nilptr) := nrfl (by kernel_rfl)
@[go_sem] theorem c65 : Try.prog.cellsOf 65 = 1 := nrfl (by kernel_rfl)
@[go_sem] theorem by65 : Try.prog.bytesOf 65 = 8 := nrfl (by kernel_rfl)
@[go_sem] theorem z65 : zeroA Try.prog 65 = (.d (.int .u64 0)) := nrfl (by kernel_rfl)
@[go_sem] theorem c66 : Try.prog.cellsOf 66 = 1 := nrfl (by kernel_rfl)
@[go_sem] theorem by66 : Try.prog.bytesOf 66 = 4 := nrfl (by kernel_rfl)
@[go_sem] theorem z66 : zeroA Try.prog 66 = (.d (.int .u32 0)) := nrfl (by kernel_rfl)
@[go_sem] theorem c69 : Try.prog.cellsOf 69 = 4 := nrfl (by kernel_rfl)
@[go_sem] theorem by69 : Try.prog.bytesOf 69 = 40 := nrfl (by kernel_rfl)
@[go_sem] theorem z69 : zeroA Try.prog 69 = (.agg [(.d .nilptr), (.d .nilptr), (.d .nilptr), (.d (.str []))]) := nrfl (by kernel_rfl)
@[go_sem] theorem sp69 : structPlaces Try.prog 69 = some [(0, 1), (1, 1), (2, 1), (3, 1)] := nrfl (by kernel_rfl)
@[go_sem] theorem fo69_0 : fieldOff Try.prog 69 0 = some (0, 17) := by kernel_rfl
@[go_sem] theorem fo69_1 : fieldOff Try.prog 69 1 = some (1, 17) := by kernel_rfl
@[go_sem] theorem fo69_2 : fieldOff Try.prog 69 2 = some (2, 17) := by kernel_rfl
@[go_sem] theorem fo69_3 : fieldOff Try.prog 69 3 = some (3, 9) := by kernel_rfl
@[go_sem] theorem c70 : Try.prog.cellsOf 70 = 4 := nrfl (by kernel_rfl)
@[go_sem] theorem by70 : Try.prog.bytesOf 70 = 40 := nrfl (by kernel_rfl)
@[go_sem] theorem z70 : zeroA Try.prog 70 = (.agg [(.d .nilptr), (.d .nilptr), (.d .nilptr), (.d (.str []))]) := nrfl (by kernel_rfl)
@[go_sem] theorem sp70 : structPlaces Try.prog 70 = some [(0, 1), (1, 1), (2, 1), (3, 1)] := nrfl (by kernel_rfl)
@[go_sem] theorem fo70_0 : fieldOff Try.prog 70 0 = some (0, 17) := by kernel_rfl
@[go_sem] theorem fo70_1 : fieldOff Try.prog 70 1 = some (1, 17) := by kernel_rfl
@[go_sem] theorem fo70_2 : fieldOff Try.prog 70 2 = some (2, 17) := by kernel_rfl
@[go_sem] theorem fo70_3 : fieldOff Try.prog 70 3 = some (3, 9) := by kernel_rfl
@[go_sem] theorem c71 : Try.prog.cellsOf 71 = 0 := nrfl (by kernel_rfl)
@[go_sem] theorem by71 : Try.prog.bytesOf 71 = 0 := nrfl (by kernel_rfl)
@[go_sem] theorem z71 : zeroA Try.prog 71 = (.agg []) := nrfl (by kernel_rfl)
@[go_sem] theorem c72 : Try.prog.cellsOf 72 = 0 := nrfl (by kernel_rfl)
@[go_sem] theorem by72 : Try.prog.bytesOf 72 = 0 := nrfl (by kernel_rfl)
@[go_sem] theorem z72 : zeroA Try.prog 72 = (.agg []) := nrfl (by kernel_rfl)
@[go_sem] theorem sp72 : structPlaces Try.prog 72 = some [(0, 0)] := nrfl (by kernel_rfl)
@[go_sem] theorem c73 : Try.prog.cellsOf 73 = 0 := nrfl (by kernel_rfl)
@[go_sem] theorem by73 : Try.prog.bytesOf 73 = 0 := nrfl (by kernel_rfl)
@[go_sem] theorem z73 : zeroA Try.prog 73 = (.agg []) := nrfl (by kernel_rfl)
@[go_sem] theorem sp73 : structPlaces Try.prog 73 = some [(0, 0)] := nrfl (by kernel_rfl)
@[go_sem] theorem c75 : Try.prog.cellsOf 75 = 1 := nrfl (by kernel_rfl)
@[go_sem] theorem by75 : Try.prog.bytesOf 75 = 1 := nrfl (by kernel_rfl)
@[go_sem] theorem z75 : zeroA Try.prog 75 = (.d (.int .u8 0)) := nrfl (by kernel_rfl)
@[go_sem] theorem c76 : Try.prog.cellsOf 76 = 1 := nrfl (by kernel_rfl)
@[go_sem] theorem by76 : Try.prog.bytesOf 76 = 1 := nrfl (by kernel_rfl)
@[go_sem] theorem z76 : zeroA Try.prog 76 = (.d (.int .u8 0)) := nrfl (by kernel_rfl)
@[go_sem] theorem c78 : Try.prog.cellsOf 78 = 1 := nrfl (by kernel_rfl)
@[go_sem] theorem by78 : Try.prog.bytesOf 78 = 4 := nrfl (by kernel_rfl)
@[go_sem] theorem z78 : zeroA Try.prog 78 = (.d (.int .i32 0)) := nrfl (by kernel_rfl)
@[go_sem] theorem c79 : Try.prog.cellsOf 79 = 1 := nrfl (by kernel_rfl)
@[go_sem] theorem by79 : Try.prog.bytesOf 79 = 4 := nrfl (by kernel_rfl)
@[go_sem] theorem z79 : zeroA Try.prog 79 = (.d (.int .i32 0)) := nrfl (by kernel_rfl)
@[go_sem] theorem c80 : Try.prog.cellsOf 80 = 11 := nrfl (by kernel_rfl)
@[go_sem] theorem by80 : Try.prog.bytesOf 80 = 48 := nrfl (by kernel_rfl)
@[go_sem] theorem z80 : zeroA Try.prog 80 = (.agg [(.d (.int .u64 0)), (.d (.int .u64 0)), (.d (.int .u32 0)), (.d (.int .u8 0)), (.d (.int .u8 0)), (.d (.int .u8 0)), (.d (.int .u8 0)), (.d .nilfunc), (.d .nilptr), (.d (.int .i32 0)), (.d (.int .i32 0))]) := nrfl (by kernel_rfl)
@[go_sem] theorem sp80 : structPlaces Try.prog 80 = some [(0, 1), (1, 1), (2, 1), (3, 1), (4, 1), (5, 1), (6, 1), (7, 1), (8, 1), (9, 1), (10, 1)] := nrfl (by kernel_rfl)
@[go_sem] theorem fo80_0 : fieldOff Try.prog 80 0 = some (0, 12) := by kernel_rfl
@[go_sem] theorem fo80_1 : fieldOff Try.prog 80 1 = some (1, 12) := by kernel_rfl
@[go_sem] theorem fo80_2 : fieldOff Try.prog 80 2 = some (2, 66) := by kernel_rfl
@[go_sem] theorem fo80_3 : fieldOff Try.prog 80 3 = some (3, 75) := by kernel_rfl
@[go_sem] theorem fo80_4 : fieldOff Try.prog 80 4 = some (4, 5) := by kernel_rfl
@[go_sem] theorem fo80_5 : fieldOff Try.prog 80 5 = some (5, 5) := by kernel_rfl
@[go_sem] theorem fo80_6 : fieldOff Try.prog 80 6 = some (6, 76) := by kernel_rfl
@[go_sem] theorem fo80_7 : fieldOff Try.prog 80 7 = some (7, 77) := by kernel_rfl
@[go_sem] theorem fo80_8 : fieldOff Try.prog 80 8 = some (8, 60) := by kernel_rfl
@[go_sem] theorem fo80_9 : fieldOff Try.prog 80 9 = some (9, 78) := by kernel_rfl
@[go_sem] theorem fo80_10 : fieldOff Try.prog 80 10 = some (10, 79) := by kernel_rfl
@[go_sem] theorem c81 : Try.prog.cellsOf 81 = 11 := nrfl (by kernel_rfl)
@[go_sem] theorem by81 : Try.prog.bytesOf 81 = 48 := nrfl (by kernel_rfl)
@[go_sem] theorem z81 : zeroA Try.prog 81 = (.agg [(.d (.int .u64 0)), (.d (.int .u64 0)), (.d (.int .u32 0)), (.d (.int .u8 0)), (.d (.int .u8 0)), (.d (.int .u8 0)), (.d (.int .u8 0)), (.d .nilfunc), (.d .nilptr), (.d (.int .i32 0)), (.d (.int .i32 0))]) := nrfl (by kernel_rfl)
@[go_sem] theorem sp81 : structPlaces Try.prog 81 = some [(0, 1), (1, 1), (2, 1), (3, 1), (4, 1), (5, 1), (6, 1), (7, 1), (8, 1), (9, 1), (10, 1)] := nrfl (by kernel_rfl)
@[go_sem] theorem fo81_0 : fieldOff Try.prog 81 0 = some (0, 12) := by kernel_rfl
@[go_sem] theorem fo81_1 : fieldOff Try.prog 81 1 = some (1, 12) := by kernel_rfl
@[go_sem] theorem fo81_2 : fieldOff Try.prog 81 2 = some (2, 66) := by kernel_rfl
@[go_sem] theorem fo81_3 : fieldOff Try.prog 81 3 = some (3, 75) := by kernel_rfl
@[go_sem] theorem fo81_4 : fieldOff Try.prog 81 4 = some (4, 5) := by kernel_rfl
@[go_sem] theorem fo81_5 : fieldOff Try.prog 81 5 = some (5, 5) := by kernel_rfl
@[go_sem] theorem fo81_6 : fieldOff Try.prog 81 6 = some (6, 76) := by kernel_rfl
@[go_sem] theorem fo81_7 : fieldOff Try.prog 81 7 = some (7, 77) := by kernel_rfl
@[go_sem] theorem fo81_8 : fieldOff Try.prog 81 8 = some (8, 60) := by kernel_rfl
@[go_sem] theorem fo81_9 : fieldOff Try.prog 81 9 = some (9, 78) := by kernel_rfl
@[go_sem] theorem fo81_10 : fieldOff Try.prog 81 10 = some (10, 79) := by kernel_rfl

theorem foll : Try.prog.follows .mixedOrders = true := by kernel_rfl
@[go_sem] theorem pf0 : plainFn Try.prog 0 = false := nrfl (by kernel_rfl)
@[go_sem] theorem pf1 : plainFn Try.prog 1 = false := nrfl (by kernel_rfl)
@[go_sem] theorem pf2 : plainFn Try.prog 2 = true := nrfl (by kernel_rfl)
@[go_sem] theorem pf3 : plainFn Try.prog 3 = true := nrfl (by kernel_rfl)
@[go_sem] theorem pf4 : plainFn Try.prog 4 = true := nrfl (by kernel_rfl)
@[go_sem] theorem pf5 : plainFn Try.prog 5 = true := nrfl (by kernel_rfl)
@[go_sem] theorem pf6 : plainFn Try.prog 6 = true := nrfl (by kernel_rfl)
@[go_sem] theorem pf7 : plainFn Try.prog 7 = true := nrfl (by kernel_rfl)
@[go_sem] theorem pf8 : plainFn Try.prog 8 = true := nrfl (by kernel_rfl)
@[go_sem] theorem pf9 : plainFn Try.prog 9 = true := nrfl (by kernel_rfl)
@[go_sem] theorem pf10 : plainFn Try.prog 10 = true := nrfl (by kernel_rfl)
@[go_sem] theorem pf11 : plainFn Try.prog 11 = true := nrfl (by kernel_rfl)
@[go_sem] theorem pf12 : plainFn Try.prog 12 = true := nrfl (by kernel_rfl)
@[go_sem] theorem pf13 : plainFn Try.prog 13 = true := nrfl (by kernel_rfl)
@[go_sem] theorem pf14 : plainFn Try.prog 14 = true := nrfl (by kernel_rfl)
@[go_sem] theorem pf15 : plainFn Try.prog 15 = true := nrfl (by kernel_rfl)
@[go_sem] theorem pf16 : plainFn Try.prog 16 = true := nrfl (by kernel_rfl)
@[go_sem] theorem pf17 : plainFn Try.prog 17 = true := nrfl (by kernel_rfl)
@[go_sem] theorem pf18 : plainFn Try.prog 18 = true := nrfl (by kernel_rfl)
@[go_sem] theorem pf19 : plainFn Try.prog 19 = true := nrfl (by kernel_rfl)
@[go_sem] theorem pf20 : plainFn Try.prog 20 = true := nrfl (by kernel_rfl)
@[go_sem] theorem pf21 : plainFn Try.prog 21 = true := nrfl (by kernel_rfl)
@[go_sem] theorem pf22 : plainFn Try.prog 22 = true := nrfl (by kernel_rfl)
@[go_sem] theorem pf23 : plainFn Try.prog 23 = true := nrfl (by kernel_rfl)
@[go_sem] theorem pf24 : plainFn Try.prog 24 = true := nrfl (by kernel_rfl)
@[go_sem] theorem pf25 : plainFn Try.prog 25 = true := nrfl (by kernel_rfl)
@[go_sem] theorem pf26 : plainFn Try.prog 26 = true := nrfl (by kernel_rfl)
@[go_sem] theorem pf27 : plainFn Try.prog 27 = true := nrfl (by kernel_rfl)
@[go_sem] theorem pf28 : plainFn Try.prog 28 = true := nrfl (by kernel_rfl)
@[go_sem] theorem pf29 : plainFn Try.prog 29 = true := nrfl (by kernel_rfl)
@[go_sem] theorem pf30 : plainFn Try.prog 30 = true := nrfl (by kernel_rfl)
@[go_sem] theorem pf31 : plainFn Try.prog 31 = true := nrfl (by kernel_rfl)
@[go_sem] theorem pf32 : plainFn Try.prog 32 = true := nrfl (by kernel_rfl)
@[go_sem] theorem pf33 : plainFn Try.prog 33 = true := nrfl (by kernel_rfl)
@[go_sem] theorem pf34 : plainFn Try.prog 34 = true := nrfl (by kernel_rfl)
@[go_sem] theorem pf35 : plainFn Try.prog 35 = true := nrfl (by kernel_rfl)
@[go_sem] theorem pf36 : plainFn Try.prog 36 = true := nrfl (by kernel_rfl)
@[go_sem] theorem pf37 : plainFn Try.prog 37 = true := nrfl (by kernel_rfl)
@[go_sem] theorem pf38 : plainFn Try.prog 38 = true := nrfl (by kernel_rfl)
@[go_sem] theorem pf39 : plainFn Try.prog 39 = true := nrfl (by kernel_rfl)
@[go_sem] theorem pf40 : plainFn Try.prog 40 = true := nrfl (by kernel_rfl)
@[go_sem] theorem pf41 : plainFn Try.prog 41 = true := nrfl (by kernel_rfl)
@[go_sem] theorem pf42 : plainFn Try.prog 42 = false := nrfl (by kernel_rfl)
@[go_sem] theorem ne42 : NoEsc Try.prog 42 = True := eq_true ⟨Try.f42, Try.func42, by kernel_rfl, by kernel_rfl, by kernel_rfl, by kernel_rfl⟩
@[go_sem] theorem pf43 : plainFn Try.prog 43 = true := nrfl (by kernel_rfl)
@[go_sem] theorem pf44 : plainFn Try.prog 44 = false := nrfl (by kernel_rfl)
@[go_sem] theorem pf45 : plainFn Try.prog 45 = true := nrfl (by kernel_rfl)
@[go_sem] theorem pf46 : plainFn Try.prog 46 = true := nrfl (by kernel_rfl)
@[go_sem] theorem pf47 : plainFn Try.prog 47 = false := nrfl (by kernel_rfl)
@[go_sem] theorem pf48 : plainFn Try.prog 48 = true := nrfl (by kernel_rfl)
@[go_sem] theorem pf49 : plainFn Try.prog 49 = false := nrfl (by kernel_rfl)
@[go_sem] theorem pf50 : plainFn Try.prog 50 = false := nrfl (by kernel_rfl)
@[go_sem] theorem pf51 : plainFn Try.prog 51 = false := nrfl (by kernel_rfl)
@[go_sem] theorem pf52 : plainFn Try.prog 52 = false := nrfl (by kernel_rfl)
@[go_sem] theorem pf53 : plainFn Try.prog 53 = false := nrfl (by kernel_rfl)
@[go_sem] theorem pf54 : plainFn Try.prog 54 = false := nrfl (by kernel_rfl)
@[go_sem] theorem pf55 : plainFn Try.prog 55 = false := nrfl (by kernel_rfl)
@[go_sem] theorem pf56 : plainFn Try.prog 56 = false := nrfl (by kernel_rfl)
@[go_sem] theorem pf57 : plainFn Try.prog 57 = false := nrfl (by kernel_rfl)
@[go_sem] theorem pf58 : plainFn Try.prog 58 = false := nrfl (by kernel_rfl)
@[go_sem] theorem pf59 : plainFn Try.prog 59 = false := nrfl (by kernel_rfl)
@[go_sem] theorem pf60 : plainFn Try.prog 60 = false := nrfl (by kernel_rfl)
@[go_sem] theorem pf61 : plainFn Try.prog 61 = false := nrfl (by kernel_rfl)
@[go_sem] theorem pf62 : plainFn Try.prog 62 = false := nrfl (by kernel_rfl)
@[go_sem] theorem pf63 : plainFn Try.prog 63 = false := nrfl (by kernel_rfl)
@[go_sem] theorem pf64 : plainFn Try.prog 64 = false := nrfl (by kernel_rfl)
@[go_sem] theorem pf65 : plainFn Try.prog 65 = false := nrfl (by kernel_rfl)

/-- gosem.cut.init -/
theorem fn2 : FnIs Try.prog 2 0 [] (.region [⟨some 0, Go.Op.call { callee := Go.Callee.value (Go.Operand.func 1), args := #[], argTypes := #[] }, 0, none⟩]) :=
  ⟨foll, Try.f2, Try.func2, by kernel_rfl, by kernel_rfl, by kernel_rfl, by rw [Try.ntmps2]; decide⟩

/-- narrator.narratorlaw26.PromptsEnds -/
theorem fn3 : FnIs Try.prog 3 1 [Go.ResultVar.tmp 2] (.seq (.region [⟨some 2, Go.Op.assign (Go.Operand.const (Go.Value.bool false)), 4, none⟩])
    (.seq (.seq (.region [⟨some 3, Go.Op.move (Go.Operand.tmp 0), 22, none⟩,
      ⟨some 4, Go.Op.call { callee := Go.Callee.value (Go.Operand.func 11), args := #[Go.Operand.tmp 3], argTypes := #[22] }, 4, none⟩])
    (.cond (Go.Operand.tmp 4)
      (.seq (.region [⟨some 5, Go.Op.call { callee := Go.Callee.value (Go.Operand.func 12), args := #[], argTypes := #[] }, 4, none⟩,
        ⟨some 2, Go.Op.assign (Go.Operand.tmp 5), 4, none⟩])
      .ret)
      .skip))
    (.seq (.region [⟨some 6, Go.Op.move (Go.Operand.tmp 0), 22, none⟩,
      ⟨some 7, Go.Op.call { callee := Go.Callee.value (Go.Operand.func 13), args := #[Go.Operand.tmp 6], argTypes := #[22] }, 3, none⟩,
      ⟨some 8, Go.Op.move (Go.Operand.tmp 0), 22, none⟩,
      ⟨some 9, Go.Op.call { callee := Go.Callee.value (Go.Operand.func 14), args := #[Go.Operand.tmp 8], argTypes := #[22] }, 3, none⟩,
      ⟨some 10, Go.Op.binOp Go.BinOp.eql 3 (Go.Operand.tmp 7) (Go.Operand.tmp 9) 3, 4, none⟩,
      ⟨some 11, Go.Op.move (Go.Operand.tmp 10), 4, none⟩,
      ⟨some 12, Go.Op.call { callee := Go.Callee.value (Go.Operand.func 12), args := #[], argTypes := #[] }, 4, (some (11, true))⟩,
      ⟨some 13, Go.Op.pick (Go.Operand.tmp 11) (Go.Operand.tmp 12) (Go.Operand.const (Go.Value.bool false)), 4, none⟩,
      ⟨some 2, Go.Op.assign (Go.Operand.tmp 13), 4, none⟩])
    .ret))) :=
  ⟨foll, Try.f3, Try.func3, by kernel_rfl, by kernel_rfl, by kernel_rfl, by rw [Try.ntmps3]; decide⟩

/-- narrator.narratorlaw26.PromptsDivide -/
theorem fn4 : FnIs Try.prog 4 1 [Go.ResultVar.tmp 2] (.seq (.region [⟨some 2, Go.Op.assign (Go.Operand.const (Go.Value.bool false)), 4, none⟩])
    (.seq (.seq (.region [⟨some 7, Go.Op.move (Go.Operand.tmp 0), 22, none⟩,
      ⟨some 8, Go.Op.call { callee := Go.Callee.value (Go.Operand.func 11), args := #[Go.Operand.tmp 7], argTypes := #[22] }, 4, none⟩])
    (.cond (Go.Operand.tmp 8)
      (.seq (.region [⟨some 9, Go.Op.call { callee := Go.Callee.value (Go.Operand.func 12), args := #[], argTypes := #[] }, 4, none⟩,
        ⟨some 2, Go.Op.assign (Go.Operand.tmp 9), 4, none⟩])
      .ret)
      .skip))
    (.seq (.region [⟨some 10, Go.Op.move (Go.Operand.tmp 0), 22, none⟩,
      ⟨some 11, Go.Op.buildSlice 26 1 #[(0, Go.Operand.tmp 10)], 26, none⟩,
      ⟨some 12, Go.Op.build 28 #[(0, Go.Operand.const (Go.Value.int Go.IntKind.i64 132)), (1, Go.Operand.const (Go.Value.int Go.IntKind.i64 1)), (2, Go.Operand.tmp 11)], 28, none⟩,
      ⟨some 3, Go.Op.alloc 28, 0, none⟩,
      ⟨none, Go.Op.store 28 (Go.Operand.tmp 3) (Go.Operand.tmp 12), 0, none⟩])
    (.seq (.region [⟨some 14, Go.Op.load 28 (Go.Operand.tmp 3), 28, none⟩,
      ⟨some 15, Go.Op.build 32 #[], 32, none⟩,
      ⟨some 16, Go.Op.call { callee := Go.Callee.value (Go.Operand.func 15), args := #[Go.Operand.tmp 14, Go.Operand.tmp 15], argTypes := #[28, 32] }, 29, none⟩,
      ⟨some 13, Go.Op.move (Go.Operand.tmp 16), 29, none⟩,
      ⟨some 17, Go.Op.extract (Go.Operand.tmp 13) 0, 9, none⟩,
      ⟨some 18, Go.Op.extract (Go.Operand.tmp 13) 1, 9, none⟩,
      ⟨some 4, Go.Op.assign (Go.Operand.tmp 17), 9, none⟩,
      ⟨some 5, Go.Op.assign (Go.Operand.tmp 18), 9, none⟩])
    (.seq (.region [⟨some 19, Go.Op.move (Go.Operand.tmp 0), 22, none⟩,
      ⟨some 20, Go.Op.call { callee := Go.Callee.value (Go.Operand.func 13), args := #[Go.Operand.tmp 19], argTypes := #[22] }, 3, none⟩,
      ⟨some 6, Go.Op.assign (Go.Operand.tmp 20), 3, none⟩])
    (.seq (.region [⟨some 21, Go.Op.move (Go.Operand.tmp 6), 3, none⟩,
      ⟨some 22, Go.Op.binOp Go.BinOp.geq 3 (Go.Operand.tmp 21) (Go.Operand.const (Go.Value.int Go.IntKind.i64 0)) 3, 4, none⟩,
      ⟨some 23, Go.Op.move (Go.Operand.tmp 22), 4, none⟩,
      ⟨some 24, Go.Op.move (Go.Operand.tmp 6), 3, (some (23, true))⟩,
      ⟨some 25, Go.Op.move (Go.Operand.tmp 0), 22, (some (23, true))⟩,
      ⟨some 26, Go.Op.call { callee := Go.Callee.builtin Go.Builtin.len, args := #[Go.Operand.tmp 25], argTypes := #[22] }, 3, (some (23, true))⟩,
      ⟨some 27, Go.Op.binOp Go.BinOp.leq 3 (Go.Operand.tmp 24) (Go.Operand.tmp 26) 3, 4, (some (23, true))⟩,
      ⟨some 28, Go.Op.pick (Go.Operand.tmp 23) (Go.Operand.tmp 27) (Go.Operand.const (Go.Value.bool false)), 4, none⟩,
      ⟨some 29, Go.Op.move (Go.Operand.tmp 28), 4, none⟩,
      ⟨some 30, Go.Op.move (Go.Operand.tmp 4), 9, (some (29, true))⟩,
      ⟨some 31, Go.Op.move (Go.Operand.tmp 5), 9, (some (29, true))⟩,
      ⟨some 32, Go.Op.binOp Go.BinOp.add 9 (Go.Operand.tmp 30) (Go.Operand.tmp 31) 9, 9, (some (29, true))⟩,
      ⟨some 33, Go.Op.move (Go.Operand.tmp 0), 22, (some (29, true))⟩,
      ⟨some 34, Go.Op.call { callee := Go.Callee.value (Go.Operand.func 16), args := #[Go.Operand.tmp 33], argTypes := #[22] }, 9, (some (29, true))⟩,
      ⟨some 35, Go.Op.binOp Go.BinOp.eql 9 (Go.Operand.tmp 32) (Go.Operand.tmp 34) 9, 4, (some (29, true))⟩,
      ⟨some 36, Go.Op.pick (Go.Operand.tmp 29) (Go.Operand.tmp 35) (Go.Operand.const (Go.Value.bool false)), 4, none⟩,
      ⟨some 37, Go.Op.move (Go.Operand.tmp 36), 4, none⟩,
      ⟨some 38, Go.Op.move (Go.Operand.tmp 4), 9, (some (37, true))⟩,
      ⟨some 39, Go.Op.move (Go.Operand.tmp 0), 22, (some (37, true))⟩,
      ⟨some 40, Go.Op.move (Go.Operand.tmp 6), 3, (some (37, true))⟩,
      ⟨some 41, Go.Op.slice 22 (Go.Operand.tmp 39) none (some (Go.Operand.tmp 40)) none, 22, (some (37, true))⟩,
      ⟨some 42, Go.Op.call { callee := Go.Callee.value (Go.Operand.func 16), args := #[Go.Operand.tmp 41], argTypes := #[22] }, 9, (some (37, true))⟩,
      ⟨some 43, Go.Op.binOp Go.BinOp.eql 9 (Go.Operand.tmp 38) (Go.Operand.tmp 42) 9, 4, (some (37, true))⟩,
      ⟨some 44, Go.Op.pick (Go.Operand.tmp 37) (Go.Operand.tmp 43) (Go.Operand.const (Go.Value.bool false)), 4, none⟩,
      ⟨some 45, Go.Op.move (Go.Operand.tmp 44), 4, none⟩,
      ⟨some 46, Go.Op.call { callee := Go.Callee.value (Go.Operand.func 12), args := #[], argTypes := #[] }, 4, (some (45, true))⟩,
      ⟨some 47, Go.Op.pick (Go.Operand.tmp 45) (Go.Operand.tmp 46) (Go.Operand.const (Go.Value.bool false)), 4, none⟩,
      ⟨some 2, Go.Op.assign (Go.Operand.tmp 47), 4, none⟩])
    .ret)))))) :=
  ⟨foll, Try.f4, Try.func4, by kernel_rfl, by kernel_rfl, by kernel_rfl, by rw [Try.ntmps4]; decide⟩

/-- narrator.narratorlaw26.PromptsFirst -/
theorem fn5 : FnIs Try.prog 5 1 [Go.ResultVar.tmp 2] (.seq (.region [⟨some 2, Go.Op.assign (Go.Operand.const (Go.Value.bool false)), 4, none⟩])
    (.seq (.seq (.region [⟨some 7, Go.Op.move (Go.Operand.tmp 0), 22, none⟩,
      ⟨some 8, Go.Op.call { callee := Go.Callee.value (Go.Operand.func 11), args := #[Go.Operand.tmp 7], argTypes := #[22] }, 4, none⟩])
    (.cond (Go.Operand.tmp 8)
      (.seq (.region [⟨some 9, Go.Op.call { callee := Go.Callee.value (Go.Operand.func 12), args := #[], argTypes := #[] }, 4, none⟩,
        ⟨some 2, Go.Op.assign (Go.Operand.tmp 9), 4, none⟩])
      .ret)
      .skip))
    (.seq (.region [⟨some 10, Go.Op.move (Go.Operand.tmp 0), 22, none⟩,
      ⟨some 11, Go.Op.call { callee := Go.Callee.value (Go.Operand.func 13), args := #[Go.Operand.tmp 10], argTypes := #[22] }, 3, none⟩,
      ⟨some 3, Go.Op.assign (Go.Operand.tmp 11), 3, none⟩])
    (.seq (.seq (.region [⟨some 12, Go.Op.move (Go.Operand.tmp 3), 3, none⟩,
      ⟨some 13, Go.Op.binOp Go.BinOp.lss 3 (Go.Operand.tmp 12) (Go.Operand.const (Go.Value.int Go.IntKind.i64 0)) 3, 4, none⟩,
      ⟨some 14, Go.Op.move (Go.Operand.tmp 13), 4, none⟩,
      ⟨some 15, Go.Op.move (Go.Operand.tmp 3), 3, (some (14, false))⟩,
      ⟨some 16, Go.Op.move (Go.Operand.tmp 0), 22, (some (14, false))⟩,
      ⟨some 17, Go.Op.call { callee := Go.Callee.builtin Go.Builtin.len, args := #[Go.Operand.tmp 16], argTypes := #[22] }, 3, (some (14, false))⟩,
      ⟨some 18, Go.Op.binOp Go.BinOp.gtr 3 (Go.Operand.tmp 15) (Go.Operand.tmp 17) 3, 4, (some (14, false))⟩,
      ⟨some 19, Go.Op.pick (Go.Operand.tmp 14) (Go.Operand.const (Go.Value.bool true)) (Go.Operand.tmp 18), 4, none⟩])
    (.cond (Go.Operand.tmp 19)
      (.seq (.region [⟨some 2, Go.Op.assign (Go.Operand.const (Go.Value.bool false)), 4, none⟩])
      .ret)
      .skip))
    (.seq (.region [⟨some 20, Go.Op.move (Go.Operand.tmp 3), 3, none⟩,
      ⟨some 21, Go.Op.binOp Go.BinOp.sub 3 (Go.Operand.tmp 20) (Go.Operand.const (Go.Value.int Go.IntKind.i64 1)) 3, 3, none⟩,
      ⟨some 4, Go.Op.assign (Go.Operand.tmp 21), 3, none⟩])
    (.seq (.seq (.region [⟨some 22, Go.Op.move (Go.Operand.tmp 3), 3, none⟩,
      ⟨some 23, Go.Op.binOp Go.BinOp.gtr 3 (Go.Operand.tmp 22) (Go.Operand.const (Go.Value.int Go.IntKind.i64 0)) 3, 4, none⟩,
      ⟨some 24, Go.Op.move (Go.Operand.tmp 23), 4, none⟩,
      ⟨some 25, Go.Op.move (Go.Operand.tmp 0), 22, (some (24, true))⟩,
      ⟨some 26, Go.Op.move (Go.Operand.tmp 3), 3, (some (24, true))⟩,
      ⟨some 27, Go.Op.binOp Go.BinOp.sub 3 (Go.Operand.tmp 26) (Go.Operand.const (Go.Value.int Go.IntKind.i64 1)) 3, 3, (some (24, true))⟩,
      ⟨some 28, Go.Op.indexAddr 22 (Go.Operand.tmp 25) (Go.Operand.tmp 27), 0, (some (24, true))⟩,
      ⟨some 29, Go.Op.fieldAddr 35 (Go.Operand.tmp 28) 0, 0, (some (24, true))⟩,
      ⟨some 30, Go.Op.load 9 (Go.Operand.tmp 29), 9, (some (24, true))⟩,
      ⟨some 31, Go.Op.binOp Go.BinOp.eql 9 (Go.Operand.tmp 30) (Go.Operand.const (Go.Value.string { data := #[32] })) 9, 4, (some (24, true))⟩,
      ⟨some 32, Go.Op.pick (Go.Operand.tmp 24) (Go.Operand.tmp 31) (Go.Operand.const (Go.Value.bool false)), 4, none⟩])
    (.cond (Go.Operand.tmp 32)
      (.region [⟨some 33, Go.Op.move (Go.Operand.tmp 3), 3, none⟩,
        ⟨some 34, Go.Op.binOp Go.BinOp.sub 3 (Go.Operand.tmp 33) (Go.Operand.const (Go.Value.int Go.IntKind.i64 2)) 3, 3, none⟩,
        ⟨some 4, Go.Op.assign (Go.Operand.tmp 34), 3, none⟩])
      .skip))
    (.seq (.seq (.region [⟨some 35, Go.Op.move (Go.Operand.tmp 3), 3, none⟩,
      ⟨some 36, Go.Op.binOp Go.BinOp.gtr 3 (Go.Operand.tmp 35) (Go.Operand.const (Go.Value.int Go.IntKind.i64 0)) 3, 4, none⟩,
      ⟨some 37, Go.Op.move (Go.Operand.tmp 36), 4, none⟩,
      ⟨some 38, Go.Op.move (Go.Operand.tmp 4), 3, (some (37, true))⟩,
      ⟨some 39, Go.Op.binOp Go.BinOp.lss 3 (Go.Operand.tmp 38) (Go.Operand.const (Go.Value.int Go.IntKind.i64 0)) 3, 4, (some (37, true))⟩,
      ⟨some 40, Go.Op.move (Go.Operand.tmp 39), 4, (some (37, true))⟩,
      ⟨some 41, Go.Op.move (Go.Operand.tmp 0), 22, (some (40, false))⟩,
      ⟨some 42, Go.Op.move (Go.Operand.tmp 4), 3, (some (40, false))⟩,
      ⟨some 43, Go.Op.indexAddr 22 (Go.Operand.tmp 41) (Go.Operand.tmp 42), 0, (some (40, false))⟩,
      ⟨some 44, Go.Op.load 35 (Go.Operand.tmp 43), 35, (some (40, false))⟩,
      ⟨some 45, Go.Op.call { callee := Go.Callee.value (Go.Operand.func 17), args := #[Go.Operand.tmp 44], argTypes := #[35] }, 4, (some (40, false))⟩,
      ⟨some 46, Go.Op.unOp Go.UnOp.not 4 (Go.Operand.tmp 45), 4, (some (40, false))⟩,
      ⟨some 47, Go.Op.pick (Go.Operand.tmp 40) (Go.Operand.const (Go.Value.bool true)) (Go.Operand.tmp 46), 4, (some (37, true))⟩,
      ⟨some 48, Go.Op.move (Go.Operand.tmp 47), 4, (some (37, true))⟩,
      ⟨some 49, Go.Op.move (Go.Operand.tmp 4), 3, (some (48, false))⟩,
      ⟨some 50, Go.Op.move (Go.Operand.tmp 3), 3, (some (48, false))⟩,
      ⟨some 51, Go.Op.binOp Go.BinOp.sub 3 (Go.Operand.tmp 50) (Go.Operand.const (Go.Value.int Go.IntKind.i64 1)) 3, 3, (some (48, false))⟩,
      ⟨some 52, Go.Op.binOp Go.BinOp.eql 3 (Go.Operand.tmp 49) (Go.Operand.tmp 51) 3, 4, (some (48, false))⟩,
      ⟨some 53, Go.Op.move (Go.Operand.tmp 52), 4, (some (48, false))⟩,
      ⟨some 54, Go.Op.move (Go.Operand.tmp 3), 3, (some (53, true))⟩,
      ⟨some 55, Go.Op.move (Go.Operand.tmp 0), 22, (some (53, true))⟩,
      ⟨some 56, Go.Op.call { callee := Go.Callee.builtin Go.Builtin.len, args := #[Go.Operand.tmp 55], argTypes := #[22] }, 3, (some (53, true))⟩,
      ⟨some 57, Go.Op.binOp Go.BinOp.neq 3 (Go.Operand.tmp 54) (Go.Operand.tmp 56) 3, 4, (some (53, true))⟩,
      ⟨some 58, Go.Op.pick (Go.Operand.tmp 53) (Go.Operand.tmp 57) (Go.Operand.const (Go.Value.bool false)), 4, (some (48, false))⟩,
      ⟨some 59, Go.Op.pick (Go.Operand.tmp 48) (Go.Operand.const (Go.Value.bool true)) (Go.Operand.tmp 58), 4, (some (37, true))⟩,
      ⟨some 60, Go.Op.pick (Go.Operand.tmp 37) (Go.Operand.tmp 59) (Go.Operand.const (Go.Value.bool false)), 4, none⟩])
    (.cond (Go.Operand.tmp 60)
      (.seq (.region [⟨some 2, Go.Op.assign (Go.Operand.const (Go.Value.bool false)), 4, none⟩])
      .ret)
      .skip))
    (.seq (.region [⟨some 61, Go.Op.move (Go.Operand.tmp 4), 3, none⟩,
      ⟨some 5, Go.Op.assign (Go.Operand.tmp 61), 3, none⟩])
    (.seq (.seq (.region [⟨some 62, Go.Op.move (Go.Operand.tmp 3), 3, none⟩,
      ⟨some 63, Go.Op.binOp Go.BinOp.eql 3 (Go.Operand.tmp 62) (Go.Operand.const (Go.Value.int Go.IntKind.i64 0)) 3, 4, none⟩])
    (.cond (Go.Operand.tmp 63)
      (.seq (.region [⟨some 64, Go.Op.move (Go.Operand.tmp 0), 22, none⟩,
        ⟨some 65, Go.Op.call { callee := Go.Callee.builtin Go.Builtin.len, args := #[Go.Operand.tmp 64], argTypes := #[22] }, 3, none⟩,
        ⟨some 5, Go.Op.assign (Go.Operand.tmp 65), 3, none⟩])
      (.seq (.region [⟨some 66, Go.Op.move (Go.Operand.tmp 0), 22, none⟩,
        ⟨some 67, Go.Op.call { callee := Go.Callee.builtin Go.Builtin.len, args := #[Go.Operand.tmp 66], argTypes := #[22] }, 3, none⟩,
        ⟨some 68, Go.Op.binOp Go.BinOp.gtr 3 (Go.Operand.tmp 67) (Go.Operand.const (Go.Value.int Go.IntKind.i64 0)) 3, 4, none⟩,
        ⟨some 69, Go.Op.move (Go.Operand.tmp 68), 4, none⟩,
        ⟨some 70, Go.Op.move (Go.Operand.tmp 0), 22, (some (69, true))⟩,
        ⟨some 71, Go.Op.move (Go.Operand.tmp 0), 22, (some (69, true))⟩,
        ⟨some 72, Go.Op.call { callee := Go.Callee.builtin Go.Builtin.len, args := #[Go.Operand.tmp 71], argTypes := #[22] }, 3, (some (69, true))⟩,
        ⟨some 73, Go.Op.binOp Go.BinOp.sub 3 (Go.Operand.tmp 72) (Go.Operand.const (Go.Value.int Go.IntKind.i64 1)) 3, 3, (some (69, true))⟩,
        ⟨some 74, Go.Op.indexAddr 22 (Go.Operand.tmp 70) (Go.Operand.tmp 73), 0, (some (69, true))⟩,
        ⟨some 75, Go.Op.load 35 (Go.Operand.tmp 74), 35, (some (69, true))⟩,
        ⟨some 76, Go.Op.call { callee := Go.Callee.value (Go.Operand.func 17), args := #[Go.Operand.tmp 75], argTypes := #[35] }, 4, (some (69, true))⟩,
        ⟨some 77, Go.Op.pick (Go.Operand.tmp 69) (Go.Operand.tmp 76) (Go.Operand.const (Go.Value.bool false)), 4, none⟩])
      (.cond (Go.Operand.tmp 77)
        (.seq (.region [⟨some 2, Go.Op.assign (Go.Operand.const (Go.Value.bool false)), 4, none⟩])
        .ret)
        .skip)))
      .skip))
    (.seq (.seq (.region [⟨some 6, Go.Op.assign (Go.Operand.const (Go.Value.int Go.IntKind.i64 0)), 3, none⟩])
    (.block 0
      (.loop
        (.seq (.seq (.region [⟨some 78, Go.Op.move (Go.Operand.tmp 6), 3, none⟩,
          ⟨some 79, Go.Op.move (Go.Operand.tmp 5), 3, none⟩,
          ⟨some 80, Go.Op.binOp Go.BinOp.lss 3 (Go.Operand.tmp 78) (Go.Operand.tmp 79) 3, 4, none⟩,
          ⟨some 81, Go.Op.move (Go.Operand.tmp 80), 4, none⟩,
          ⟨some 82, Go.Op.move (Go.Operand.tmp 6), 3, (some (81, true))⟩,
          ⟨some 83, Go.Op.binOp Go.BinOp.add 3 (Go.Operand.tmp 82) (Go.Operand.const (Go.Value.int Go.IntKind.i64 1)) 3, 3, (some (81, true))⟩,
          ⟨some 84, Go.Op.move (Go.Operand.tmp 0), 22, (some (81, true))⟩,
          ⟨some 85, Go.Op.call { callee := Go.Callee.builtin Go.Builtin.len, args := #[Go.Operand.tmp 84], argTypes := #[22] }, 3, (some (81, true))⟩,
          ⟨some 86, Go.Op.binOp Go.BinOp.lss 3 (Go.Operand.tmp 83) (Go.Operand.tmp 85) 3, 4, (some (81, true))⟩,
          ⟨some 87, Go.Op.pick (Go.Operand.tmp 81) (Go.Operand.tmp 86) (Go.Operand.const (Go.Value.bool false)), 4, none⟩])
        (.cond (Go.Operand.tmp 87)
          .skip
          (.exit 0)))
        (.seq (.block 1
          (.seq (.region [⟨some 90, Go.Op.move (Go.Operand.tmp 0), 22, none⟩,
            ⟨some 91, Go.Op.move (Go.Operand.tmp 6), 3, none⟩,
            ⟨some 92, Go.Op.indexAddr 22 (Go.Operand.tmp 90) (Go.Operand.tmp 91), 0, none⟩,
            ⟨some 93, Go.Op.load 35 (Go.Operand.tmp 92), 35, none⟩,
            ⟨some 94, Go.Op.call { callee := Go.Callee.value (Go.Operand.func 17), args := #[Go.Operand.tmp 93], argTypes := #[35] }, 4, none⟩,
            ⟨some 95, Go.Op.move (Go.Operand.tmp 94), 4, none⟩,
            ⟨some 96, Go.Op.move (Go.Operand.tmp 0), 22, (some (95, true))⟩,
            ⟨some 97, Go.Op.move (Go.Operand.tmp 6), 3, (some (95, true))⟩,
            ⟨some 98, Go.Op.binOp Go.BinOp.add 3 (Go.Operand.tmp 97) (Go.Operand.const (Go.Value.int Go.IntKind.i64 1)) 3, 3, (some (95, true))⟩,
            ⟨some 99, Go.Op.indexAddr 22 (Go.Operand.tmp 96) (Go.Operand.tmp 98), 0, (some (95, true))⟩,
            ⟨some 100, Go.Op.fieldAddr 35 (Go.Operand.tmp 99) 0, 0, (some (95, true))⟩,
            ⟨some 101, Go.Op.load 9 (Go.Operand.tmp 100), 9, (some (95, true))⟩,
            ⟨some 102, Go.Op.binOp Go.BinOp.eql 9 (Go.Operand.tmp 101) (Go.Operand.const (Go.Value.string { data := #[32] })) 9, 4, (some (95, true))⟩,
            ⟨some 103, Go.Op.pick (Go.Operand.tmp 95) (Go.Operand.tmp 102) (Go.Operand.const (Go.Value.bool false)), 4, none⟩])
          (.cond (Go.Operand.tmp 103)
            (.seq (.region [⟨some 2, Go.Op.assign (Go.Operand.const (Go.Value.bool false)), 4, none⟩])
            .ret)
            .skip)))
        (.region [⟨some 88, Go.Op.move (Go.Operand.tmp 6), 3, none⟩,
          ⟨some 89, Go.Op.binOp Go.BinOp.add 3 (Go.Operand.tmp 88) (Go.Operand.const (Go.Value.int Go.IntKind.i64 1)) 3, 3, none⟩,
          ⟨some 6, Go.Op.assign (Go.Operand.tmp 89), 3, none⟩]))))))
    (.seq (.region [⟨some 104, Go.Op.call { callee := Go.Callee.value (Go.Operand.func 12), args := #[], argTypes := #[] }, 4, none⟩,
      ⟨some 2, Go.Op.assign (Go.Operand.tmp 104), 4, none⟩])
    .ret))))))))))) :=
  ⟨foll, Try.f5, Try.func5, by kernel_rfl, by kernel_rfl, by kernel_rfl, by rw [Try.ntmps5]; decide⟩

/-- narrator.narratorlaw26.PromptsTyping -/
theorem fn6 : FnIs Try.prog 6 2 [Go.ResultVar.tmp 4] (.seq (.region [⟨some 4, Go.Op.assign (Go.Operand.const (Go.Value.bool false)), 4, none⟩])
    (.seq (.seq (.region [⟨some 6, Go.Op.move (Go.Operand.tmp 0), 22, none⟩,
      ⟨some 7, Go.Op.call { callee := Go.Callee.value (Go.Operand.func 11), args := #[Go.Operand.tmp 6], argTypes := #[22] }, 4, none⟩,
      ⟨some 8, Go.Op.move (Go.Operand.tmp 7), 4, none⟩,
      ⟨some 9, Go.Op.move (Go.Operand.tmp 1), 22, (some (8, false))⟩,
      ⟨some 10, Go.Op.call { callee := Go.Callee.value (Go.Operand.func 11), args := #[Go.Operand.tmp 9], argTypes := #[22] }, 4, (some (8, false))⟩,
      ⟨some 11, Go.Op.pick (Go.Operand.tmp 8) (Go.Operand.const (Go.Value.bool true)) (Go.Operand.tmp 10), 4, none⟩])
    (.cond (Go.Operand.tmp 11)
      (.seq (.region [⟨some 12, Go.Op.call { callee := Go.Callee.value (Go.Operand.func 12), args := #[], argTypes := #[] }, 4, none⟩,
        ⟨some 4, Go.Op.assign (Go.Operand.tmp 12), 4, none⟩])
      .ret)
      .skip))
    (.seq (.region [⟨some 13, Go.Op.move (Go.Operand.tmp 0), 22, none⟩,
      ⟨some 14, Go.Op.call { callee := Go.Callee.value (Go.Operand.func 13), args := #[Go.Operand.tmp 13], argTypes := #[22] }, 3, none⟩,
      ⟨some 5, Go.Op.assign (Go.Operand.tmp 14), 3, none⟩])
    (.seq (.seq (.region [⟨some 15, Go.Op.move (Go.Operand.tmp 5), 3, none⟩,
      ⟨some 16, Go.Op.binOp Go.BinOp.lss 3 (Go.Operand.tmp 15) (Go.Operand.const (Go.Value.int Go.IntKind.i64 2)) 3, 4, none⟩,
      ⟨some 17, Go.Op.move (Go.Operand.tmp 16), 4, none⟩,
      ⟨some 18, Go.Op.move (Go.Operand.tmp 5), 3, (some (17, false))⟩,
      ⟨some 19, Go.Op.move (Go.Operand.tmp 0), 22, (some (17, false))⟩,
      ⟨some 20, Go.Op.call { callee := Go.Callee.builtin Go.Builtin.len, args := #[Go.Operand.tmp 19], argTypes := #[22] }, 3, (some (17, false))⟩,
      ⟨some 21, Go.Op.binOp Go.BinOp.gtr 3 (Go.Operand.tmp 18) (Go.Operand.tmp 20) 3, 4, (some (17, false))⟩,
      ⟨some 22, Go.Op.pick (Go.Operand.tmp 17) (Go.Operand.const (Go.Value.bool true)) (Go.Operand.tmp 21), 4, none⟩,
      ⟨some 23, Go.Op.move (Go.Operand.tmp 22), 4, none⟩,
      ⟨some 24, Go.Op.move (Go.Operand.tmp 0), 22, (some (23, false))⟩,
      ⟨some 25, Go.Op.move (Go.Operand.tmp 5), 3, (some (23, false))⟩,
      ⟨some 26, Go.Op.binOp Go.BinOp.sub 3 (Go.Operand.tmp 25) (Go.Operand.const (Go.Value.int Go.IntKind.i64 1)) 3, 3, (some (23, false))⟩,
      ⟨some 27, Go.Op.indexAddr 22 (Go.Operand.tmp 24) (Go.Operand.tmp 26), 0, (some (23, false))⟩,
      ⟨some 28, Go.Op.fieldAddr 35 (Go.Operand.tmp 27) 0, 0, (some (23, false))⟩,
      ⟨some 29, Go.Op.load 9 (Go.Operand.tmp 28), 9, (some (23, false))⟩,
      ⟨some 30, Go.Op.binOp Go.BinOp.neq 9 (Go.Operand.tmp 29) (Go.Operand.const (Go.Value.string { data := #[32] })) 9, 4, (some (23, false))⟩,
      ⟨some 31, Go.Op.pick (Go.Operand.tmp 23) (Go.Operand.const (Go.Value.bool true)) (Go.Operand.tmp 30), 4, none⟩])
    (.cond (Go.Operand.tmp 31)
      (.seq (.region [⟨some 32, Go.Op.call { callee := Go.Callee.value (Go.Operand.func 12), args := #[], argTypes := #[] }, 4, none⟩,
        ⟨some 4, Go.Op.assign (Go.Operand.tmp 32), 4, none⟩])
      .ret)
      .skip))
    (.seq (.region [⟨some 33, Go.Op.buildSlice 22 0 #[], 22, none⟩,
      ⟨some 34, Go.Op.move (Go.Operand.tmp 0), 22, none⟩,
      ⟨some 35, Go.Op.move (Go.Operand.tmp 5), 3, none⟩,
      ⟨some 36, Go.Op.slice 22 (Go.Operand.tmp 34) none (some (Go.Operand.tmp 35)) none, 22, none⟩,
      ⟨some 37, Go.Op.call { callee := Go.Callee.builtin Go.Builtin.append, args := #[Go.Operand.tmp 33, Go.Operand.tmp 36], argTypes := #[22, 22] }, 22, none⟩,
      ⟨some 38, Go.Op.move (Go.Operand.tmp 1), 22, none⟩,
      ⟨some 39, Go.Op.call { callee := Go.Callee.builtin Go.Builtin.append, args := #[Go.Operand.tmp 37, Go.Operand.tmp 38], argTypes := #[22, 22] }, 22, none⟩,
      ⟨some 40, Go.Op.call { callee := Go.Callee.value (Go.Operand.func 13), args := #[Go.Operand.tmp 39], argTypes := #[22] }, 3, none⟩,
      ⟨some 41, Go.Op.move (Go.Operand.tmp 5), 3, none⟩,
      ⟨some 42, Go.Op.binOp Go.BinOp.eql 3 (Go.Operand.tmp 40) (Go.Operand.tmp 41) 3, 4, none⟩,
      ⟨some 43, Go.Op.move (Go.Operand.tmp 42), 4, none⟩,
      ⟨some 44, Go.Op.call { callee := Go.Callee.value (Go.Operand.func 12), args := #[], argTypes := #[] }, 4, (some (43, true))⟩,
      ⟨some 45, Go.Op.pick (Go.Operand.tmp 43) (Go.Operand.tmp 44) (Go.Operand.const (Go.Value.bool false)), 4, none⟩,
      ⟨some 4, Go.Op.assign (Go.Operand.tmp 45), 4, none⟩])
    .ret))))) :=
  ⟨foll, Try.f6, Try.func6, by kernel_rfl, by kernel_rfl, by kernel_rfl, by rw [Try.ntmps6]; decide⟩

/-- narrator.narratorlaw26.PromptsPlain -/
theorem fn7 : FnIs Try.prog 7 2 [Go.ResultVar.tmp 4] (.seq (.region [⟨some 4, Go.Op.assign (Go.Operand.const (Go.Value.bool false)), 4, none⟩])
    (.seq (.seq (.region [⟨some 10, Go.Op.move (Go.Operand.tmp 0), 22, none⟩,
      ⟨some 11, Go.Op.call { callee := Go.Callee.value (Go.Operand.func 11), args := #[Go.Operand.tmp 10], argTypes := #[22] }, 4, none⟩])
    (.cond (Go.Operand.tmp 11)
      (.seq (.region [⟨some 12, Go.Op.call { callee := Go.Callee.value (Go.Operand.func 12), args := #[], argTypes := #[] }, 4, none⟩,
        ⟨some 4, Go.Op.assign (Go.Operand.tmp 12), 4, none⟩])
      .ret)
      .skip))
    (.seq (.region [⟨some 13, Go.Op.move (Go.Operand.tmp 1), 5, none⟩,
      ⟨some 14, Go.Op.convert 5 3 (Go.Operand.tmp 13), 3, none⟩,
      ⟨some 15, Go.Op.binOp Go.BinOp.rem 3 (Go.Operand.tmp 14) (Go.Operand.const (Go.Value.int Go.IntKind.i64 5)) 3, 3, none⟩,
      ⟨some 16, Go.Op.move (Go.Operand.tmp 1), 5, none⟩,
      ⟨some 17, Go.Op.convert 5 3 (Go.Operand.tmp 16), 3, none⟩,
      ⟨some 18, Go.Op.binOp Go.BinOp.rem 3 (Go.Operand.tmp 17) (Go.Operand.const (Go.Value.int Go.IntKind.i64 5)) 3, 3, none⟩,
      ⟨some 19, Go.Op.binOp Go.BinOp.add 3 (Go.Operand.tmp 18) (Go.Operand.const (Go.Value.int Go.IntKind.i64 1)) 3, 3, none⟩,
      ⟨some 20, Go.Op.slice 9 (Go.Operand.const (Go.Value.string { data := #[36, 35, 62, 58, 63] })) (some (Go.Operand.tmp 15)) (some (Go.Operand.tmp 19)) none, 9, none⟩,
      ⟨some 5, Go.Op.assign (Go.Operand.tmp 20), 9, none⟩])
    (.seq (.region [⟨some 21, Go.Op.move (Go.Operand.tmp 5), 9, none⟩,
      ⟨some 22, Go.Op.build 35 #[(0, Go.Operand.tmp 21)], 35, none⟩,
      ⟨some 23, Go.Op.build 35 #[(0, Go.Operand.const (Go.Value.string { data := #[32] }))], 35, none⟩,
      ⟨some 24, Go.Op.buildSlice 22 2 #[(0, Go.Operand.tmp 22), (1, Go.Operand.tmp 23)], 22, none⟩,
      ⟨some 25, Go.Op.move (Go.Operand.tmp 0), 22, none⟩,
      ⟨some 26, Go.Op.call { callee := Go.Callee.builtin Go.Builtin.append, args := #[Go.Operand.tmp 24, Go.Operand.tmp 25], argTypes := #[22, 22] }, 22, none⟩,
      ⟨some 6, Go.Op.assign (Go.Operand.tmp 26), 22, none⟩])
    (.seq (.region [⟨some 27, Go.Op.buildSlice 22 0 #[], 22, none⟩,
      ⟨some 7, Go.Op.assign (Go.Operand.tmp 27), 22, none⟩])
    (.seq (.seq (.region [⟨some 28, Go.Op.move (Go.Operand.tmp 0), 22, none⟩,
      ⟨some 29, Go.Op.call { callee := Go.Callee.builtin Go.Builtin.len, args := #[Go.Operand.tmp 28], argTypes := #[22] }, 3, none⟩,
      ⟨some 30, Go.Op.move (Go.Operand.const (Go.Value.int Go.IntKind.i64 0)), 3, none⟩])
    (.block 0
      (.loop
        (.seq (.region [⟨some 31, Go.Op.binOp Go.BinOp.lss 3 (Go.Operand.tmp 30) (Go.Operand.tmp 29) 3, 0, none⟩])
        (.seq (.cond (Go.Operand.tmp 31)
          .skip
          (.exit 0))
        (.seq (.block 1
          (.seq (.region [⟨some 32, Go.Op.indexAddr 22 (Go.Operand.tmp 28) (Go.Operand.tmp 30), 0, none⟩,
            ⟨some 33, Go.Op.load 35 (Go.Operand.tmp 32), 35, none⟩,
            ⟨some 9, Go.Op.alloc 35, 0, none⟩,
            ⟨none, Go.Op.store 35 (Go.Operand.tmp 9) (Go.Operand.tmp 33), 0, none⟩])
          (.seq (.region [⟨some 34, Go.Op.load 35 (Go.Operand.tmp 9), 35, none⟩,
            ⟨some 35, Go.Op.call { callee := Go.Callee.value (Go.Operand.func 17), args := #[Go.Operand.tmp 34], argTypes := #[35] }, 4, none⟩,
            ⟨some 36, Go.Op.unOp Go.UnOp.not 4 (Go.Operand.tmp 35), 4, none⟩])
          (.cond (Go.Operand.tmp 36)
            (.region [⟨some 37, Go.Op.move (Go.Operand.tmp 7), 22, none⟩,
              ⟨some 38, Go.Op.load 35 (Go.Operand.tmp 9), 35, none⟩,
              ⟨some 39, Go.Op.buildSlice 22 1 #[(0, Go.Operand.tmp 38)], 22, none⟩,
              ⟨some 40, Go.Op.call { callee := Go.Callee.builtin Go.Builtin.append, args := #[Go.Operand.tmp 37, Go.Operand.tmp 39], argTypes := #[22, 22] }, 22, none⟩,
              ⟨some 7, Go.Op.assign (Go.Operand.tmp 40), 22, none⟩])
            .skip))))
        (.region [⟨some 41, Go.Op.binOp Go.BinOp.add 3 (Go.Operand.tmp 30) (Go.Operand.const (Go.Value.int Go.IntKind.i64 1)) 3, 3, none⟩,
          ⟨some 30, Go.Op.move (Go.Operand.tmp 41), 3, none⟩])))))))
    (.seq (.region [⟨some 42, Go.Op.move (Go.Operand.tmp 6), 22, none⟩,
      ⟨some 43, Go.Op.call { callee := Go.Callee.value (Go.Operand.func 13), args := #[Go.Operand.tmp 42], argTypes := #[22] }, 3, none⟩,
      ⟨some 44, Go.Op.binOp Go.BinOp.eql 3 (Go.Operand.tmp 43) (Go.Operand.const (Go.Value.int Go.IntKind.i64 2)) 3, 4, none⟩,
      ⟨some 45, Go.Op.move (Go.Operand.tmp 44), 4, none⟩,
      ⟨some 46, Go.Op.move (Go.Operand.tmp 6), 22, (some (45, true))⟩,
      ⟨some 47, Go.Op.slice 22 (Go.Operand.tmp 46) none (some (Go.Operand.const (Go.Value.int Go.IntKind.i64 1))) none, 22, (some (45, true))⟩,
      ⟨some 48, Go.Op.call { callee := Go.Callee.value (Go.Operand.func 13), args := #[Go.Operand.tmp 47], argTypes := #[22] }, 3, (some (45, true))⟩,
      ⟨some 49, Go.Op.binOp Go.BinOp.eql 3 (Go.Operand.tmp 48) (Go.Operand.const (Go.Value.int Go.IntKind.i64 1)) 3, 4, (some (45, true))⟩,
      ⟨some 50, Go.Op.pick (Go.Operand.tmp 45) (Go.Operand.tmp 49) (Go.Operand.const (Go.Value.bool false)), 4, none⟩,
      ⟨some 51, Go.Op.move (Go.Operand.tmp 50), 4, none⟩,
      ⟨some 52, Go.Op.move (Go.Operand.tmp 7), 22, (some (51, true))⟩,
      ⟨some 53, Go.Op.call { callee := Go.Callee.value (Go.Operand.func 13), args := #[Go.Operand.tmp 52], argTypes := #[22] }, 3, (some (51, true))⟩,
      ⟨some 54, Go.Op.binOp Go.BinOp.eql 3 (Go.Operand.tmp 53) (Go.Operand.const (Go.Value.int Go.IntKind.i64 0)) 3, 4, (some (51, true))⟩,
      ⟨some 55, Go.Op.pick (Go.Operand.tmp 51) (Go.Operand.tmp 54) (Go.Operand.const (Go.Value.bool false)), 4, none⟩,
      ⟨some 56, Go.Op.move (Go.Operand.tmp 55), 4, none⟩,
      ⟨some 57, Go.Op.call { callee := Go.Callee.value (Go.Operand.func 12), args := #[], argTypes := #[] }, 4, (some (56, true))⟩,
      ⟨some 58, Go.Op.pick (Go.Operand.tmp 56) (Go.Operand.tmp 57) (Go.Operand.const (Go.Value.bool false)), 4, none⟩,
      ⟨some 4, Go.Op.assign (Go.Operand.tmp 58), 4, none⟩])
    .ret))))))) :=
  ⟨foll, Try.f7, Try.func7, by kernel_rfl, by kernel_rfl, by kernel_rfl, by rw [Try.ntmps7]; decide⟩

/-- narrator.narratorlaw26.PromptsFind -/
theorem fn8 : FnIs Try.prog 8 2 [Go.ResultVar.tmp 4] (.seq (.region [⟨some 2, Go.Op.box 28 (Go.Operand.tmp 0), 0, none⟩,
      ⟨some 3, Go.Op.box 32 (Go.Operand.tmp 1), 0, none⟩,
      ⟨some 4, Go.Op.assign (Go.Operand.const (Go.Value.bool false)), 4, none⟩])
    (.seq (.seq (.region [⟨some 13, Go.Op.load 28 (Go.Operand.tmp 2), 28, none⟩,
      ⟨some 14, Go.Op.call { callee := Go.Callee.value (Go.Operand.func 18), args := #[Go.Operand.tmp 13], argTypes := #[28] }, 4, none⟩])
    (.cond (Go.Operand.tmp 14)
      (.seq (.region [⟨some 15, Go.Op.call { callee := Go.Callee.value (Go.Operand.func 12), args := #[], argTypes := #[] }, 4, none⟩,
        ⟨some 4, Go.Op.assign (Go.Operand.tmp 15), 4, none⟩])
      .ret)
      .skip))
    (.seq (.region [⟨some 17, Go.Op.load 28 (Go.Operand.tmp 2), 28, none⟩,
      ⟨some 18, Go.Op.call { callee := Go.Callee.value (Go.Operand.func 19), args := #[Go.Operand.tmp 17], argTypes := #[28] }, 40, none⟩,
      ⟨some 16, Go.Op.move (Go.Operand.tmp 18), 40, none⟩,
      ⟨some 19, Go.Op.extract (Go.Operand.tmp 16) 0, 32, none⟩,
      ⟨some 20, Go.Op.extract (Go.Operand.tmp 16) 1, 4, none⟩,
      ⟨some 5, Go.Op.alloc 32, 0, none⟩,
      ⟨none, Go.Op.store 32 (Go.Operand.tmp 5) (Go.Operand.tmp 19), 0, none⟩,
      ⟨some 6, Go.Op.assign (Go.Operand.tmp 20), 4, none⟩])
    (.seq (.region [⟨some 22, Go.Op.load 28 (Go.Operand.tmp 2), 28, none⟩,
      ⟨some 23, Go.Op.call { callee := Go.Callee.value (Go.Operand.func 20), args := #[Go.Operand.tmp 22], argTypes := #[28] }, 40, none⟩,
      ⟨some 21, Go.Op.move (Go.Operand.tmp 23), 40, none⟩,
      ⟨some 24, Go.Op.extract (Go.Operand.tmp 21) 0, 32, none⟩,
      ⟨some 25, Go.Op.extract (Go.Operand.tmp 21) 1, 4, none⟩,
      ⟨some 7, Go.Op.alloc 32, 0, none⟩,
      ⟨none, Go.Op.store 32 (Go.Operand.tmp 7) (Go.Operand.tmp 24), 0, none⟩,
      ⟨some 8, Go.Op.assign (Go.Operand.tmp 25), 4, none⟩])
    (.seq (.region [⟨some 27, Go.Op.load 28 (Go.Operand.tmp 2), 28, none⟩,
      ⟨some 28, Go.Op.load 32 (Go.Operand.tmp 3), 32, none⟩,
      ⟨some 29, Go.Op.call { callee := Go.Callee.value (Go.Operand.func 15), args := #[Go.Operand.tmp 27, Go.Operand.tmp 28], argTypes := #[28, 32] }, 29, none⟩,
      ⟨some 26, Go.Op.move (Go.Operand.tmp 29), 29, none⟩,
      ⟨some 30, Go.Op.extract (Go.Operand.tmp 26) 0, 9, none⟩,
      ⟨some 31, Go.Op.extract (Go.Operand.tmp 26) 1, 9, none⟩,
      ⟨some 9, Go.Op.assign (Go.Operand.tmp 30), 9, none⟩,
      ⟨some 10, Go.Op.assign (Go.Operand.tmp 31), 9, none⟩])
    (.seq (.region [⟨some 33, Go.Op.load 28 (Go.Operand.tmp 2), 28, none⟩,
      ⟨some 34, Go.Op.load 32 (Go.Operand.tmp 3), 32, none⟩,
      ⟨some 35, Go.Op.call { callee := Go.Callee.value (Go.Operand.func 21), args := #[Go.Operand.tmp 33, Go.Operand.tmp 34], argTypes := #[28, 32] }, 29, none⟩,
      ⟨some 32, Go.Op.move (Go.Operand.tmp 35), 29, none⟩,
      ⟨some 36, Go.Op.extract (Go.Operand.tmp 32) 0, 9, none⟩,
      ⟨some 37, Go.Op.extract (Go.Operand.tmp 32) 1, 9, none⟩,
      ⟨some 11, Go.Op.assign (Go.Operand.tmp 36), 9, none⟩,
      ⟨some 12, Go.Op.assign (Go.Operand.tmp 37), 9, none⟩])
    (.seq (.region [⟨some 38, Go.Op.load 32 (Go.Operand.tmp 5), 32, none⟩,
      ⟨some 39, Go.Op.load 32 (Go.Operand.tmp 7), 32, none⟩,
      ⟨some 40, Go.Op.binOp Go.BinOp.eql 32 (Go.Operand.tmp 38) (Go.Operand.tmp 39) 32, 4, none⟩,
      ⟨some 41, Go.Op.move (Go.Operand.tmp 40), 4, none⟩,
      ⟨some 42, Go.Op.move (Go.Operand.tmp 6), 4, (some (41, true))⟩,
      ⟨some 43, Go.Op.move (Go.Operand.tmp 8), 4, (some (41, true))⟩,
      ⟨some 44, Go.Op.binOp Go.BinOp.eql 4 (Go.Operand.tmp 42) (Go.Operand.tmp 43) 4, 4, (some (41, true))⟩,
      ⟨some 45, Go.Op.pick (Go.Operand.tmp 41) (Go.Operand.tmp 44) (Go.Operand.const (Go.Value.bool false)), 4, none⟩,
      ⟨some 46, Go.Op.move (Go.Operand.tmp 45), 4, none⟩,
      ⟨some 47, Go.Op.move (Go.Operand.tmp 9), 9, (some (46, true))⟩,
      ⟨some 48, Go.Op.move (Go.Operand.tmp 11), 9, (some (46, true))⟩,
      ⟨some 49, Go.Op.binOp Go.BinOp.eql 9 (Go.Operand.tmp 47) (Go.Operand.tmp 48) 9, 4, (some (46, true))⟩,
      ⟨some 50, Go.Op.pick (Go.Operand.tmp 46) (Go.Operand.tmp 49) (Go.Operand.const (Go.Value.bool false)), 4, none⟩,
      ⟨some 51, Go.Op.move (Go.Operand.tmp 50), 4, none⟩,
      ⟨some 52, Go.Op.move (Go.Operand.tmp 10), 9, (some (51, true))⟩,
      ⟨some 53, Go.Op.move (Go.Operand.tmp 12), 9, (some (51, true))⟩,
      ⟨some 54, Go.Op.binOp Go.BinOp.eql 9 (Go.Operand.tmp 52) (Go.Operand.tmp 53) 9, 4, (some (51, true))⟩,
      ⟨some 55, Go.Op.pick (Go.Operand.tmp 51) (Go.Operand.tmp 54) (Go.Operand.const (Go.Value.bool false)), 4, none⟩,
      ⟨some 56, Go.Op.move (Go.Operand.tmp 55), 4, none⟩,
      ⟨some 57, Go.Op.call { callee := Go.Callee.value (Go.Operand.func 12), args := #[], argTypes := #[] }, 4, (some (56, true))⟩,
      ⟨some 58, Go.Op.pick (Go.Operand.tmp 56) (Go.Operand.tmp 57) (Go.Operand.const (Go.Value.bool false)), 4, none⟩,
      ⟨some 4, Go.Op.assign (Go.Operand.tmp 58), 4, none⟩])
    .ret))))))) :=
  ⟨foll, Try.f8, Try.func8, by kernel_rfl, by kernel_rfl, by kernel_rfl, by rw [Try.ntmps8]; decide⟩

/-- narrator.narratorlaw26.PromptsRegion -/
theorem fn9 : FnIs Try.prog 9 1 [Go.ResultVar.tmp 2] (.seq (.region [⟨some 1, Go.Op.box 28 (Go.Operand.tmp 0), 0, none⟩,
      ⟨some 2, Go.Op.assign (Go.Operand.const (Go.Value.bool false)), 4, none⟩])
    (.seq (.seq (.region [⟨some 8, Go.Op.load 28 (Go.Operand.tmp 1), 28, none⟩,
      ⟨some 9, Go.Op.call { callee := Go.Callee.value (Go.Operand.func 18), args := #[Go.Operand.tmp 8], argTypes := #[28] }, 4, none⟩])
    (.cond (Go.Operand.tmp 9)
      (.seq (.region [⟨some 10, Go.Op.call { callee := Go.Callee.value (Go.Operand.func 12), args := #[], argTypes := #[] }, 4, none⟩,
        ⟨some 2, Go.Op.assign (Go.Operand.tmp 10), 4, none⟩])
      .ret)
      .skip))
    (.seq (.region [⟨some 12, Go.Op.load 28 (Go.Operand.tmp 1), 28, none⟩,
      ⟨some 13, Go.Op.call { callee := Go.Callee.value (Go.Operand.func 19), args := #[Go.Operand.tmp 12], argTypes := #[28] }, 40, none⟩,
      ⟨some 11, Go.Op.move (Go.Operand.tmp 13), 40, none⟩,
      ⟨some 14, Go.Op.extract (Go.Operand.tmp 11) 0, 32, none⟩,
      ⟨some 15, Go.Op.extract (Go.Operand.tmp 11) 1, 4, none⟩,
      ⟨some 3, Go.Op.alloc 32, 0, none⟩,
      ⟨none, Go.Op.store 32 (Go.Operand.tmp 3) (Go.Operand.tmp 14), 0, none⟩,
      ⟨some 4, Go.Op.assign (Go.Operand.tmp 15), 4, none⟩])
    (.seq (.seq (.region [⟨some 16, Go.Op.move (Go.Operand.tmp 4), 4, none⟩,
      ⟨some 17, Go.Op.unOp Go.UnOp.not 4 (Go.Operand.tmp 16), 4, none⟩])
    (.cond (Go.Operand.tmp 17)
      (.seq (.region [⟨some 18, Go.Op.load 32 (Go.Operand.tmp 3), 32, none⟩,
        ⟨some 19, Go.Op.build 32 #[], 32, none⟩,
        ⟨some 20, Go.Op.binOp Go.BinOp.eql 32 (Go.Operand.tmp 18) (Go.Operand.tmp 19) 32, 4, none⟩,
        ⟨some 21, Go.Op.move (Go.Operand.tmp 20), 4, none⟩,
        ⟨some 22, Go.Op.call { callee := Go.Callee.value (Go.Operand.func 12), args := #[], argTypes := #[] }, 4, (some (21, true))⟩,
        ⟨some 23, Go.Op.pick (Go.Operand.tmp 21) (Go.Operand.tmp 22) (Go.Operand.const (Go.Value.bool false)), 4, none⟩,
        ⟨some 2, Go.Op.assign (Go.Operand.tmp 23), 4, none⟩])
      .ret)
      .skip))
    (.seq (.seq (.region [⟨some 24, Go.Op.fieldAddr 28 (Go.Operand.tmp 1) 3, 0, none⟩,
      ⟨some 25, Go.Op.load 3 (Go.Operand.tmp 24), 3, none⟩,
      ⟨some 26, Go.Op.binOp Go.BinOp.lss 3 (Go.Operand.tmp 25) (Go.Operand.const (Go.Value.int Go.IntKind.i64 0)) 3, 4, none⟩,
      ⟨some 27, Go.Op.move (Go.Operand.tmp 26), 4, none⟩,
      ⟨some 28, Go.Op.fieldAddr 28 (Go.Operand.tmp 1) 3, 0, (some (27, false))⟩,
      ⟨some 29, Go.Op.load 3 (Go.Operand.tmp 28), 3, (some (27, false))⟩,
      ⟨some 30, Go.Op.fieldAddr 28 (Go.Operand.tmp 1) 2, 0, (some (27, false))⟩,
      ⟨some 31, Go.Op.load 26 (Go.Operand.tmp 30), 26, (some (27, false))⟩,
      ⟨some 32, Go.Op.call { callee := Go.Callee.builtin Go.Builtin.len, args := #[Go.Operand.tmp 31], argTypes := #[26] }, 3, (some (27, false))⟩,
      ⟨some 33, Go.Op.binOp Go.BinOp.geq 3 (Go.Operand.tmp 29) (Go.Operand.tmp 32) 3, 4, (some (27, false))⟩,
      ⟨some 34, Go.Op.pick (Go.Operand.tmp 27) (Go.Operand.const (Go.Value.bool true)) (Go.Operand.tmp 33), 4, none⟩])
    (.cond (Go.Operand.tmp 34)
      (.seq (.region [⟨some 2, Go.Op.assign (Go.Operand.const (Go.Value.bool false)), 4, none⟩])
      .ret)
      .skip))
    (.seq (.region [⟨some 36, Go.Op.load 28 (Go.Operand.tmp 1), 28, none⟩,
      ⟨some 37, Go.Op.load 32 (Go.Operand.tmp 3), 32, none⟩,
      ⟨some 38, Go.Op.call { callee := Go.Callee.value (Go.Operand.func 15), args := #[Go.Operand.tmp 36, Go.Operand.tmp 37], argTypes := #[28, 32] }, 29, none⟩,
      ⟨some 35, Go.Op.move (Go.Operand.tmp 38), 29, none⟩,
      ⟨some 39, Go.Op.extract (Go.Operand.tmp 35) 0, 9, none⟩,
      ⟨some 40, Go.Op.extract (Go.Operand.tmp 35) 1, 9, none⟩,
      ⟨some 5, Go.Op.assign (Go.Operand.tmp 39), 9, none⟩,
      ⟨some 6, Go.Op.assign (Go.Operand.tmp 40), 9, none⟩])
    (.seq (.region [⟨some 41, Go.Op.fieldAddr 28 (Go.Operand.tmp 1) 2, 0, none⟩,
      ⟨some 42, Go.Op.load 26 (Go.Operand.tmp 41), 26, none⟩,
      ⟨some 43, Go.Op.fieldAddr 28 (Go.Operand.tmp 1) 3, 0, none⟩,
      ⟨some 44, Go.Op.load 3 (Go.Operand.tmp 43), 3, none⟩,
      ⟨some 45, Go.Op.indexAddr 26 (Go.Operand.tmp 42) (Go.Operand.tmp 44), 0, none⟩,
      ⟨some 46, Go.Op.load 22 (Go.Operand.tmp 45), 22, none⟩,
      ⟨some 47, Go.Op.call { callee := Go.Callee.value (Go.Operand.func 13), args := #[Go.Operand.tmp 46], argTypes := #[22] }, 3, none⟩,
      ⟨some 7, Go.Op.assign (Go.Operand.tmp 47), 3, none⟩])
    (.seq (.draw [⟨⟨some 48, Go.Op.fieldAddr 32 (Go.Operand.tmp 3) 0, 0, none⟩, false, false, false⟩,
      ⟨⟨some 49, Go.Op.load 3 (Go.Operand.tmp 48), 3, none⟩, false, false, false⟩,
      ⟨⟨some 50, Go.Op.binOp Go.BinOp.eql 3 (Go.Operand.tmp 49) (Go.Operand.const (Go.Value.int Go.IntKind.i64 7)) 3, 4, none⟩, false, false, false⟩,
      ⟨⟨some 51, Go.Op.move (Go.Operand.tmp 50), 4, none⟩, false, false, false⟩,
      ⟨⟨some 52, Go.Op.fieldAddr 32 (Go.Operand.tmp 3) 2, 0, (some (51, true))⟩, false, false, false⟩,
      ⟨⟨some 53, Go.Op.load 3 (Go.Operand.tmp 52), 3, (some (51, true))⟩, false, false, false⟩,
      ⟨⟨some 54, Go.Op.binOp Go.BinOp.eql 3 (Go.Operand.tmp 53) (Go.Operand.const (Go.Value.int Go.IntKind.i64 (-1))) 3, 4, (some (51, true))⟩, false, false, false⟩,
      ⟨⟨some 55, Go.Op.pick (Go.Operand.tmp 51) (Go.Operand.tmp 54) (Go.Operand.const (Go.Value.bool false)), 4, none⟩, false, false, false⟩,
      ⟨⟨some 56, Go.Op.move (Go.Operand.tmp 55), 4, none⟩, false, false, false⟩,
      ⟨⟨some 57, Go.Op.fieldAddr 32 (Go.Operand.tmp 3) 1, 0, (some (56, true))⟩, false, false, false⟩,
      ⟨⟨some 58, Go.Op.load 3 (Go.Operand.tmp 57), 3, (some (56, true))⟩, false, false, false⟩,
      ⟨⟨some 59, Go.Op.binOp Go.BinOp.eql 3 (Go.Operand.tmp 58) (Go.Operand.const (Go.Value.int Go.IntKind.i64 0)) 3, 4, (some (56, true))⟩, false, false, false⟩,
      ⟨⟨some 60, Go.Op.pick (Go.Operand.tmp 56) (Go.Operand.tmp 59) (Go.Operand.const (Go.Value.bool false)), 4, none⟩, false, false, false⟩,
      ⟨⟨some 61, Go.Op.move (Go.Operand.tmp 60), 4, none⟩, false, false, false⟩,
      ⟨⟨some 62, Go.Op.fieldAddr 32 (Go.Operand.tmp 3) 3, 0, (some (61, true))⟩, false, false, false⟩,
      ⟨⟨some 63, Go.Op.load 3 (Go.Operand.tmp 62), 3, (some (61, true))⟩, false, false, false⟩,
      ⟨⟨some 64, Go.Op.fieldAddr 28 (Go.Operand.tmp 1) 3, 0, (some (61, true))⟩, false, false, false⟩,
      ⟨⟨some 65, Go.Op.load 3 (Go.Operand.tmp 64), 3, (some (61, true))⟩, false, false, false⟩,
      ⟨⟨some 66, Go.Op.binOp Go.BinOp.eql 3 (Go.Operand.tmp 63) (Go.Operand.tmp 65) 3, 4, (some (61, true))⟩, false, false, false⟩,
      ⟨⟨some 67, Go.Op.pick (Go.Operand.tmp 61) (Go.Operand.tmp 66) (Go.Operand.const (Go.Value.bool false)), 4, none⟩, false, false, false⟩,
      ⟨⟨some 68, Go.Op.move (Go.Operand.tmp 67), 4, none⟩, false, false, false⟩,
      ⟨⟨some 69, Go.Op.fieldAddr 32 (Go.Operand.tmp 3) 5, 0, (some (68, true))⟩, false, false, false⟩,
      ⟨⟨some 70, Go.Op.load 3 (Go.Operand.tmp 69), 3, (some (68, true))⟩, false, false, false⟩,
      ⟨⟨some 71, Go.Op.fieldAddr 28 (Go.Operand.tmp 1) 3, 0, (some (68, true))⟩, false, false, false⟩,
      ⟨⟨some 72, Go.Op.load 3 (Go.Operand.tmp 71), 3, (some (68, true))⟩, false, false, false⟩,
      ⟨⟨some 73, Go.Op.binOp Go.BinOp.add 3 (Go.Operand.tmp 72) (Go.Operand.const (Go.Value.int Go.IntKind.i64 1)) 3, 3, (some (68, true))⟩, false, false, false⟩,
      ⟨⟨some 74, Go.Op.binOp Go.BinOp.eql 3 (Go.Operand.tmp 70) (Go.Operand.tmp 73) 3, 4, (some (68, true))⟩, false, false, false⟩,
      ⟨⟨some 75, Go.Op.pick (Go.Operand.tmp 68) (Go.Operand.tmp 74) (Go.Operand.const (Go.Value.bool false)), 4, none⟩, false, false, false⟩,
      ⟨⟨some 76, Go.Op.move (Go.Operand.tmp 75), 4, none⟩, false, false, false⟩,
      ⟨⟨some 77, Go.Op.fieldAddr 32 (Go.Operand.tmp 3) 4, 0, (some (76, true))⟩, false, false, false⟩,
      ⟨⟨some 78, Go.Op.load 3 (Go.Operand.tmp 77), 3, (some (76, true))⟩, false, false, false⟩,
      ⟨⟨some 79, Go.Op.binOp Go.BinOp.eql 3 (Go.Operand.tmp 78) (Go.Operand.const (Go.Value.int Go.IntKind.i64 0)) 3, 4, (some (76, true))⟩, false, false, false⟩,
      ⟨⟨some 80, Go.Op.pick (Go.Operand.tmp 76) (Go.Operand.tmp 79) (Go.Operand.const (Go.Value.bool false)), 4, none⟩, false, false, false⟩,
      ⟨⟨some 81, Go.Op.move (Go.Operand.tmp 80), 4, none⟩, false, false, false⟩,
      ⟨⟨some 82, Go.Op.fieldAddr 32 (Go.Operand.tmp 3) 6, 0, (some (81, true))⟩, false, false, false⟩,
      ⟨⟨some 83, Go.Op.load 3 (Go.Operand.tmp 82), 3, (some (81, true))⟩, false, false, false⟩,
      ⟨⟨some 84, Go.Op.fieldAddr 28 (Go.Operand.tmp 1) 0, 0, (some (81, true))⟩, false, false, false⟩,
      ⟨⟨some 85, Go.Op.load 3 (Go.Operand.tmp 84), 3, (some (81, true))⟩, false, false, false⟩,
      ⟨⟨some 86, Go.Op.binOp Go.BinOp.eql 3 (Go.Operand.tmp 83) (Go.Operand.tmp 85) 3, 4, (some (81, true))⟩, false, false, false⟩,
      ⟨⟨some 87, Go.Op.pick (Go.Operand.tmp 81) (Go.Operand.tmp 86) (Go.Operand.const (Go.Value.bool false)), 4, none⟩, false, false, false⟩,
      ⟨⟨some 88, Go.Op.move (Go.Operand.tmp 87), 4, none⟩, false, false, false⟩,
      ⟨⟨some 89, Go.Op.move (Go.Operand.tmp 5), 9, (some (88, true))⟩, false, false, false⟩,
      ⟨⟨some 90, Go.Op.fieldAddr 32 (Go.Operand.tmp 3) 7, 0, (some (88, true))⟩, false, false, false⟩,
      ⟨⟨some 91, Go.Op.load 9 (Go.Operand.tmp 90), 9, (some (88, true))⟩, false, false, false⟩,
      ⟨⟨some 92, Go.Op.binOp Go.BinOp.eql 9 (Go.Operand.tmp 89) (Go.Operand.tmp 91) 9, 4, (some (88, true))⟩, false, false, false⟩,
      ⟨⟨some 93, Go.Op.move (Go.Operand.tmp 92), 4, (some (88, true))⟩, false, false, false⟩,
      ⟨⟨some 94, Go.Op.move (Go.Operand.tmp 5), 9, (some (93, false))⟩, false, false, false⟩,
      ⟨⟨some 95, Go.Op.fieldAddr 32 (Go.Operand.tmp 3) 7, 0, (some (93, false))⟩, false, false, false⟩,
      ⟨⟨some 96, Go.Op.load 9 (Go.Operand.tmp 95), 9, (some (93, false))⟩, false, false, false⟩,
      ⟨⟨some 97, Go.Op.binOp Go.BinOp.add 9 (Go.Operand.tmp 96) (Go.Operand.const (Go.Value.string { data := #[32] })) 9, 9, (some (93, false))⟩, false, false, false⟩,
      ⟨⟨some 98, Go.Op.binOp Go.BinOp.eql 9 (Go.Operand.tmp 94) (Go.Operand.tmp 97) 9, 4, (some (93, false))⟩, false, false, false⟩,
      ⟨⟨some 99, Go.Op.pick (Go.Operand.tmp 93) (Go.Operand.const (Go.Value.bool true)) (Go.Operand.tmp 98), 4, (some (88, true))⟩, false, false, false⟩,
      ⟨⟨some 100, Go.Op.pick (Go.Operand.tmp 88) (Go.Operand.tmp 99) (Go.Operand.const (Go.Value.bool false)), 4, none⟩, false, false, false⟩,
      ⟨⟨some 101, Go.Op.move (Go.Operand.tmp 100), 4, none⟩, false, false, false⟩,
      ⟨⟨some 102, Go.Op.fieldAddr 32 (Go.Operand.tmp 3) 7, 0, (some (101, true))⟩, false, false, false⟩,
      ⟨⟨some 103, Go.Op.load 9 (Go.Operand.tmp 102), 9, (some (101, true))⟩, false, false, false⟩,
      ⟨⟨some 104, Go.Op.binOp Go.BinOp.neq 9 (Go.Operand.tmp 103) (Go.Operand.const (Go.Value.string { data := #[] })) 9, 4, (some (101, true))⟩, false, false, false⟩,
      ⟨⟨some 105, Go.Op.pick (Go.Operand.tmp 101) (Go.Operand.tmp 104) (Go.Operand.const (Go.Value.bool false)), 4, none⟩, false, false, false⟩,
      ⟨⟨some 106, Go.Op.move (Go.Operand.tmp 105), 4, none⟩, false, false, false⟩,
      ⟨⟨some 107, Go.Op.move (Go.Operand.tmp 7), 3, (some (106, true))⟩, false, false, false⟩,
      ⟨⟨some 108, Go.Op.binOp Go.BinOp.gtr 3 (Go.Operand.tmp 107) (Go.Operand.const (Go.Value.int Go.IntKind.i64 0)) 3, 4, (some (106, true))⟩, false, false, false⟩,
      ⟨⟨some 109, Go.Op.pick (Go.Operand.tmp 106) (Go.Operand.tmp 108) (Go.Operand.const (Go.Value.bool false)), 4, none⟩, false, false, false⟩,
      ⟨⟨some 110, Go.Op.move (Go.Operand.tmp 109), 4, none⟩, false, false, false⟩,
      ⟨⟨some 111, Go.Op.fieldAddr 28 (Go.Operand.tmp 1) 2, 0, (some (110, true))⟩, false, false, false⟩,
      ⟨⟨some 112, Go.Op.load 26 (Go.Operand.tmp 111), 26, (some (110, true))⟩, false, false, false⟩,
      ⟨⟨some 113, Go.Op.fieldAddr 28 (Go.Operand.tmp 1) 3, 0, (some (110, true))⟩, false, false, false⟩,
      ⟨⟨some 114, Go.Op.load 3 (Go.Operand.tmp 113), 3, (some (110, true))⟩, false, false, false⟩,
      ⟨⟨some 115, Go.Op.indexAddr 26 (Go.Operand.tmp 112) (Go.Operand.tmp 114), 0, (some (110, true))⟩, false, false, false⟩,
      ⟨⟨some 116, Go.Op.load 22 (Go.Operand.tmp 115), 22, (some (110, true))⟩, false, false, false⟩,
      ⟨⟨some 117, Go.Op.fieldAddr 28 (Go.Operand.tmp 1) 4, 0, (some (110, true))⟩, false, false, false⟩,
      ⟨⟨some 118, Go.Op.load 3 (Go.Operand.tmp 117), 3, (some (110, true))⟩, false, false, false⟩,
      ⟨⟨some 119, Go.Op.call { callee := Go.Callee.value (Go.Operand.func 22), args := #[Go.Operand.tmp 116, Go.Operand.tmp 118], argTypes := #[22, 3] }, 3, (some (110, true))⟩, false, false, false⟩,
      ⟨⟨some 120, Go.Op.move (Go.Operand.tmp 7), 3, (some (110, true))⟩, false, false, false⟩,
      ⟨⟨some 121, Go.Op.binOp Go.BinOp.geq 3 (Go.Operand.tmp 119) (Go.Operand.tmp 120) 3, 4, (some (110, true))⟩, false, false, false⟩,
      ⟨⟨some 122, Go.Op.pick (Go.Operand.tmp 110) (Go.Operand.tmp 121) (Go.Operand.const (Go.Value.bool false)), 4, none⟩, false, false, false⟩,
      ⟨⟨some 123, Go.Op.move (Go.Operand.tmp 122), 4, none⟩, false, false, false⟩,
      ⟨⟨some 124, Go.Op.call { callee := Go.Callee.value (Go.Operand.func 12), args := #[], argTypes := #[] }, 4, (some (123, true))⟩, false, false, false⟩,
      ⟨⟨some 125, Go.Op.pick (Go.Operand.tmp 123) (Go.Operand.tmp 124) (Go.Operand.const (Go.Value.bool false)), 4, none⟩, false, false, false⟩,
      ⟨⟨some 2, Go.Op.assign (Go.Operand.tmp 125), 4, none⟩, false, false, false⟩])
    .ret)))))))) :=
  ⟨foll, Try.f9, Try.func9, by kernel_rfl, by kernel_rfl, by kernel_rfl, by rw [Try.ntmps9]; decide⟩

/-- narrator.narratorlaw26.PromptsCursor -/
theorem fn10 : FnIs Try.prog 10 2 [Go.ResultVar.tmp 4] (.seq (.region [⟨some 4, Go.Op.assign (Go.Operand.const (Go.Value.bool false)), 4, none⟩])
    (.seq (.seq (.region [⟨some 11, Go.Op.move (Go.Operand.tmp 0), 22, none⟩,
      ⟨some 12, Go.Op.call { callee := Go.Callee.value (Go.Operand.func 11), args := #[Go.Operand.tmp 11], argTypes := #[22] }, 4, none⟩,
      ⟨some 13, Go.Op.move (Go.Operand.tmp 12), 4, none⟩,
      ⟨some 14, Go.Op.move (Go.Operand.tmp 0), 22, (some (13, false))⟩,
      ⟨some 15, Go.Op.call { callee := Go.Callee.builtin Go.Builtin.len, args := #[Go.Operand.tmp 14], argTypes := #[22] }, 3, (some (13, false))⟩,
      ⟨some 16, Go.Op.binOp Go.BinOp.gtr 3 (Go.Operand.tmp 15) (Go.Operand.const (Go.Value.int Go.IntKind.i64 100)) 3, 4, (some (13, false))⟩,
      ⟨some 17, Go.Op.pick (Go.Operand.tmp 13) (Go.Operand.const (Go.Value.bool true)) (Go.Operand.tmp 16), 4, none⟩])
    (.cond (Go.Operand.tmp 17)
      (.seq (.region [⟨some 18, Go.Op.call { callee := Go.Callee.value (Go.Operand.func 12), args := #[], argTypes := #[] }, 4, none⟩,
        ⟨some 4, Go.Op.assign (Go.Operand.tmp 18), 4, none⟩])
      .ret)
      .skip))
    (.seq (.region [⟨some 19, Go.Op.move (Go.Operand.tmp 0), 22, none⟩,
      ⟨some 20, Go.Op.buildSlice 26 3 #[(0, Go.Operand.const (Go.Value.slice none 0 0)), (1, Go.Operand.tmp 19), (2, Go.Operand.const (Go.Value.slice none 0 0))], 26, none⟩,
      ⟨some 21, Go.Op.move (Go.Operand.tmp 1), 5, none⟩,
      ⟨some 22, Go.Op.convert 5 3 (Go.Operand.tmp 21), 3, none⟩,
      ⟨some 23, Go.Op.binOp Go.BinOp.rem 3 (Go.Operand.tmp 22) (Go.Operand.const (Go.Value.int Go.IntKind.i64 132)) 3, 3, none⟩,
      ⟨some 24, Go.Op.build 28 #[(0, Go.Operand.const (Go.Value.int Go.IntKind.i64 132)), (1, Go.Operand.const (Go.Value.int Go.IntKind.i64 3)), (2, Go.Operand.tmp 20), (3, Go.Operand.const (Go.Value.int Go.IntKind.i64 1)), (4, Go.Operand.tmp 23)], 28, none⟩,
      ⟨some 5, Go.Op.alloc 28, 0, none⟩,
      ⟨none, Go.Op.store 28 (Go.Operand.tmp 5) (Go.Operand.tmp 24), 0, none⟩])
    (.seq (.region [⟨some 26, Go.Op.load 28 (Go.Operand.tmp 5), 28, none⟩,
      ⟨some 27, Go.Op.call { callee := Go.Callee.value (Go.Operand.func 19), args := #[Go.Operand.tmp 26], argTypes := #[28] }, 40, none⟩,
      ⟨some 25, Go.Op.move (Go.Operand.tmp 27), 40, none⟩,
      ⟨some 28, Go.Op.extract (Go.Operand.tmp 25) 0, 32, none⟩,
      ⟨some 29, Go.Op.extract (Go.Operand.tmp 25) 1, 4, none⟩,
      ⟨some 6, Go.Op.alloc 32, 0, none⟩,
      ⟨none, Go.Op.store 32 (Go.Operand.tmp 6) (Go.Operand.tmp 28), 0, none⟩,
      ⟨some 7, Go.Op.assign (Go.Operand.tmp 29), 4, none⟩])
    (.seq (.region [⟨some 30, Go.Op.move (Go.Operand.tmp 0), 22, none⟩,
      ⟨some 31, Go.Op.call { callee := Go.Callee.value (Go.Operand.func 13), args := #[Go.Operand.tmp 30], argTypes := #[22] }, 3, none⟩,
      ⟨some 8, Go.Op.assign (Go.Operand.tmp 31), 3, none⟩])
    (.seq (.seq (.region [⟨some 32, Go.Op.move (Go.Operand.tmp 7), 4, none⟩,
      ⟨some 33, Go.Op.move (Go.Operand.tmp 8), 3, none⟩,
      ⟨some 34, Go.Op.binOp Go.BinOp.gtr 3 (Go.Operand.tmp 33) (Go.Operand.const (Go.Value.int Go.IntKind.i64 0)) 3, 4, none⟩,
      ⟨some 35, Go.Op.move (Go.Operand.tmp 34), 4, none⟩,
      ⟨some 36, Go.Op.move (Go.Operand.tmp 0), 22, (some (35, true))⟩,
      ⟨some 37, Go.Op.fieldAddr 28 (Go.Operand.tmp 5) 4, 0, (some (35, true))⟩,
      ⟨some 38, Go.Op.load 3 (Go.Operand.tmp 37), 3, (some (35, true))⟩,
      ⟨some 39, Go.Op.call { callee := Go.Callee.value (Go.Operand.func 22), args := #[Go.Operand.tmp 36, Go.Operand.tmp 38], argTypes := #[22, 3] }, 3, (some (35, true))⟩,
      ⟨some 40, Go.Op.move (Go.Operand.tmp 8), 3, (some (35, true))⟩,
      ⟨some 41, Go.Op.binOp Go.BinOp.geq 3 (Go.Operand.tmp 39) (Go.Operand.tmp 40) 3, 4, (some (35, true))⟩,
      ⟨some 42, Go.Op.pick (Go.Operand.tmp 35) (Go.Operand.tmp 41) (Go.Operand.const (Go.Value.bool false)), 4, none⟩,
      ⟨some 43, Go.Op.binOp Go.BinOp.neq 4 (Go.Operand.tmp 32) (Go.Operand.tmp 42) 4, 4, none⟩])
    (.cond (Go.Operand.tmp 43)
      (.seq (.region [⟨some 4, Go.Op.assign (Go.Operand.const (Go.Value.bool false)), 4, none⟩])
      .ret)
      .skip))
    (.seq (.region [⟨some 44, Go.Op.fieldAddr 28 (Go.Operand.tmp 5) 3, 0, none⟩,
      ⟨none, Go.Op.store 3 (Go.Operand.tmp 44) (Go.Operand.const (Go.Value.int Go.IntKind.i64 0)), 0, none⟩])
    (.seq (.region [⟨some 46, Go.Op.load 28 (Go.Operand.tmp 5), 28, none⟩,
      ⟨some 47, Go.Op.call { callee := Go.Callee.value (Go.Operand.func 19), args := #[Go.Operand.tmp 46], argTypes := #[28] }, 40, none⟩,
      ⟨some 45, Go.Op.move (Go.Operand.tmp 47), 40, none⟩,
      ⟨some 48, Go.Op.extract (Go.Operand.tmp 45) 0, 32, none⟩,
      ⟨some 49, Go.Op.extract (Go.Operand.tmp 45) 1, 4, none⟩,
      ⟨some 9, Go.Op.alloc 32, 0, none⟩,
      ⟨none, Go.Op.store 32 (Go.Operand.tmp 9) (Go.Operand.tmp 48), 0, none⟩,
      ⟨some 10, Go.Op.assign (Go.Operand.tmp 49), 4, none⟩])
    (.seq (.region [⟨some 50, Go.Op.move (Go.Operand.tmp 10), 4, none⟩,
      ⟨some 51, Go.Op.unOp Go.UnOp.not 4 (Go.Operand.tmp 50), 4, none⟩,
      ⟨some 52, Go.Op.move (Go.Operand.tmp 51), 4, none⟩,
      ⟨some 53, Go.Op.call { callee := Go.Callee.value (Go.Operand.func 12), args := #[], argTypes := #[] }, 4, (some (52, true))⟩,
      ⟨some 54, Go.Op.pick (Go.Operand.tmp 52) (Go.Operand.tmp 53) (Go.Operand.const (Go.Value.bool false)), 4, none⟩,
      ⟨some 4, Go.Op.assign (Go.Operand.tmp 54), 4, none⟩])
    .ret))))))))) :=
  ⟨foll, Try.f10, Try.func10, by kernel_rfl, by kernel_rfl, by kernel_rfl, by rw [Try.ntmps10]; decide⟩

/-- narrator.narratorref15.GreatRow -/
theorem fn11 : FnIs Try.prog 11 1 [Go.ResultVar.tmp 2] (.seq (.region [⟨some 2, Go.Op.assign (Go.Operand.const (Go.Value.bool false)), 4, none⟩])
    (.seq (.seq (.region [⟨some 4, Go.Op.move (Go.Operand.tmp 0), 22, none⟩,
      ⟨some 5, Go.Op.call { callee := Go.Callee.builtin Go.Builtin.len, args := #[Go.Operand.tmp 4], argTypes := #[22] }, 3, none⟩,
      ⟨some 6, Go.Op.binOp Go.BinOp.gtr 3 (Go.Operand.tmp 5) (Go.Operand.const (Go.Value.int Go.IntKind.i64 140)) 3, 4, none⟩])
    (.cond (Go.Operand.tmp 6)
      (.seq (.region [⟨some 2, Go.Op.assign (Go.Operand.const (Go.Value.bool true)), 4, none⟩])
      .ret)
      .skip))
    (.seq (.seq (.region [⟨some 3, Go.Op.assign (Go.Operand.const (Go.Value.int Go.IntKind.i64 0)), 3, none⟩])
    (.block 0
      (.loop
        (.seq (.seq (.region [⟨some 7, Go.Op.move (Go.Operand.tmp 3), 3, none⟩,
          ⟨some 8, Go.Op.move (Go.Operand.tmp 0), 22, none⟩,
          ⟨some 9, Go.Op.call { callee := Go.Callee.builtin Go.Builtin.len, args := #[Go.Operand.tmp 8], argTypes := #[22] }, 3, none⟩,
          ⟨some 10, Go.Op.binOp Go.BinOp.lss 3 (Go.Operand.tmp 7) (Go.Operand.tmp 9) 3, 4, none⟩])
        (.cond (Go.Operand.tmp 10)
          .skip
          (.exit 0)))
        (.seq (.block 1
          (.seq (.region [⟨some 13, Go.Op.move (Go.Operand.tmp 0), 22, none⟩,
            ⟨some 14, Go.Op.move (Go.Operand.tmp 3), 3, none⟩,
            ⟨some 15, Go.Op.indexAddr 22 (Go.Operand.tmp 13) (Go.Operand.tmp 14), 0, none⟩,
            ⟨some 16, Go.Op.fieldAddr 35 (Go.Operand.tmp 15) 0, 0, none⟩,
            ⟨some 17, Go.Op.load 9 (Go.Operand.tmp 16), 9, none⟩,
            ⟨some 18, Go.Op.call { callee := Go.Callee.builtin Go.Builtin.len, args := #[Go.Operand.tmp 17], argTypes := #[9] }, 3, none⟩,
            ⟨some 19, Go.Op.binOp Go.BinOp.gtr 3 (Go.Operand.tmp 18) (Go.Operand.const (Go.Value.int Go.IntKind.i64 40)) 3, 4, none⟩])
          (.cond (Go.Operand.tmp 19)
            (.seq (.region [⟨some 2, Go.Op.assign (Go.Operand.const (Go.Value.bool true)), 4, none⟩])
            .ret)
            .skip)))
        (.region [⟨some 11, Go.Op.move (Go.Operand.tmp 3), 3, none⟩,
          ⟨some 12, Go.Op.binOp Go.BinOp.add 3 (Go.Operand.tmp 11) (Go.Operand.const (Go.Value.int Go.IntKind.i64 1)) 3, 3, none⟩,
          ⟨some 3, Go.Op.assign (Go.Operand.tmp 12), 3, none⟩]))))))
    (.seq (.region [⟨some 2, Go.Op.assign (Go.Operand.const (Go.Value.bool false)), 4, none⟩])
    .ret)))) :=
  ⟨foll, Try.f11, Try.func11, by kernel_rfl, by kernel_rfl, by kernel_rfl, by rw [Try.ntmps11]; decide⟩

/-- narrator.narratorlaw26.awake -/
theorem fn12 : FnIs Try.prog 12 0 [Go.ResultVar.tmp 0] (.seq (.region [⟨some 0, Go.Op.assign (Go.Operand.const (Go.Value.bool false)), 4, none⟩])
    (.seq (.region [⟨some 4, Go.Op.call { callee := Go.Callee.value (Go.Operand.func 23), args := #[Go.Operand.const (Go.Value.string { data := #[109, 101, 64, 104, 111, 115, 116, 58, 126, 36, 32, 108, 115, 32, 45, 108] })], argTypes := #[9] }, 22, none⟩,
      ⟨some 5, Go.Op.buildSlice 26 1 #[(0, Go.Operand.tmp 4)], 26, none⟩,
      ⟨some 6, Go.Op.build 28 #[(0, Go.Operand.const (Go.Value.int Go.IntKind.i64 20)), (1, Go.Operand.const (Go.Value.int Go.IntKind.i64 1)), (2, Go.Operand.tmp 5)], 28, none⟩,
      ⟨some 1, Go.Op.alloc 28, 0, none⟩,
      ⟨none, Go.Op.store 28 (Go.Operand.tmp 1) (Go.Operand.tmp 6), 0, none⟩])
    (.seq (.region [⟨some 8, Go.Op.load 28 (Go.Operand.tmp 1), 28, none⟩,
      ⟨some 9, Go.Op.build 32 #[], 32, none⟩,
      ⟨some 10, Go.Op.call { callee := Go.Callee.value (Go.Operand.func 15), args := #[Go.Operand.tmp 8, Go.Operand.tmp 9], argTypes := #[28, 32] }, 29, none⟩,
      ⟨some 7, Go.Op.move (Go.Operand.tmp 10), 29, none⟩,
      ⟨some 11, Go.Op.extract (Go.Operand.tmp 7) 0, 9, none⟩,
      ⟨some 12, Go.Op.extract (Go.Operand.tmp 7) 1, 9, none⟩,
      ⟨some 2, Go.Op.assign (Go.Operand.tmp 11), 9, none⟩,
      ⟨some 3, Go.Op.assign (Go.Operand.tmp 12), 9, none⟩])
    (.seq (.region [⟨some 13, Go.Op.move (Go.Operand.tmp 2), 9, none⟩,
      ⟨some 14, Go.Op.binOp Go.BinOp.eql 9 (Go.Operand.tmp 13) (Go.Operand.const (Go.Value.string { data := #[109, 101, 64, 104, 111, 115, 116, 58, 126, 36, 32] })) 9, 4, none⟩,
      ⟨some 15, Go.Op.move (Go.Operand.tmp 14), 4, none⟩,
      ⟨some 16, Go.Op.move (Go.Operand.tmp 3), 9, (some (15, true))⟩,
      ⟨some 17, Go.Op.binOp Go.BinOp.eql 9 (Go.Operand.tmp 16) (Go.Operand.const (Go.Value.string { data := #[108, 115, 32, 45, 108] })) 9, 4, (some (15, true))⟩,
      ⟨some 18, Go.Op.pick (Go.Operand.tmp 15) (Go.Operand.tmp 17) (Go.Operand.const (Go.Value.bool false)), 4, none⟩,
      ⟨some 19, Go.Op.move (Go.Operand.tmp 18), 4, none⟩,
      ⟨some 20, Go.Op.call { callee := Go.Callee.value (Go.Operand.func 23), args := #[Go.Operand.const (Go.Value.string { data := #[36] })], argTypes := #[9] }, 22, (some (19, true))⟩,
      ⟨some 21, Go.Op.call { callee := Go.Callee.value (Go.Operand.func 13), args := #[Go.Operand.tmp 20], argTypes := #[22] }, 3, (some (19, true))⟩,
      ⟨some 22, Go.Op.binOp Go.BinOp.eql 3 (Go.Operand.tmp 21) (Go.Operand.const (Go.Value.int Go.IntKind.i64 1)) 3, 4, (some (19, true))⟩,
      ⟨some 23, Go.Op.pick (Go.Operand.tmp 19) (Go.Operand.tmp 22) (Go.Operand.const (Go.Value.bool false)), 4, none⟩,
      ⟨some 24, Go.Op.move (Go.Operand.tmp 23), 4, none⟩,
      ⟨some 25, Go.Op.call { callee := Go.Callee.value (Go.Operand.func 23), args := #[Go.Operand.const (Go.Value.string { data := #[97] })], argTypes := #[9] }, 22, (some (24, true))⟩,
      ⟨some 26, Go.Op.call { callee := Go.Callee.value (Go.Operand.func 13), args := #[Go.Operand.tmp 25], argTypes := #[22] }, 3, (some (24, true))⟩,
      ⟨some 27, Go.Op.binOp Go.BinOp.eql 3 (Go.Operand.tmp 26) (Go.Operand.const (Go.Value.int Go.IntKind.i64 0)) 3, 4, (some (24, true))⟩,
      ⟨some 28, Go.Op.pick (Go.Operand.tmp 24) (Go.Operand.tmp 27) (Go.Operand.const (Go.Value.bool false)), 4, none⟩,
      ⟨some 0, Go.Op.assign (Go.Operand.tmp 28), 4, none⟩])
    .ret)))) :=
  ⟨foll, Try.f12, Try.func12, by kernel_rfl, by kernel_rfl, by kernel_rfl, by rw [Try.ntmps12]; decide⟩

/-- narrator.prompts.Ends -/
theorem fn13 : FnIs Try.prog 13 1 [Go.ResultVar.tmp 2] (.seq (.region [⟨some 1, Go.Op.box 22 (Go.Operand.tmp 0), 0, none⟩,
      ⟨some 2, Go.Op.assign (Go.Operand.const (Go.Value.int Go.IntKind.i64 0)), 3, none⟩])
    (.seq (.region [⟨some 4, Go.Op.load 22 (Go.Operand.tmp 1), 22, none⟩,
      ⟨some 5, Go.Op.makeFunc (Go.Fn.func 25) #[] #[Go.Operand.tmp 1], 46, none⟩,
      ⟨some 6, Go.Op.call { callee := Go.Callee.value (Go.Operand.func 24), args := #[Go.Operand.tmp 4, Go.Operand.tmp 5], argTypes := #[22, 46] }, 3, none⟩,
      ⟨some 3, Go.Op.assign (Go.Operand.tmp 6), 3, none⟩])
    (.seq (.region [⟨some 7, Go.Op.load 22 (Go.Operand.tmp 1), 22, none⟩,
      ⟨some 8, Go.Op.call { callee := Go.Callee.builtin Go.Builtin.len, args := #[Go.Operand.tmp 7], argTypes := #[22] }, 3, none⟩,
      ⟨some 9, Go.Op.move (Go.Operand.tmp 3), 3, none⟩,
      ⟨some 10, Go.Op.binOp Go.BinOp.add 3 (Go.Operand.tmp 9) (Go.Operand.const (Go.Value.int Go.IntKind.i64 2)) 3, 3, none⟩,
      ⟨some 11, Go.Op.call { callee := Go.Callee.builtin Go.Builtin.min, args := #[Go.Operand.tmp 8, Go.Operand.tmp 10], argTypes := #[3, 3] }, 3, none⟩,
      ⟨some 12, Go.Op.move (Go.Operand.tmp 3), 3, none⟩,
      ⟨some 13, Go.Op.binOp Go.BinOp.add 3 (Go.Operand.tmp 12) (Go.Operand.const (Go.Value.int Go.IntKind.i64 1)) 3, 3, none⟩,
      ⟨some 14, Go.Op.call { callee := Go.Callee.builtin Go.Builtin.min, args := #[Go.Operand.const (Go.Value.int Go.IntKind.i64 1), Go.Operand.tmp 13], argTypes := #[3, 3] }, 3, none⟩,
      ⟨some 15, Go.Op.binOp Go.BinOp.mul 3 (Go.Operand.tmp 11) (Go.Operand.tmp 14) 3, 3, none⟩,
      ⟨some 2, Go.Op.assign (Go.Operand.tmp 15), 3, none⟩])
    .ret))) :=
  ⟨foll, Try.f13, Try.func13, by kernel_rfl, by kernel_rfl, by kernel_rfl, by rw [Try.ntmps13]; decide⟩

/-- narrator.narratorref26.Ends -/
theorem fn14 : FnIs Try.prog 14 1 [Go.ResultVar.tmp 2] (.seq (.region [⟨some 2, Go.Op.assign (Go.Operand.const (Go.Value.int Go.IntKind.i64 0)), 3, none⟩])
    (.seq (.seq (.region [⟨some 3, Go.Op.assign (Go.Operand.const (Go.Value.int Go.IntKind.i64 0)), 3, none⟩])
    (.block 0
      (.loop
        (.seq (.seq (.region [⟨some 4, Go.Op.move (Go.Operand.tmp 3), 3, none⟩,
          ⟨some 5, Go.Op.move (Go.Operand.tmp 0), 22, none⟩,
          ⟨some 6, Go.Op.call { callee := Go.Callee.builtin Go.Builtin.len, args := #[Go.Operand.tmp 5], argTypes := #[22] }, 3, none⟩,
          ⟨some 7, Go.Op.binOp Go.BinOp.lss 3 (Go.Operand.tmp 4) (Go.Operand.tmp 6) 3, 4, none⟩])
        (.cond (Go.Operand.tmp 7)
          .skip
          (.exit 0)))
        (.seq (.block 1
          (.seq (.seq (.region [⟨some 10, Go.Op.move (Go.Operand.tmp 0), 22, none⟩,
            ⟨some 11, Go.Op.move (Go.Operand.tmp 3), 3, none⟩,
            ⟨some 12, Go.Op.indexAddr 22 (Go.Operand.tmp 10) (Go.Operand.tmp 11), 0, none⟩,
            ⟨some 13, Go.Op.load 35 (Go.Operand.tmp 12), 35, none⟩,
            ⟨some 14, Go.Op.call { callee := Go.Callee.value (Go.Operand.func 27), args := #[Go.Operand.tmp 13], argTypes := #[35] }, 4, none⟩,
            ⟨some 15, Go.Op.unOp Go.UnOp.not 4 (Go.Operand.tmp 14), 4, none⟩])
          (.cond (Go.Operand.tmp 15)
            (.exit 1)
            .skip))
          (.seq (.seq (.region [⟨some 16, Go.Op.move (Go.Operand.tmp 3), 3, none⟩,
            ⟨some 17, Go.Op.move (Go.Operand.tmp 0), 22, none⟩,
            ⟨some 18, Go.Op.call { callee := Go.Callee.builtin Go.Builtin.len, args := #[Go.Operand.tmp 17], argTypes := #[22] }, 3, none⟩,
            ⟨some 19, Go.Op.binOp Go.BinOp.sub 3 (Go.Operand.tmp 18) (Go.Operand.const (Go.Value.int Go.IntKind.i64 1)) 3, 3, none⟩,
            ⟨some 20, Go.Op.binOp Go.BinOp.eql 3 (Go.Operand.tmp 16) (Go.Operand.tmp 19) 3, 4, none⟩])
          (.cond (Go.Operand.tmp 20)
            (.seq (.region [⟨some 21, Go.Op.move (Go.Operand.tmp 3), 3, none⟩,
              ⟨some 22, Go.Op.binOp Go.BinOp.add 3 (Go.Operand.tmp 21) (Go.Operand.const (Go.Value.int Go.IntKind.i64 1)) 3, 3, none⟩,
              ⟨some 2, Go.Op.assign (Go.Operand.tmp 22), 3, none⟩])
            .ret)
            .skip))
          (.seq (.region [⟨some 23, Go.Op.move (Go.Operand.tmp 0), 22, none⟩,
            ⟨some 24, Go.Op.move (Go.Operand.tmp 3), 3, none⟩,
            ⟨some 25, Go.Op.binOp Go.BinOp.add 3 (Go.Operand.tmp 24) (Go.Operand.const (Go.Value.int Go.IntKind.i64 1)) 3, 3, none⟩,
            ⟨some 26, Go.Op.indexAddr 22 (Go.Operand.tmp 23) (Go.Operand.tmp 25), 0, none⟩,
            ⟨some 27, Go.Op.fieldAddr 35 (Go.Operand.tmp 26) 0, 0, none⟩,
            ⟨some 28, Go.Op.load 9 (Go.Operand.tmp 27), 9, none⟩,
            ⟨some 29, Go.Op.binOp Go.BinOp.eql 9 (Go.Operand.tmp 28) (Go.Operand.const (Go.Value.string { data := #[32] })) 9, 4, none⟩])
          (.cond (Go.Operand.tmp 29)
            (.seq (.region [⟨some 30, Go.Op.move (Go.Operand.tmp 3), 3, none⟩,
              ⟨some 31, Go.Op.binOp Go.BinOp.add 3 (Go.Operand.tmp 30) (Go.Operand.const (Go.Value.int Go.IntKind.i64 2)) 3, 3, none⟩,
              ⟨some 2, Go.Op.assign (Go.Operand.tmp 31), 3, none⟩])
            .ret)
            .skip)))))
        (.region [⟨some 8, Go.Op.move (Go.Operand.tmp 3), 3, none⟩,
          ⟨some 9, Go.Op.binOp Go.BinOp.add 3 (Go.Operand.tmp 8) (Go.Operand.const (Go.Value.int Go.IntKind.i64 1)) 3, 3, none⟩,
          ⟨some 3, Go.Op.assign (Go.Operand.tmp 9), 3, none⟩]))))))
    (.seq (.region [⟨some 2, Go.Op.assign (Go.Operand.const (Go.Value.int Go.IntKind.i64 0)), 3, none⟩])
    .ret))) :=
  ⟨foll, Try.f14, Try.func14, by kernel_rfl, by kernel_rfl, by kernel_rfl, by rw [Try.ntmps14]; decide⟩

/-- narrator.prompts.Split -/
theorem fn15 : FnIs Try.prog 15 2 [Go.ResultVar.tmp 4, Go.ResultVar.tmp 5] (.seq (.region [⟨some 2, Go.Op.box 28 (Go.Operand.tmp 0), 0, none⟩,
      ⟨some 3, Go.Op.box 32 (Go.Operand.tmp 1), 0, none⟩,
      ⟨some 4, Go.Op.assign (Go.Operand.const (Go.Value.string { data := #[] })), 9, none⟩,
      ⟨some 5, Go.Op.assign (Go.Operand.const (Go.Value.string { data := #[] })), 9, none⟩])
    (.seq (.seq (.region [⟨some 8, Go.Op.fieldAddr 32 (Go.Operand.tmp 3) 3, 0, none⟩,
      ⟨some 9, Go.Op.load 3 (Go.Operand.tmp 8), 3, none⟩,
      ⟨some 10, Go.Op.binOp Go.BinOp.lss 3 (Go.Operand.tmp 9) (Go.Operand.const (Go.Value.int Go.IntKind.i64 0)) 3, 4, none⟩,
      ⟨some 11, Go.Op.move (Go.Operand.tmp 10), 4, none⟩,
      ⟨some 12, Go.Op.fieldAddr 32 (Go.Operand.tmp 3) 3, 0, (some (11, false))⟩,
      ⟨some 13, Go.Op.load 3 (Go.Operand.tmp 12), 3, (some (11, false))⟩,
      ⟨some 14, Go.Op.fieldAddr 28 (Go.Operand.tmp 2) 2, 0, (some (11, false))⟩,
      ⟨some 15, Go.Op.load 26 (Go.Operand.tmp 14), 26, (some (11, false))⟩,
      ⟨some 16, Go.Op.call { callee := Go.Callee.builtin Go.Builtin.len, args := #[Go.Operand.tmp 15], argTypes := #[26] }, 3, (some (11, false))⟩,
      ⟨some 17, Go.Op.binOp Go.BinOp.geq 3 (Go.Operand.tmp 13) (Go.Operand.tmp 16) 3, 4, (some (11, false))⟩,
      ⟨some 18, Go.Op.pick (Go.Operand.tmp 11) (Go.Operand.const (Go.Value.bool true)) (Go.Operand.tmp 17), 4, none⟩])
    (.cond (Go.Operand.tmp 18)
      (.seq (.region [⟨some 4, Go.Op.assign (Go.Operand.const (Go.Value.string { data := #[] })), 9, none⟩,
        ⟨some 5, Go.Op.assign (Go.Operand.const (Go.Value.string { data := #[] })), 9, none⟩])
      .ret)
      .skip))
    (.seq (.region [⟨some 19, Go.Op.fieldAddr 28 (Go.Operand.tmp 2) 2, 0, none⟩,
      ⟨some 20, Go.Op.load 26 (Go.Operand.tmp 19), 26, none⟩,
      ⟨some 21, Go.Op.fieldAddr 32 (Go.Operand.tmp 3) 3, 0, none⟩,
      ⟨some 22, Go.Op.load 3 (Go.Operand.tmp 21), 3, none⟩,
      ⟨some 23, Go.Op.indexAddr 26 (Go.Operand.tmp 20) (Go.Operand.tmp 22), 0, none⟩,
      ⟨some 24, Go.Op.load 22 (Go.Operand.tmp 23), 22, none⟩,
      ⟨some 25, Go.Op.call { callee := Go.Callee.value (Go.Operand.func 28), args := #[Go.Operand.tmp 24], argTypes := #[22] }, 22, none⟩,
      ⟨some 6, Go.Op.assign (Go.Operand.tmp 25), 22, none⟩])
    (.seq (.region [⟨some 26, Go.Op.move (Go.Operand.tmp 6), 22, none⟩,
      ⟨some 27, Go.Op.call { callee := Go.Callee.value (Go.Operand.func 13), args := #[Go.Operand.tmp 26], argTypes := #[22] }, 3, none⟩,
      ⟨some 7, Go.Op.assign (Go.Operand.tmp 27), 3, none⟩])
    (.seq (.draw [⟨⟨some 28, Go.Op.move (Go.Operand.tmp 6), 22, none⟩, false, false, false⟩,
      ⟨⟨some 29, Go.Op.move (Go.Operand.tmp 7), 3, none⟩, false, false, false⟩,
      ⟨⟨some 30, Go.Op.slice 22 (Go.Operand.tmp 28) none (some (Go.Operand.tmp 29)) none, 22, none⟩, false, false, false⟩,
      ⟨⟨some 31, Go.Op.call { callee := Go.Callee.value (Go.Operand.func 29), args := #[Go.Operand.tmp 30], argTypes := #[22] }, 9, none⟩, false, false, false⟩,
      ⟨⟨some 32, Go.Op.move (Go.Operand.tmp 6), 22, none⟩, false, false, false⟩,
      ⟨⟨some 33, Go.Op.move (Go.Operand.tmp 7), 3, none⟩, false, false, false⟩,
      ⟨⟨some 34, Go.Op.slice 22 (Go.Operand.tmp 32) (some (Go.Operand.tmp 33)) none none, 22, none⟩, false, false, false⟩,
      ⟨⟨some 35, Go.Op.call { callee := Go.Callee.value (Go.Operand.func 29), args := #[Go.Operand.tmp 34], argTypes := #[22] }, 9, none⟩, false, false, false⟩,
      ⟨⟨some 4, Go.Op.assign (Go.Operand.tmp 31), 9, none⟩, false, false, false⟩,
      ⟨⟨some 5, Go.Op.assign (Go.Operand.tmp 35), 9, none⟩, false, false, false⟩])
    .ret))))) :=
  ⟨foll, Try.f15, Try.func15, by kernel_rfl, by kernel_rfl, by kernel_rfl, by rw [Try.ntmps15]; decide⟩

/-- narrator.narratorref15.Text -/
theorem fn16 : FnIs Try.prog 16 1 [Go.ResultVar.tmp 2] (.seq (.region [⟨some 2, Go.Op.assign (Go.Operand.const (Go.Value.string { data := #[] })), 9, none⟩])
    (.seq (.region [⟨some 3, Go.Op.assign (Go.Operand.const (Go.Value.string { data := #[] })), 9, none⟩])
    (.seq (.seq (.region [⟨some 4, Go.Op.assign (Go.Operand.const (Go.Value.int Go.IntKind.i64 0)), 3, none⟩])
    (.block 0
      (.loop
        (.seq (.seq (.region [⟨some 5, Go.Op.move (Go.Operand.tmp 4), 3, none⟩,
          ⟨some 6, Go.Op.move (Go.Operand.tmp 0), 22, none⟩,
          ⟨some 7, Go.Op.call { callee := Go.Callee.builtin Go.Builtin.len, args := #[Go.Operand.tmp 6], argTypes := #[22] }, 3, none⟩,
          ⟨some 8, Go.Op.binOp Go.BinOp.lss 3 (Go.Operand.tmp 5) (Go.Operand.tmp 7) 3, 4, none⟩])
        (.cond (Go.Operand.tmp 8)
          .skip
          (.exit 0)))
        (.seq (.block 1
          (.region [⟨some 11, Go.Op.move (Go.Operand.tmp 3), 9, none⟩,
            ⟨some 12, Go.Op.move (Go.Operand.tmp 0), 22, none⟩,
            ⟨some 13, Go.Op.move (Go.Operand.tmp 4), 3, none⟩,
            ⟨some 14, Go.Op.indexAddr 22 (Go.Operand.tmp 12) (Go.Operand.tmp 13), 0, none⟩,
            ⟨some 15, Go.Op.fieldAddr 35 (Go.Operand.tmp 14) 0, 0, none⟩,
            ⟨some 16, Go.Op.load 9 (Go.Operand.tmp 15), 9, none⟩,
            ⟨some 17, Go.Op.binOp Go.BinOp.add 9 (Go.Operand.tmp 11) (Go.Operand.tmp 16) 9, 9, none⟩,
            ⟨some 3, Go.Op.assign (Go.Operand.tmp 17), 9, none⟩]))
        (.region [⟨some 9, Go.Op.move (Go.Operand.tmp 4), 3, none⟩,
          ⟨some 10, Go.Op.binOp Go.BinOp.add 3 (Go.Operand.tmp 9) (Go.Operand.const (Go.Value.int Go.IntKind.i64 1)) 3, 3, none⟩,
          ⟨some 4, Go.Op.assign (Go.Operand.tmp 10), 3, none⟩]))))))
    (.seq (.region [⟨some 18, Go.Op.move (Go.Operand.tmp 3), 9, none⟩,
      ⟨some 2, Go.Op.assign (Go.Operand.tmp 18), 9, none⟩])
    .ret)))) :=
  ⟨foll, Try.f16, Try.func16, by kernel_rfl, by kernel_rfl, by kernel_rfl, by rw [Try.ntmps16]; decide⟩

/-- narrator.narratorlaw26.sign -/
theorem fn17 : FnIs Try.prog 17 1 [Go.ResultVar.tmp 2] (.seq (.region [⟨some 1, Go.Op.box 35 (Go.Operand.tmp 0), 0, none⟩,
      ⟨some 2, Go.Op.assign (Go.Operand.const (Go.Value.bool false)), 4, none⟩])
    (.seq (.seq (.region [⟨some 3, Go.Op.fieldAddr 35 (Go.Operand.tmp 1) 0, 0, none⟩,
      ⟨some 4, Go.Op.load 9 (Go.Operand.tmp 3), 9, none⟩])
    (.block 0
      (.seq (.seq (.region [⟨some 6, Go.Op.binOp Go.BinOp.eql 9 (Go.Operand.tmp 4) (Go.Operand.const (Go.Value.string { data := #[36] })) 9, 4, none⟩,
        ⟨some 5, Go.Op.assign (Go.Operand.tmp 6), 4, none⟩])
      (.cond (Go.Operand.tmp 5)
        .skip
        (.seq (.region [⟨some 7, Go.Op.binOp Go.BinOp.eql 9 (Go.Operand.tmp 4) (Go.Operand.const (Go.Value.string { data := #[35] })) 9, 4, none⟩,
          ⟨some 5, Go.Op.assign (Go.Operand.tmp 7), 4, none⟩])
        (.cond (Go.Operand.tmp 5)
          .skip
          (.seq (.region [⟨some 8, Go.Op.binOp Go.BinOp.eql 9 (Go.Operand.tmp 4) (Go.Operand.const (Go.Value.string { data := #[62] })) 9, 4, none⟩,
            ⟨some 5, Go.Op.assign (Go.Operand.tmp 8), 4, none⟩])
          (.cond (Go.Operand.tmp 5)
            .skip
            (.seq (.region [⟨some 9, Go.Op.binOp Go.BinOp.eql 9 (Go.Operand.tmp 4) (Go.Operand.const (Go.Value.string { data := #[58] })) 9, 4, none⟩,
              ⟨some 5, Go.Op.assign (Go.Operand.tmp 9), 4, none⟩])
            (.cond (Go.Operand.tmp 5)
              .skip
              (.region [⟨some 10, Go.Op.binOp Go.BinOp.eql 9 (Go.Operand.tmp 4) (Go.Operand.const (Go.Value.string { data := #[63] })) 9, 4, none⟩,
                ⟨some 5, Go.Op.assign (Go.Operand.tmp 10), 4, none⟩])))))))))
      (.cond (Go.Operand.tmp 5)
        (.seq (.region [⟨some 2, Go.Op.assign (Go.Operand.const (Go.Value.bool true)), 4, none⟩])
        .ret)
        .skip))))
    (.seq (.region [⟨some 2, Go.Op.assign (Go.Operand.const (Go.Value.bool false)), 4, none⟩])
    .ret))) :=
  ⟨foll, Try.f17, Try.func17, by kernel_rfl, by kernel_rfl, by kernel_rfl, by rw [Try.ntmps17]; decide⟩

/-- narrator.narratorref15.Great -/
theorem fn18 : FnIs Try.prog 18 1 [Go.ResultVar.tmp 2] (.seq (.region [⟨some 1, Go.Op.box 28 (Go.Operand.tmp 0), 0, none⟩,
      ⟨some 2, Go.Op.assign (Go.Operand.const (Go.Value.bool false)), 4, none⟩])
    (.seq (.seq (.region [⟨some 4, Go.Op.fieldAddr 28 (Go.Operand.tmp 1) 2, 0, none⟩,
      ⟨some 5, Go.Op.load 26 (Go.Operand.tmp 4), 26, none⟩,
      ⟨some 6, Go.Op.call { callee := Go.Callee.builtin Go.Builtin.len, args := #[Go.Operand.tmp 5], argTypes := #[26] }, 3, none⟩,
      ⟨some 7, Go.Op.binOp Go.BinOp.gtr 3 (Go.Operand.tmp 6) (Go.Operand.const (Go.Value.int Go.IntKind.i64 12)) 3, 4, none⟩,
      ⟨some 8, Go.Op.move (Go.Operand.tmp 7), 4, none⟩,
      ⟨some 9, Go.Op.fieldAddr 28 (Go.Operand.tmp 1) 0, 0, (some (8, false))⟩,
      ⟨some 10, Go.Op.load 3 (Go.Operand.tmp 9), 3, (some (8, false))⟩,
      ⟨some 11, Go.Op.binOp Go.BinOp.gtr 3 (Go.Operand.tmp 10) (Go.Operand.const (Go.Value.int Go.IntKind.i64 40)) 3, 4, (some (8, false))⟩,
      ⟨some 12, Go.Op.move (Go.Operand.tmp 11), 4, (some (8, false))⟩,
      ⟨some 13, Go.Op.fieldAddr 28 (Go.Operand.tmp 1) 2, 0, (some (12, true))⟩,
      ⟨some 14, Go.Op.load 26 (Go.Operand.tmp 13), 26, (some (12, true))⟩,
      ⟨some 15, Go.Op.call { callee := Go.Callee.builtin Go.Builtin.len, args := #[Go.Operand.tmp 14], argTypes := #[26] }, 3, (some (12, true))⟩,
      ⟨some 16, Go.Op.binOp Go.BinOp.gtr 3 (Go.Operand.tmp 15) (Go.Operand.const (Go.Value.int Go.IntKind.i64 2)) 3, 4, (some (12, true))⟩,
      ⟨some 17, Go.Op.pick (Go.Operand.tmp 12) (Go.Operand.tmp 16) (Go.Operand.const (Go.Value.bool false)), 4, (some (8, false))⟩,
      ⟨some 18, Go.Op.pick (Go.Operand.tmp 8) (Go.Operand.const (Go.Value.bool true)) (Go.Operand.tmp 17), 4, none⟩])
    (.cond (Go.Operand.tmp 18)
      (.seq (.region [⟨some 2, Go.Op.assign (Go.Operand.const (Go.Value.bool true)), 4, none⟩])
      .ret)
      .skip))
    (.seq (.seq (.region [⟨some 3, Go.Op.assign (Go.Operand.const (Go.Value.int Go.IntKind.i64 0)), 3, none⟩])
    (.block 0
      (.loop
        (.seq (.seq (.region [⟨some 19, Go.Op.move (Go.Operand.tmp 3), 3, none⟩,
          ⟨some 20, Go.Op.fieldAddr 28 (Go.Operand.tmp 1) 2, 0, none⟩,
          ⟨some 21, Go.Op.load 26 (Go.Operand.tmp 20), 26, none⟩,
          ⟨some 22, Go.Op.call { callee := Go.Callee.builtin Go.Builtin.len, args := #[Go.Operand.tmp 21], argTypes := #[26] }, 3, none⟩,
          ⟨some 23, Go.Op.binOp Go.BinOp.lss 3 (Go.Operand.tmp 19) (Go.Operand.tmp 22) 3, 4, none⟩])
        (.cond (Go.Operand.tmp 23)
          .skip
          (.exit 0)))
        (.seq (.block 1
          (.seq (.region [⟨some 26, Go.Op.fieldAddr 28 (Go.Operand.tmp 1) 2, 0, none⟩,
            ⟨some 27, Go.Op.load 26 (Go.Operand.tmp 26), 26, none⟩,
            ⟨some 28, Go.Op.move (Go.Operand.tmp 3), 3, none⟩,
            ⟨some 29, Go.Op.indexAddr 26 (Go.Operand.tmp 27) (Go.Operand.tmp 28), 0, none⟩,
            ⟨some 30, Go.Op.load 22 (Go.Operand.tmp 29), 22, none⟩,
            ⟨some 31, Go.Op.call { callee := Go.Callee.value (Go.Operand.func 11), args := #[Go.Operand.tmp 30], argTypes := #[22] }, 4, none⟩])
          (.cond (Go.Operand.tmp 31)
            (.seq (.region [⟨some 2, Go.Op.assign (Go.Operand.const (Go.Value.bool true)), 4, none⟩])
            .ret)
            .skip)))
        (.region [⟨some 24, Go.Op.move (Go.Operand.tmp 3), 3, none⟩,
          ⟨some 25, Go.Op.binOp Go.BinOp.add 3 (Go.Operand.tmp 24) (Go.Operand.const (Go.Value.int Go.IntKind.i64 1)) 3, 3, none⟩,
          ⟨some 3, Go.Op.assign (Go.Operand.tmp 25), 3, none⟩]))))))
    (.seq (.region [⟨some 2, Go.Op.assign (Go.Operand.const (Go.Value.bool false)), 4, none⟩])
    .ret)))) :=
  ⟨foll, Try.f18, Try.func18, by kernel_rfl, by kernel_rfl, by kernel_rfl, by rw [Try.ntmps18]; decide⟩

/-- narrator.prompts.Find -/
theorem fn19 : FnIs Try.prog 19 1 [Go.ResultVar.cell 2 32, Go.ResultVar.tmp 3] (.seq (.region [⟨some 1, Go.Op.box 28 (Go.Operand.tmp 0), 0, none⟩,
      ⟨some 2, Go.Op.alloc 32, 0, none⟩,
      ⟨some 3, Go.Op.assign (Go.Operand.const (Go.Value.bool false)), 4, none⟩])
    (.seq (.region [⟨some 8, Go.Op.build 32 #[], 32, none⟩,
      ⟨some 4, Go.Op.alloc 32, 0, none⟩,
      ⟨none, Go.Op.store 32 (Go.Operand.tmp 4) (Go.Operand.tmp 8), 0, none⟩])
    (.seq (.region [⟨some 9, Go.Op.load 32 (Go.Operand.tmp 4), 32, none⟩,
      ⟨some 5, Go.Op.alloc 32, 0, none⟩,
      ⟨none, Go.Op.store 32 (Go.Operand.tmp 5) (Go.Operand.tmp 9), 0, none⟩])
    (.seq (.seq (.region [⟨some 10, Go.Op.fieldAddr 28 (Go.Operand.tmp 1) 3, 0, none⟩,
      ⟨some 11, Go.Op.load 3 (Go.Operand.tmp 10), 3, none⟩,
      ⟨some 12, Go.Op.binOp Go.BinOp.geq 3 (Go.Operand.tmp 11) (Go.Operand.const (Go.Value.int Go.IntKind.i64 0)) 3, 4, none⟩,
      ⟨some 13, Go.Op.move (Go.Operand.tmp 12), 4, none⟩,
      ⟨some 14, Go.Op.fieldAddr 28 (Go.Operand.tmp 1) 3, 0, (some (13, true))⟩,
      ⟨some 15, Go.Op.load 3 (Go.Operand.tmp 14), 3, (some (13, true))⟩,
      ⟨some 16, Go.Op.fieldAddr 28 (Go.Operand.tmp 1) 2, 0, (some (13, true))⟩,
      ⟨some 17, Go.Op.load 26 (Go.Operand.tmp 16), 26, (some (13, true))⟩,
      ⟨some 18, Go.Op.call { callee := Go.Callee.builtin Go.Builtin.len, args := #[Go.Operand.tmp 17], argTypes := #[26] }, 3, (some (13, true))⟩,
      ⟨some 19, Go.Op.binOp Go.BinOp.lss 3 (Go.Operand.tmp 15) (Go.Operand.tmp 18) 3, 4, (some (13, true))⟩,
      ⟨some 20, Go.Op.pick (Go.Operand.tmp 13) (Go.Operand.tmp 19) (Go.Operand.const (Go.Value.bool false)), 4, none⟩])
    (.cond (Go.Operand.tmp 20)
      (.seq (.region [⟨some 21, Go.Op.fieldAddr 28 (Go.Operand.tmp 1) 2, 0, none⟩,
        ⟨some 22, Go.Op.load 26 (Go.Operand.tmp 21), 26, none⟩,
        ⟨some 23, Go.Op.fieldAddr 28 (Go.Operand.tmp 1) 3, 0, none⟩,
        ⟨some 24, Go.Op.load 3 (Go.Operand.tmp 23), 3, none⟩,
        ⟨some 25, Go.Op.indexAddr 26 (Go.Operand.tmp 22) (Go.Operand.tmp 24), 0, none⟩,
        ⟨some 26, Go.Op.load 22 (Go.Operand.tmp 25), 22, none⟩,
        ⟨some 6, Go.Op.assign (Go.Operand.tmp 26), 22, none⟩])
      (.seq (.region [⟨some 27, Go.Op.move (Go.Operand.tmp 6), 22, none⟩,
        ⟨some 28, Go.Op.call { callee := Go.Callee.value (Go.Operand.func 13), args := #[Go.Operand.tmp 27], argTypes := #[22] }, 3, none⟩,
        ⟨some 7, Go.Op.assign (Go.Operand.tmp 28), 3, none⟩])
      (.seq (.region [⟨some 29, Go.Op.move (Go.Operand.tmp 7), 3, none⟩,
        ⟨some 30, Go.Op.binOp Go.BinOp.gtr 3 (Go.Operand.tmp 29) (Go.Operand.const (Go.Value.int Go.IntKind.i64 0)) 3, 4, none⟩,
        ⟨some 31, Go.Op.move (Go.Operand.tmp 30), 4, none⟩,
        ⟨some 32, Go.Op.move (Go.Operand.tmp 6), 22, (some (31, true))⟩,
        ⟨some 33, Go.Op.fieldAddr 28 (Go.Operand.tmp 1) 4, 0, (some (31, true))⟩,
        ⟨some 34, Go.Op.load 3 (Go.Operand.tmp 33), 3, (some (31, true))⟩,
        ⟨some 35, Go.Op.call { callee := Go.Callee.value (Go.Operand.func 30), args := #[Go.Operand.tmp 32, Go.Operand.tmp 34], argTypes := #[22, 3] }, 3, (some (31, true))⟩,
        ⟨some 36, Go.Op.move (Go.Operand.tmp 7), 3, (some (31, true))⟩,
        ⟨some 37, Go.Op.binOp Go.BinOp.geq 3 (Go.Operand.tmp 35) (Go.Operand.tmp 36) 3, 4, (some (31, true))⟩,
        ⟨some 38, Go.Op.pick (Go.Operand.tmp 31) (Go.Operand.tmp 37) (Go.Operand.const (Go.Value.bool false)), 4, none⟩])
      (.cond (Go.Operand.tmp 38)
        (.seq (.region [⟨some 39, Go.Op.fieldAddr 28 (Go.Operand.tmp 1) 3, 0, none⟩,
          ⟨some 40, Go.Op.load 3 (Go.Operand.tmp 39), 3, none⟩,
          ⟨some 41, Go.Op.fieldAddr 28 (Go.Operand.tmp 1) 3, 0, none⟩,
          ⟨some 42, Go.Op.load 3 (Go.Operand.tmp 41), 3, none⟩,
          ⟨some 43, Go.Op.binOp Go.BinOp.add 3 (Go.Operand.tmp 42) (Go.Operand.const (Go.Value.int Go.IntKind.i64 1)) 3, 3, none⟩,
          ⟨some 44, Go.Op.fieldAddr 28 (Go.Operand.tmp 1) 0, 0, none⟩,
          ⟨some 45, Go.Op.load 3 (Go.Operand.tmp 44), 3, none⟩,
          ⟨some 46, Go.Op.build 32 #[(0, Go.Operand.const (Go.Value.int Go.IntKind.i64 7)), (2, Go.Operand.const (Go.Value.int Go.IntKind.i64 (-1))), (3, Go.Operand.tmp 40), (5, Go.Operand.tmp 43), (6, Go.Operand.tmp 45)], 32, none⟩,
          ⟨none, Go.Op.store 32 (Go.Operand.tmp 5) (Go.Operand.tmp 46), 0, none⟩])
        (.region [⟨some 47, Go.Op.move (Go.Operand.tmp 6), 22, none⟩,
          ⟨some 48, Go.Op.move (Go.Operand.tmp 7), 3, none⟩,
          ⟨some 49, Go.Op.slice 22 (Go.Operand.tmp 47) none (some (Go.Operand.tmp 48)) none, 22, none⟩,
          ⟨some 50, Go.Op.call { callee := Go.Callee.value (Go.Operand.func 29), args := #[Go.Operand.tmp 49], argTypes := #[22] }, 9, none⟩,
          ⟨some 51, Go.Op.call { callee := Go.Callee.value (Go.Operand.func 31), args := #[Go.Operand.tmp 50, Go.Operand.const (Go.Value.string { data := #[32] })], argTypes := #[9, 9] }, 9, none⟩,
          ⟨some 52, Go.Op.fieldAddr 32 (Go.Operand.tmp 5) 7, 0, none⟩,
          ⟨none, Go.Op.store 9 (Go.Operand.tmp 52) (Go.Operand.tmp 51), 0, none⟩]))
        .skip))))
      .skip))
    (.seq (.draw [⟨⟨some 53, Go.Op.load 32 (Go.Operand.tmp 5), 32, none⟩, false, false, false⟩,
      ⟨⟨some 54, Go.Op.load 32 (Go.Operand.tmp 5), 32, none⟩, false, false, true⟩,
      ⟨⟨some 55, Go.Op.load 32 (Go.Operand.tmp 4), 32, none⟩, false, false, true⟩,
      ⟨⟨some 56, Go.Op.binOp Go.BinOp.neq 32 (Go.Operand.tmp 54) (Go.Operand.tmp 55) 32, 4, none⟩, false, false, true⟩,
      ⟨⟨none, Go.Op.store 32 (Go.Operand.tmp 2) (Go.Operand.tmp 53), 0, none⟩, true, false, false⟩,
      ⟨⟨some 3, Go.Op.assign (Go.Operand.tmp 56), 4, none⟩, false, false, false⟩])
    .ret))))) :=
  ⟨foll, Try.f19, Try.func19, by kernel_rfl, by kernel_rfl, by kernel_rfl, by rw [Try.ntmps19]; decide⟩

/-- narrator.narratorref26.Find -/
theorem fn20 : FnIs Try.prog 20 1 [Go.ResultVar.cell 2 32, Go.ResultVar.tmp 3] (.seq (.region [⟨some 1, Go.Op.box 28 (Go.Operand.tmp 0), 0, none⟩,
      ⟨some 2, Go.Op.alloc 32, 0, none⟩,
      ⟨some 3, Go.Op.assign (Go.Operand.const (Go.Value.bool false)), 4, none⟩])
    (.seq (.seq (.region [⟨some 6, Go.Op.fieldAddr 28 (Go.Operand.tmp 1) 3, 0, none⟩,
      ⟨some 7, Go.Op.load 3 (Go.Operand.tmp 6), 3, none⟩,
      ⟨some 8, Go.Op.binOp Go.BinOp.lss 3 (Go.Operand.tmp 7) (Go.Operand.const (Go.Value.int Go.IntKind.i64 0)) 3, 4, none⟩,
      ⟨some 9, Go.Op.move (Go.Operand.tmp 8), 4, none⟩,
      ⟨some 10, Go.Op.fieldAddr 28 (Go.Operand.tmp 1) 3, 0, (some (9, false))⟩,
      ⟨some 11, Go.Op.load 3 (Go.Operand.tmp 10), 3, (some (9, false))⟩,
      ⟨some 12, Go.Op.fieldAddr 28 (Go.Operand.tmp 1) 2, 0, (some (9, false))⟩,
      ⟨some 13, Go.Op.load 26 (Go.Operand.tmp 12), 26, (some (9, false))⟩,
      ⟨some 14, Go.Op.call { callee := Go.Callee.builtin Go.Builtin.len, args := #[Go.Operand.tmp 13], argTypes := #[26] }, 3, (some (9, false))⟩,
      ⟨some 15, Go.Op.binOp Go.BinOp.geq 3 (Go.Operand.tmp 11) (Go.Operand.tmp 14) 3, 4, (some (9, false))⟩,
      ⟨some 16, Go.Op.pick (Go.Operand.tmp 9) (Go.Operand.const (Go.Value.bool true)) (Go.Operand.tmp 15), 4, none⟩])
    (.cond (Go.Operand.tmp 16)
      (.seq (.region [⟨some 17, Go.Op.build 32 #[], 32, none⟩,
        ⟨none, Go.Op.store 32 (Go.Operand.tmp 2) (Go.Operand.tmp 17), 0, none⟩,
        ⟨some 3, Go.Op.assign (Go.Operand.const (Go.Value.bool false)), 4, none⟩])
      .ret)
      .skip))
    (.seq (.region [⟨some 18, Go.Op.fieldAddr 28 (Go.Operand.tmp 1) 2, 0, none⟩,
      ⟨some 19, Go.Op.load 26 (Go.Operand.tmp 18), 26, none⟩,
      ⟨some 20, Go.Op.fieldAddr 28 (Go.Operand.tmp 1) 3, 0, none⟩,
      ⟨some 21, Go.Op.load 3 (Go.Operand.tmp 20), 3, none⟩,
      ⟨some 22, Go.Op.indexAddr 26 (Go.Operand.tmp 19) (Go.Operand.tmp 21), 0, none⟩,
      ⟨some 23, Go.Op.load 22 (Go.Operand.tmp 22), 22, none⟩,
      ⟨some 4, Go.Op.assign (Go.Operand.tmp 23), 22, none⟩])
    (.seq (.region [⟨some 24, Go.Op.move (Go.Operand.tmp 4), 22, none⟩,
      ⟨some 25, Go.Op.call { callee := Go.Callee.value (Go.Operand.func 14), args := #[Go.Operand.tmp 24], argTypes := #[22] }, 3, none⟩,
      ⟨some 5, Go.Op.assign (Go.Operand.tmp 25), 3, none⟩])
    (.seq (.seq (.region [⟨some 26, Go.Op.move (Go.Operand.tmp 5), 3, none⟩,
      ⟨some 27, Go.Op.binOp Go.BinOp.eql 3 (Go.Operand.tmp 26) (Go.Operand.const (Go.Value.int Go.IntKind.i64 0)) 3, 4, none⟩,
      ⟨some 28, Go.Op.move (Go.Operand.tmp 27), 4, none⟩,
      ⟨some 29, Go.Op.move (Go.Operand.tmp 4), 22, (some (28, false))⟩,
      ⟨some 30, Go.Op.fieldAddr 28 (Go.Operand.tmp 1) 4, 0, (some (28, false))⟩,
      ⟨some 31, Go.Op.load 3 (Go.Operand.tmp 30), 3, (some (28, false))⟩,
      ⟨some 32, Go.Op.call { callee := Go.Callee.value (Go.Operand.func 22), args := #[Go.Operand.tmp 29, Go.Operand.tmp 31], argTypes := #[22, 3] }, 3, (some (28, false))⟩,
      ⟨some 33, Go.Op.move (Go.Operand.tmp 5), 3, (some (28, false))⟩,
      ⟨some 34, Go.Op.binOp Go.BinOp.lss 3 (Go.Operand.tmp 32) (Go.Operand.tmp 33) 3, 4, (some (28, false))⟩,
      ⟨some 35, Go.Op.pick (Go.Operand.tmp 28) (Go.Operand.const (Go.Value.bool true)) (Go.Operand.tmp 34), 4, none⟩])
    (.cond (Go.Operand.tmp 35)
      (.seq (.region [⟨some 36, Go.Op.build 32 #[], 32, none⟩,
        ⟨none, Go.Op.store 32 (Go.Operand.tmp 2) (Go.Operand.tmp 36), 0, none⟩,
        ⟨some 3, Go.Op.assign (Go.Operand.const (Go.Value.bool false)), 4, none⟩])
      .ret)
      .skip))
    (.seq (.draw [⟨⟨some 37, Go.Op.fieldAddr 28 (Go.Operand.tmp 1) 3, 0, none⟩, false, false, false⟩,
      ⟨⟨some 38, Go.Op.load 3 (Go.Operand.tmp 37), 3, none⟩, false, false, false⟩,
      ⟨⟨some 39, Go.Op.fieldAddr 28 (Go.Operand.tmp 1) 3, 0, none⟩, false, false, false⟩,
      ⟨⟨some 40, Go.Op.load 3 (Go.Operand.tmp 39), 3, none⟩, false, false, false⟩,
      ⟨⟨some 41, Go.Op.binOp Go.BinOp.add 3 (Go.Operand.tmp 40) (Go.Operand.const (Go.Value.int Go.IntKind.i64 1)) 3, 3, none⟩, false, false, false⟩,
      ⟨⟨some 42, Go.Op.fieldAddr 28 (Go.Operand.tmp 1) 0, 0, none⟩, false, false, false⟩,
      ⟨⟨some 43, Go.Op.load 3 (Go.Operand.tmp 42), 3, none⟩, false, false, false⟩,
      ⟨⟨some 44, Go.Op.move (Go.Operand.tmp 4), 22, none⟩, false, false, false⟩,
      ⟨⟨some 45, Go.Op.call { callee := Go.Callee.value (Go.Operand.func 32), args := #[Go.Operand.tmp 44], argTypes := #[22] }, 9, none⟩, false, false, false⟩,
      ⟨⟨some 46, Go.Op.build 32 #[(0, Go.Operand.const (Go.Value.int Go.IntKind.i64 7)), (2, Go.Operand.const (Go.Value.int Go.IntKind.i64 (-1))), (3, Go.Operand.tmp 38), (5, Go.Operand.tmp 41), (6, Go.Operand.tmp 43), (7, Go.Operand.tmp 45)], 32, none⟩, false, false, false⟩,
      ⟨⟨none, Go.Op.store 32 (Go.Operand.tmp 2) (Go.Operand.tmp 46), 0, none⟩, true, false, false⟩,
      ⟨⟨some 3, Go.Op.assign (Go.Operand.const (Go.Value.bool true)), 4, none⟩, false, false, false⟩])
    .ret)))))) :=
  ⟨foll, Try.f20, Try.func20, by kernel_rfl, by kernel_rfl, by kernel_rfl, by rw [Try.ntmps20]; decide⟩

/-- narrator.narratorref26.Split -/
theorem fn21 : FnIs Try.prog 21 2 [Go.ResultVar.tmp 4, Go.ResultVar.tmp 5] (.seq (.region [⟨some 2, Go.Op.box 28 (Go.Operand.tmp 0), 0, none⟩,
      ⟨some 3, Go.Op.box 32 (Go.Operand.tmp 1), 0, none⟩,
      ⟨some 4, Go.Op.assign (Go.Operand.const (Go.Value.string { data := #[] })), 9, none⟩,
      ⟨some 5, Go.Op.assign (Go.Operand.const (Go.Value.string { data := #[] })), 9, none⟩])
    (.seq (.seq (.region [⟨some 8, Go.Op.fieldAddr 32 (Go.Operand.tmp 3) 3, 0, none⟩,
      ⟨some 9, Go.Op.load 3 (Go.Operand.tmp 8), 3, none⟩,
      ⟨some 10, Go.Op.binOp Go.BinOp.lss 3 (Go.Operand.tmp 9) (Go.Operand.const (Go.Value.int Go.IntKind.i64 0)) 3, 4, none⟩,
      ⟨some 11, Go.Op.move (Go.Operand.tmp 10), 4, none⟩,
      ⟨some 12, Go.Op.fieldAddr 32 (Go.Operand.tmp 3) 3, 0, (some (11, false))⟩,
      ⟨some 13, Go.Op.load 3 (Go.Operand.tmp 12), 3, (some (11, false))⟩,
      ⟨some 14, Go.Op.fieldAddr 28 (Go.Operand.tmp 2) 2, 0, (some (11, false))⟩,
      ⟨some 15, Go.Op.load 26 (Go.Operand.tmp 14), 26, (some (11, false))⟩,
      ⟨some 16, Go.Op.call { callee := Go.Callee.builtin Go.Builtin.len, args := #[Go.Operand.tmp 15], argTypes := #[26] }, 3, (some (11, false))⟩,
      ⟨some 17, Go.Op.binOp Go.BinOp.geq 3 (Go.Operand.tmp 13) (Go.Operand.tmp 16) 3, 4, (some (11, false))⟩,
      ⟨some 18, Go.Op.pick (Go.Operand.tmp 11) (Go.Operand.const (Go.Value.bool true)) (Go.Operand.tmp 17), 4, none⟩])
    (.cond (Go.Operand.tmp 18)
      (.seq (.region [⟨some 4, Go.Op.assign (Go.Operand.const (Go.Value.string { data := #[] })), 9, none⟩,
        ⟨some 5, Go.Op.assign (Go.Operand.const (Go.Value.string { data := #[] })), 9, none⟩])
      .ret)
      .skip))
    (.seq (.region [⟨some 19, Go.Op.fieldAddr 28 (Go.Operand.tmp 2) 2, 0, none⟩,
      ⟨some 20, Go.Op.load 26 (Go.Operand.tmp 19), 26, none⟩,
      ⟨some 21, Go.Op.fieldAddr 32 (Go.Operand.tmp 3) 3, 0, none⟩,
      ⟨some 22, Go.Op.load 3 (Go.Operand.tmp 21), 3, none⟩,
      ⟨some 23, Go.Op.indexAddr 26 (Go.Operand.tmp 20) (Go.Operand.tmp 22), 0, none⟩,
      ⟨some 24, Go.Op.load 22 (Go.Operand.tmp 23), 22, none⟩,
      ⟨some 6, Go.Op.assign (Go.Operand.tmp 24), 22, none⟩])
    (.seq (.region [⟨some 25, Go.Op.move (Go.Operand.tmp 6), 22, none⟩,
      ⟨some 26, Go.Op.call { callee := Go.Callee.value (Go.Operand.func 14), args := #[Go.Operand.tmp 25], argTypes := #[22] }, 3, none⟩,
      ⟨some 7, Go.Op.assign (Go.Operand.tmp 26), 3, none⟩])
    (.seq (.draw [⟨⟨some 27, Go.Op.move (Go.Operand.tmp 6), 22, none⟩, false, false, false⟩,
      ⟨⟨some 28, Go.Op.move (Go.Operand.tmp 7), 3, none⟩, false, false, false⟩,
      ⟨⟨some 29, Go.Op.slice 22 (Go.Operand.tmp 27) none (some (Go.Operand.tmp 28)) none, 22, none⟩, false, false, false⟩,
      ⟨⟨some 30, Go.Op.call { callee := Go.Callee.value (Go.Operand.func 16), args := #[Go.Operand.tmp 29], argTypes := #[22] }, 9, none⟩, false, false, false⟩,
      ⟨⟨some 31, Go.Op.move (Go.Operand.tmp 6), 22, none⟩, false, false, false⟩,
      ⟨⟨some 32, Go.Op.move (Go.Operand.tmp 7), 3, none⟩, false, false, false⟩,
      ⟨⟨some 33, Go.Op.slice 22 (Go.Operand.tmp 31) (some (Go.Operand.tmp 32)) none none, 22, none⟩, false, false, false⟩,
      ⟨⟨some 34, Go.Op.call { callee := Go.Callee.value (Go.Operand.func 16), args := #[Go.Operand.tmp 33], argTypes := #[22] }, 9, none⟩, false, false, false⟩,
      ⟨⟨some 4, Go.Op.assign (Go.Operand.tmp 30), 9, none⟩, false, false, false⟩,
      ⟨⟨some 5, Go.Op.assign (Go.Operand.tmp 34), 9, none⟩, false, false, false⟩])
    .ret))))) :=
  ⟨foll, Try.f21, Try.func21, by kernel_rfl, by kernel_rfl, by kernel_rfl, by rw [Try.ntmps21]; decide⟩

/-- narrator.narratorref15.Index -/
theorem fn22 : FnIs Try.prog 22 2 [Go.ResultVar.tmp 4] (.seq (.region [⟨some 4, Go.Op.assign (Go.Operand.const (Go.Value.int Go.IntKind.i64 0)), 3, none⟩])
    (.seq (.seq (.region [⟨some 7, Go.Op.move (Go.Operand.tmp 1), 3, none⟩,
      ⟨some 8, Go.Op.binOp Go.BinOp.lss 3 (Go.Operand.tmp 7) (Go.Operand.const (Go.Value.int Go.IntKind.i64 0)) 3, 4, none⟩])
    (.cond (Go.Operand.tmp 8)
      (.seq (.region [⟨some 4, Go.Op.assign (Go.Operand.const (Go.Value.int Go.IntKind.i64 (-1))), 3, none⟩])
      .ret)
      .skip))
    (.seq (.region [⟨some 5, Go.Op.assign (Go.Operand.const (Go.Value.int Go.IntKind.i64 0)), 3, none⟩])
    (.seq (.seq (.region [⟨some 6, Go.Op.assign (Go.Operand.const (Go.Value.int Go.IntKind.i64 0)), 3, none⟩])
    (.block 0
      (.loop
        (.seq (.seq (.region [⟨some 9, Go.Op.move (Go.Operand.tmp 6), 3, none⟩,
          ⟨some 10, Go.Op.move (Go.Operand.tmp 0), 22, none⟩,
          ⟨some 11, Go.Op.call { callee := Go.Callee.builtin Go.Builtin.len, args := #[Go.Operand.tmp 10], argTypes := #[22] }, 3, none⟩,
          ⟨some 12, Go.Op.binOp Go.BinOp.lss 3 (Go.Operand.tmp 9) (Go.Operand.tmp 11) 3, 4, none⟩])
        (.cond (Go.Operand.tmp 12)
          .skip
          (.exit 0)))
        (.seq (.block 1
          (.seq (.region [⟨some 15, Go.Op.move (Go.Operand.tmp 5), 3, none⟩,
            ⟨some 16, Go.Op.move (Go.Operand.tmp 0), 22, none⟩,
            ⟨some 17, Go.Op.move (Go.Operand.tmp 6), 3, none⟩,
            ⟨some 18, Go.Op.move (Go.Operand.tmp 6), 3, none⟩,
            ⟨some 19, Go.Op.binOp Go.BinOp.add 3 (Go.Operand.tmp 18) (Go.Operand.const (Go.Value.int Go.IntKind.i64 1)) 3, 3, none⟩,
            ⟨some 20, Go.Op.slice 22 (Go.Operand.tmp 16) (some (Go.Operand.tmp 17)) (some (Go.Operand.tmp 19)) none, 22, none⟩,
            ⟨some 21, Go.Op.call { callee := Go.Callee.value (Go.Operand.func 33), args := #[Go.Operand.tmp 20], argTypes := #[22] }, 3, none⟩,
            ⟨some 22, Go.Op.binOp Go.BinOp.add 3 (Go.Operand.tmp 15) (Go.Operand.tmp 21) 3, 3, none⟩,
            ⟨some 5, Go.Op.assign (Go.Operand.tmp 22), 3, none⟩])
          (.seq (.region [⟨some 23, Go.Op.move (Go.Operand.tmp 1), 3, none⟩,
            ⟨some 24, Go.Op.move (Go.Operand.tmp 5), 3, none⟩,
            ⟨some 25, Go.Op.binOp Go.BinOp.lss 3 (Go.Operand.tmp 23) (Go.Operand.tmp 24) 3, 4, none⟩])
          (.cond (Go.Operand.tmp 25)
            (.seq (.region [⟨some 26, Go.Op.move (Go.Operand.tmp 6), 3, none⟩,
              ⟨some 4, Go.Op.assign (Go.Operand.tmp 26), 3, none⟩])
            .ret)
            .skip))))
        (.region [⟨some 13, Go.Op.move (Go.Operand.tmp 6), 3, none⟩,
          ⟨some 14, Go.Op.binOp Go.BinOp.add 3 (Go.Operand.tmp 13) (Go.Operand.const (Go.Value.int Go.IntKind.i64 1)) 3, 3, none⟩,
          ⟨some 6, Go.Op.assign (Go.Operand.tmp 14), 3, none⟩]))))))
    (.seq (.region [⟨some 27, Go.Op.move (Go.Operand.tmp 0), 22, none⟩,
      ⟨some 28, Go.Op.call { callee := Go.Callee.builtin Go.Builtin.len, args := #[Go.Operand.tmp 27], argTypes := #[22] }, 3, none⟩,
      ⟨some 29, Go.Op.move (Go.Operand.tmp 1), 3, none⟩,
      ⟨some 30, Go.Op.binOp Go.BinOp.add 3 (Go.Operand.tmp 28) (Go.Operand.tmp 29) 3, 3, none⟩,
      ⟨some 31, Go.Op.move (Go.Operand.tmp 5), 3, none⟩,
      ⟨some 32, Go.Op.binOp Go.BinOp.sub 3 (Go.Operand.tmp 30) (Go.Operand.tmp 31) 3, 3, none⟩,
      ⟨some 4, Go.Op.assign (Go.Operand.tmp 32), 3, none⟩])
    .ret))))) :=
  ⟨foll, Try.f22, Try.func22, by kernel_rfl, by kernel_rfl, by kernel_rfl, by rw [Try.ntmps22]; decide⟩

/-- narrator.narratorlaw26.row -/
theorem fn23 : FnIs Try.prog 23 1 [Go.ResultVar.tmp 2] (.seq (.region [⟨some 2, Go.Op.assign (Go.Operand.const (Go.Value.slice none 0 0)), 22, none⟩])
    (.seq (.region [⟨some 5, Go.Op.buildSlice 22 0 #[], 22, none⟩,
      ⟨some 3, Go.Op.assign (Go.Operand.tmp 5), 22, none⟩])
    (.seq (.seq (.region [⟨some 6, Go.Op.move (Go.Operand.tmp 0), 9, none⟩,
      ⟨some 7, Go.Op.call { callee := Go.Callee.builtin Go.Builtin.len, args := #[Go.Operand.tmp 6], argTypes := #[9] }, 3, none⟩,
      ⟨some 8, Go.Op.move (Go.Operand.const (Go.Value.int Go.IntKind.i64 0)), 3, none⟩])
    (.block 0
      (.loop
        (.seq (.region [⟨some 9, Go.Op.binOp Go.BinOp.lss 3 (Go.Operand.tmp 8) (Go.Operand.tmp 7) 3, 4, none⟩])
        (.seq (.cond (Go.Operand.tmp 9)
          .skip
          (.exit 0))
        (.seq (.block 1
          (.seq (.region [⟨some 10, Go.Op.move (Go.Operand.tmp 8), 3, none⟩,
            ⟨some 4, Go.Op.assign (Go.Operand.tmp 10), 3, none⟩])
          (.region [⟨some 11, Go.Op.move (Go.Operand.tmp 3), 22, none⟩,
            ⟨some 12, Go.Op.move (Go.Operand.tmp 0), 9, none⟩,
            ⟨some 13, Go.Op.move (Go.Operand.tmp 4), 3, none⟩,
            ⟨some 14, Go.Op.move (Go.Operand.tmp 4), 3, none⟩,
            ⟨some 15, Go.Op.binOp Go.BinOp.add 3 (Go.Operand.tmp 14) (Go.Operand.const (Go.Value.int Go.IntKind.i64 1)) 3, 3, none⟩,
            ⟨some 16, Go.Op.slice 9 (Go.Operand.tmp 12) (some (Go.Operand.tmp 13)) (some (Go.Operand.tmp 15)) none, 9, none⟩,
            ⟨some 17, Go.Op.build 35 #[(0, Go.Operand.tmp 16)], 35, none⟩,
            ⟨some 18, Go.Op.buildSlice 22 1 #[(0, Go.Operand.tmp 17)], 22, none⟩,
            ⟨some 19, Go.Op.call { callee := Go.Callee.builtin Go.Builtin.append, args := #[Go.Operand.tmp 11, Go.Operand.tmp 18], argTypes := #[22, 22] }, 22, none⟩,
            ⟨some 3, Go.Op.assign (Go.Operand.tmp 19), 22, none⟩])))
        (.region [⟨some 20, Go.Op.binOp Go.BinOp.add 3 (Go.Operand.tmp 8) (Go.Operand.const (Go.Value.int Go.IntKind.i64 1)) 3, 3, none⟩,
          ⟨some 8, Go.Op.move (Go.Operand.tmp 20), 3, none⟩])))))))
    (.seq (.region [⟨some 21, Go.Op.move (Go.Operand.tmp 3), 22, none⟩,
      ⟨some 2, Go.Op.assign (Go.Operand.tmp 21), 22, none⟩])
    .ret)))) :=
  ⟨foll, Try.f23, Try.func23, by kernel_rfl, by kernel_rfl, by kernel_rfl, by rw [Try.ntmps23]; decide⟩

/-- narrator.prompts.first -/
theorem fn24 : FnIs Try.prog 24 2 [Go.ResultVar.tmp 4] (.seq (.region [⟨some 4, Go.Op.assign (Go.Operand.const (Go.Value.int Go.IntKind.i64 0)), 3, none⟩])
    (.seq (.seq (.region [⟨some 6, Go.Op.move (Go.Operand.tmp 0), 22, none⟩,
      ⟨some 7, Go.Op.call { callee := Go.Callee.builtin Go.Builtin.len, args := #[Go.Operand.tmp 6], argTypes := #[22] }, 3, none⟩,
      ⟨some 8, Go.Op.move (Go.Operand.const (Go.Value.int Go.IntKind.i64 0)), 3, none⟩])
    (.block 0
      (.loop
        (.seq (.region [⟨some 9, Go.Op.binOp Go.BinOp.lss 3 (Go.Operand.tmp 8) (Go.Operand.tmp 7) 3, 0, none⟩])
        (.seq (.cond (Go.Operand.tmp 9)
          .skip
          (.exit 0))
        (.seq (.block 1
          (.seq (.region [⟨some 10, Go.Op.move (Go.Operand.tmp 8), 3, none⟩,
            ⟨some 5, Go.Op.assign (Go.Operand.tmp 10), 3, none⟩])
          (.seq (.region [⟨some 11, Go.Op.move (Go.Operand.tmp 1), 46, none⟩,
            ⟨some 12, Go.Op.move (Go.Operand.tmp 5), 3, none⟩,
            ⟨some 13, Go.Op.call { callee := Go.Callee.value (Go.Operand.tmp 11), args := #[Go.Operand.tmp 12], argTypes := #[3] }, 4, none⟩])
          (.cond (Go.Operand.tmp 13)
            (.seq (.region [⟨some 14, Go.Op.move (Go.Operand.tmp 5), 3, none⟩,
              ⟨some 4, Go.Op.assign (Go.Operand.tmp 14), 3, none⟩])
            .ret)
            .skip))))
        (.region [⟨some 15, Go.Op.binOp Go.BinOp.add 3 (Go.Operand.tmp 8) (Go.Operand.const (Go.Value.int Go.IntKind.i64 1)) 3, 3, none⟩,
          ⟨some 8, Go.Op.move (Go.Operand.tmp 15), 3, none⟩])))))))
    (.seq (.region [⟨some 4, Go.Op.assign (Go.Operand.const (Go.Value.int Go.IntKind.i64 (-1))), 3, none⟩])
    .ret))) :=
  ⟨foll, Try.f24, Try.func24, by kernel_rfl, by kernel_rfl, by kernel_rfl, by rw [Try.ntmps24]; decide⟩

/-- narrator.prompts.Ends$1 -/
theorem fn25 : FnIs Try.prog 25 2 [Go.ResultVar.tmp 3] (.seq (.region [⟨some 3, Go.Op.assign (Go.Operand.const (Go.Value.bool false)), 4, none⟩])
    (.seq (.region [⟨some 4, Go.Op.load 22 (Go.Operand.tmp 1), 22, none⟩,
      ⟨some 5, Go.Op.move (Go.Operand.tmp 0), 3, none⟩,
      ⟨some 6, Go.Op.indexAddr 22 (Go.Operand.tmp 4) (Go.Operand.tmp 5), 0, none⟩,
      ⟨some 7, Go.Op.load 35 (Go.Operand.tmp 6), 35, none⟩,
      ⟨some 8, Go.Op.call { callee := Go.Callee.value (Go.Operand.func 26), args := #[Go.Operand.tmp 7], argTypes := #[35] }, 4, none⟩,
      ⟨some 9, Go.Op.move (Go.Operand.tmp 8), 4, none⟩,
      ⟨some 10, Go.Op.move (Go.Operand.tmp 0), 3, (some (9, true))⟩,
      ⟨some 11, Go.Op.binOp Go.BinOp.add 3 (Go.Operand.tmp 10) (Go.Operand.const (Go.Value.int Go.IntKind.i64 1)) 3, 3, (some (9, true))⟩,
      ⟨some 12, Go.Op.load 22 (Go.Operand.tmp 1), 22, (some (9, true))⟩,
      ⟨some 13, Go.Op.call { callee := Go.Callee.builtin Go.Builtin.len, args := #[Go.Operand.tmp 12], argTypes := #[22] }, 3, (some (9, true))⟩,
      ⟨some 14, Go.Op.binOp Go.BinOp.eql 3 (Go.Operand.tmp 11) (Go.Operand.tmp 13) 3, 4, (some (9, true))⟩,
      ⟨some 15, Go.Op.move (Go.Operand.tmp 14), 4, (some (9, true))⟩,
      ⟨some 16, Go.Op.load 22 (Go.Operand.tmp 1), 22, (some (15, false))⟩,
      ⟨some 17, Go.Op.move (Go.Operand.tmp 0), 3, (some (15, false))⟩,
      ⟨some 18, Go.Op.binOp Go.BinOp.add 3 (Go.Operand.tmp 17) (Go.Operand.const (Go.Value.int Go.IntKind.i64 1)) 3, 3, (some (15, false))⟩,
      ⟨some 19, Go.Op.indexAddr 22 (Go.Operand.tmp 16) (Go.Operand.tmp 18), 0, (some (15, false))⟩,
      ⟨some 20, Go.Op.fieldAddr 35 (Go.Operand.tmp 19) 0, 0, (some (15, false))⟩,
      ⟨some 21, Go.Op.load 9 (Go.Operand.tmp 20), 9, (some (15, false))⟩,
      ⟨some 22, Go.Op.binOp Go.BinOp.eql 9 (Go.Operand.tmp 21) (Go.Operand.const (Go.Value.string { data := #[32] })) 9, 4, (some (15, false))⟩,
      ⟨some 23, Go.Op.pick (Go.Operand.tmp 15) (Go.Operand.const (Go.Value.bool true)) (Go.Operand.tmp 22), 4, (some (9, true))⟩,
      ⟨some 24, Go.Op.pick (Go.Operand.tmp 9) (Go.Operand.tmp 23) (Go.Operand.const (Go.Value.bool false)), 4, none⟩,
      ⟨some 3, Go.Op.assign (Go.Operand.tmp 24), 4, none⟩])
    .ret)) :=
  ⟨foll, Try.f25, Try.func25, by kernel_rfl, by kernel_rfl, by kernel_rfl, by rw [Try.ntmps25]; decide⟩

/-- narrator.prompts.sign -/
theorem fn26 : FnIs Try.prog 26 1 [Go.ResultVar.tmp 2] (.seq (.region [⟨some 1, Go.Op.box 35 (Go.Operand.tmp 0), 0, none⟩,
      ⟨some 2, Go.Op.assign (Go.Operand.const (Go.Value.bool false)), 4, none⟩])
    (.seq (.region [⟨some 3, Go.Op.fieldAddr 35 (Go.Operand.tmp 1) 0, 0, none⟩,
      ⟨some 4, Go.Op.load 9 (Go.Operand.tmp 3), 9, none⟩,
      ⟨some 5, Go.Op.call { callee := Go.Callee.builtin Go.Builtin.len, args := #[Go.Operand.tmp 4], argTypes := #[9] }, 3, none⟩,
      ⟨some 6, Go.Op.binOp Go.BinOp.eql 3 (Go.Operand.tmp 5) (Go.Operand.const (Go.Value.int Go.IntKind.i64 1)) 3, 4, none⟩,
      ⟨some 7, Go.Op.move (Go.Operand.tmp 6), 4, none⟩,
      ⟨some 8, Go.Op.fieldAddr 35 (Go.Operand.tmp 1) 0, 0, (some (7, true))⟩,
      ⟨some 9, Go.Op.load 9 (Go.Operand.tmp 8), 9, (some (7, true))⟩,
      ⟨some 10, Go.Op.call { callee := Go.Callee.value (Go.Operand.func 34), args := #[Go.Operand.const (Go.Value.string { data := #[36, 35, 62, 58, 63] }), Go.Operand.tmp 9], argTypes := #[9, 9] }, 4, (some (7, true))⟩,
      ⟨some 11, Go.Op.pick (Go.Operand.tmp 7) (Go.Operand.tmp 10) (Go.Operand.const (Go.Value.bool false)), 4, none⟩,
      ⟨some 2, Go.Op.assign (Go.Operand.tmp 11), 4, none⟩])
    .ret)) :=
  ⟨foll, Try.f26, Try.func26, by kernel_rfl, by kernel_rfl, by kernel_rfl, by rw [Try.ntmps26]; decide⟩

/-- narrator.narratorref26.sign -/
theorem fn27 : FnIs Try.prog 27 1 [Go.ResultVar.tmp 2] (.seq (.region [⟨some 1, Go.Op.box 35 (Go.Operand.tmp 0), 0, none⟩,
      ⟨some 2, Go.Op.assign (Go.Operand.const (Go.Value.bool false)), 4, none⟩])
    (.seq (.region [⟨some 3, Go.Op.fieldAddr 35 (Go.Operand.tmp 1) 0, 0, none⟩,
      ⟨some 4, Go.Op.load 9 (Go.Operand.tmp 3), 9, none⟩,
      ⟨some 5, Go.Op.binOp Go.BinOp.eql 9 (Go.Operand.tmp 4) (Go.Operand.const (Go.Value.string { data := #[36] })) 9, 4, none⟩,
      ⟨some 6, Go.Op.move (Go.Operand.tmp 5), 4, none⟩,
      ⟨some 7, Go.Op.fieldAddr 35 (Go.Operand.tmp 1) 0, 0, (some (6, false))⟩,
      ⟨some 8, Go.Op.load 9 (Go.Operand.tmp 7), 9, (some (6, false))⟩,
      ⟨some 9, Go.Op.binOp Go.BinOp.eql 9 (Go.Operand.tmp 8) (Go.Operand.const (Go.Value.string { data := #[35] })) 9, 4, (some (6, false))⟩,
      ⟨some 10, Go.Op.pick (Go.Operand.tmp 6) (Go.Operand.const (Go.Value.bool true)) (Go.Operand.tmp 9), 4, none⟩,
      ⟨some 11, Go.Op.move (Go.Operand.tmp 10), 4, none⟩,
      ⟨some 12, Go.Op.fieldAddr 35 (Go.Operand.tmp 1) 0, 0, (some (11, false))⟩,
      ⟨some 13, Go.Op.load 9 (Go.Operand.tmp 12), 9, (some (11, false))⟩,
      ⟨some 14, Go.Op.binOp Go.BinOp.eql 9 (Go.Operand.tmp 13) (Go.Operand.const (Go.Value.string { data := #[62] })) 9, 4, (some (11, false))⟩,
      ⟨some 15, Go.Op.pick (Go.Operand.tmp 11) (Go.Operand.const (Go.Value.bool true)) (Go.Operand.tmp 14), 4, none⟩,
      ⟨some 16, Go.Op.move (Go.Operand.tmp 15), 4, none⟩,
      ⟨some 17, Go.Op.fieldAddr 35 (Go.Operand.tmp 1) 0, 0, (some (16, false))⟩,
      ⟨some 18, Go.Op.load 9 (Go.Operand.tmp 17), 9, (some (16, false))⟩,
      ⟨some 19, Go.Op.binOp Go.BinOp.eql 9 (Go.Operand.tmp 18) (Go.Operand.const (Go.Value.string { data := #[58] })) 9, 4, (some (16, false))⟩,
      ⟨some 20, Go.Op.pick (Go.Operand.tmp 16) (Go.Operand.const (Go.Value.bool true)) (Go.Operand.tmp 19), 4, none⟩,
      ⟨some 21, Go.Op.move (Go.Operand.tmp 20), 4, none⟩,
      ⟨some 22, Go.Op.fieldAddr 35 (Go.Operand.tmp 1) 0, 0, (some (21, false))⟩,
      ⟨some 23, Go.Op.load 9 (Go.Operand.tmp 22), 9, (some (21, false))⟩,
      ⟨some 24, Go.Op.binOp Go.BinOp.eql 9 (Go.Operand.tmp 23) (Go.Operand.const (Go.Value.string { data := #[63] })) 9, 4, (some (21, false))⟩,
      ⟨some 25, Go.Op.pick (Go.Operand.tmp 21) (Go.Operand.const (Go.Value.bool true)) (Go.Operand.tmp 24), 4, none⟩,
      ⟨some 2, Go.Op.assign (Go.Operand.tmp 25), 4, none⟩])
    .ret)) :=
  ⟨foll, Try.f27, Try.func27, by kernel_rfl, by kernel_rfl, by kernel_rfl, by rw [Try.ntmps27]; decide⟩

/-- slices.Clone[[]narrator.api.Glyph,narrator.api.Glyph] -/
theorem fn28 : FnIs Try.prog 28 1 [Go.ResultVar.tmp 2] (.seq (.region [⟨some 2, Go.Op.assign (Go.Operand.const (Go.Value.slice none 0 0)), 22, none⟩])
    (.seq (.seq (.region [⟨some 3, Go.Op.move (Go.Operand.tmp 0), 22, none⟩,
      ⟨some 4, Go.Op.binOp Go.BinOp.eql 22 (Go.Operand.tmp 3) (Go.Operand.const (Go.Value.slice none 0 0)) 22, 4, none⟩])
    (.cond (Go.Operand.tmp 4)
      (.seq (.region [⟨some 2, Go.Op.assign (Go.Operand.const (Go.Value.slice none 0 0)), 22, none⟩])
      .ret)
      .skip))
    (.seq (.region [⟨some 5, Go.Op.buildSlice 22 0 #[], 22, none⟩,
      ⟨some 6, Go.Op.move (Go.Operand.tmp 0), 22, none⟩,
      ⟨some 7, Go.Op.call { callee := Go.Callee.builtin Go.Builtin.append, args := #[Go.Operand.tmp 5, Go.Operand.tmp 6], argTypes := #[22, 22] }, 22, none⟩,
      ⟨some 2, Go.Op.assign (Go.Operand.tmp 7), 22, none⟩])
    .ret))) :=
  ⟨foll, Try.f28, Try.func28, by kernel_rfl, by kernel_rfl, by kernel_rfl, by rw [Try.ntmps28]; decide⟩

/-- narrator.view.Text -/
theorem fn29 : FnIs Try.prog 29 1 [Go.ResultVar.tmp 2] (.seq (.region [⟨some 2, Go.Op.assign (Go.Operand.const (Go.Value.string { data := #[] })), 9, none⟩])
    (.seq (.region [⟨some 3, Go.Op.alloc 53, 0, none⟩])
    (.seq (.seq (.region [⟨some 6, Go.Op.move (Go.Operand.tmp 0), 22, none⟩,
      ⟨some 7, Go.Op.call { callee := Go.Callee.builtin Go.Builtin.len, args := #[Go.Operand.tmp 6], argTypes := #[22] }, 3, none⟩,
      ⟨some 8, Go.Op.move (Go.Operand.const (Go.Value.int Go.IntKind.i64 0)), 3, none⟩])
    (.block 0
      (.loop
        (.seq (.region [⟨some 9, Go.Op.binOp Go.BinOp.lss 3 (Go.Operand.tmp 8) (Go.Operand.tmp 7) 3, 0, none⟩])
        (.seq (.cond (Go.Operand.tmp 9)
          .skip
          (.exit 0))
        (.seq (.block 1
          (.seq (.region [⟨some 10, Go.Op.indexAddr 22 (Go.Operand.tmp 6) (Go.Operand.tmp 8), 0, none⟩,
            ⟨some 11, Go.Op.load 35 (Go.Operand.tmp 10), 35, none⟩,
            ⟨some 5, Go.Op.alloc 35, 0, none⟩,
            ⟨none, Go.Op.store 35 (Go.Operand.tmp 5) (Go.Operand.tmp 11), 0, none⟩])
          (.region [⟨some 12, Go.Op.fieldAddr 35 (Go.Operand.tmp 5) 0, 0, none⟩,
            ⟨some 13, Go.Op.load 9 (Go.Operand.tmp 12), 9, none⟩,
            ⟨some 14, Go.Op.call { callee := Go.Callee.value (Go.Operand.func 35), args := #[Go.Operand.tmp 3, Go.Operand.tmp 13], argTypes := #[53, 9] }, 56, none⟩])))
        (.region [⟨some 15, Go.Op.binOp Go.BinOp.add 3 (Go.Operand.tmp 8) (Go.Operand.const (Go.Value.int Go.IntKind.i64 1)) 3, 3, none⟩,
          ⟨some 8, Go.Op.move (Go.Operand.tmp 15), 3, none⟩])))))))
    (.seq (.region [⟨some 16, Go.Op.call { callee := Go.Callee.value (Go.Operand.func 36), args := #[Go.Operand.tmp 3], argTypes := #[53] }, 9, none⟩,
      ⟨some 2, Go.Op.assign (Go.Operand.tmp 16), 9, none⟩])
    .ret)))) :=
  ⟨foll, Try.f29, Try.func29, by kernel_rfl, by kernel_rfl, by kernel_rfl, by rw [Try.ntmps29]; decide⟩

/-- narrator.view.Index -/
theorem fn30 : FnIs Try.prog 30 2 [Go.ResultVar.tmp 4] (.seq (.region [⟨some 4, Go.Op.assign (Go.Operand.const (Go.Value.int Go.IntKind.i64 0)), 3, none⟩])
    (.seq (.seq (.region [⟨some 8, Go.Op.move (Go.Operand.tmp 1), 3, none⟩,
      ⟨some 9, Go.Op.binOp Go.BinOp.lss 3 (Go.Operand.tmp 8) (Go.Operand.const (Go.Value.int Go.IntKind.i64 0)) 3, 4, none⟩])
    (.cond (Go.Operand.tmp 9)
      (.seq (.region [⟨some 4, Go.Op.assign (Go.Operand.const (Go.Value.int Go.IntKind.i64 (-1))), 3, none⟩])
      .ret)
      .skip))
    (.seq (.region [⟨some 5, Go.Op.assign (Go.Operand.const (Go.Value.int Go.IntKind.i64 0)), 3, none⟩])
    (.seq (.seq (.region [⟨some 10, Go.Op.move (Go.Operand.tmp 0), 22, none⟩,
      ⟨some 11, Go.Op.call { callee := Go.Callee.builtin Go.Builtin.len, args := #[Go.Operand.tmp 10], argTypes := #[22] }, 3, none⟩,
      ⟨some 12, Go.Op.move (Go.Operand.const (Go.Value.int Go.IntKind.i64 0)), 3, none⟩])
    (.block 0
      (.loop
        (.seq (.region [⟨some 13, Go.Op.binOp Go.BinOp.lss 3 (Go.Operand.tmp 12) (Go.Operand.tmp 11) 3, 0, none⟩])
        (.seq (.cond (Go.Operand.tmp 13)
          .skip
          (.exit 0))
        (.seq (.block 1
          (.seq (.region [⟨some 14, Go.Op.move (Go.Operand.tmp 12), 3, none⟩,
            ⟨some 15, Go.Op.indexAddr 22 (Go.Operand.tmp 10) (Go.Operand.tmp 12), 0, none⟩,
            ⟨some 16, Go.Op.load 35 (Go.Operand.tmp 15), 35, none⟩,
            ⟨some 7, Go.Op.alloc 35, 0, none⟩,
            ⟨some 6, Go.Op.assign (Go.Operand.tmp 14), 3, none⟩,
            ⟨none, Go.Op.store 35 (Go.Operand.tmp 7) (Go.Operand.tmp 16), 0, none⟩])
          (.seq (.region [⟨some 17, Go.Op.move (Go.Operand.tmp 5), 3, none⟩,
            ⟨some 18, Go.Op.binOp Go.BinOp.add 3 (Go.Operand.tmp 17) (Go.Operand.const (Go.Value.int Go.IntKind.i64 1)) 3, 3, none⟩,
            ⟨some 5, Go.Op.assign (Go.Operand.tmp 18), 3, none⟩])
          (.seq (.seq (.region [⟨some 19, Go.Op.fieldAddr 35 (Go.Operand.tmp 7) 1, 0, none⟩,
            ⟨some 20, Go.Op.load 4 (Go.Operand.tmp 19), 4, none⟩])
          (.cond (Go.Operand.tmp 20)
            (.region [⟨some 21, Go.Op.move (Go.Operand.tmp 5), 3, none⟩,
              ⟨some 22, Go.Op.binOp Go.BinOp.add 3 (Go.Operand.tmp 21) (Go.Operand.const (Go.Value.int Go.IntKind.i64 1)) 3, 3, none⟩,
              ⟨some 5, Go.Op.assign (Go.Operand.tmp 22), 3, none⟩])
            .skip))
          (.seq (.region [⟨some 23, Go.Op.move (Go.Operand.tmp 1), 3, none⟩,
            ⟨some 24, Go.Op.move (Go.Operand.tmp 5), 3, none⟩,
            ⟨some 25, Go.Op.binOp Go.BinOp.lss 3 (Go.Operand.tmp 23) (Go.Operand.tmp 24) 3, 4, none⟩])
          (.cond (Go.Operand.tmp 25)
            (.seq (.region [⟨some 26, Go.Op.move (Go.Operand.tmp 6), 3, none⟩,
              ⟨some 4, Go.Op.assign (Go.Operand.tmp 26), 3, none⟩])
            .ret)
            .skip))))))
        (.region [⟨some 27, Go.Op.binOp Go.BinOp.add 3 (Go.Operand.tmp 12) (Go.Operand.const (Go.Value.int Go.IntKind.i64 1)) 3, 3, none⟩,
          ⟨some 12, Go.Op.move (Go.Operand.tmp 27), 3, none⟩])))))))
    (.seq (.region [⟨some 28, Go.Op.move (Go.Operand.tmp 0), 22, none⟩,
      ⟨some 29, Go.Op.call { callee := Go.Callee.builtin Go.Builtin.len, args := #[Go.Operand.tmp 28], argTypes := #[22] }, 3, none⟩,
      ⟨some 30, Go.Op.move (Go.Operand.tmp 1), 3, none⟩,
      ⟨some 31, Go.Op.binOp Go.BinOp.add 3 (Go.Operand.tmp 29) (Go.Operand.tmp 30) 3, 3, none⟩,
      ⟨some 32, Go.Op.move (Go.Operand.tmp 5), 3, none⟩,
      ⟨some 33, Go.Op.binOp Go.BinOp.sub 3 (Go.Operand.tmp 31) (Go.Operand.tmp 32) 3, 3, none⟩,
      ⟨some 4, Go.Op.assign (Go.Operand.tmp 33), 3, none⟩])
    .ret))))) :=
  ⟨foll, Try.f30, Try.func30, by kernel_rfl, by kernel_rfl, by kernel_rfl, by rw [Try.ntmps30]; decide⟩

/-- strings.TrimSuffix -/
theorem fn31 : FnIs Try.prog 31 2 [Go.ResultVar.tmp 4] (.seq (.region [⟨some 4, Go.Op.assign (Go.Operand.const (Go.Value.string { data := #[] })), 9, none⟩])
    (.seq (.region [⟨some 5, Go.Op.move (Go.Operand.tmp 0), 9, none⟩,
      ⟨some 6, Go.Op.move (Go.Operand.tmp 1), 9, none⟩,
      ⟨some 7, Go.Op.call { callee := Go.Callee.value (Go.Operand.func 37), args := #[Go.Operand.tmp 5, Go.Operand.tmp 6], argTypes := #[9, 9] }, 9, none⟩,
      ⟨some 4, Go.Op.assign (Go.Operand.tmp 7), 9, none⟩])
    .ret)) :=
  ⟨foll, Try.f31, Try.func31, by kernel_rfl, by kernel_rfl, by kernel_rfl, by rw [Try.ntmps31]; decide⟩

/-- narrator.narratorref26.label -/
theorem fn32 : FnIs Try.prog 32 1 [Go.ResultVar.tmp 2] (.seq (.region [⟨some 2, Go.Op.assign (Go.Operand.const (Go.Value.string { data := #[] })), 9, none⟩])
    (.seq (.region [⟨some 4, Go.Op.move (Go.Operand.tmp 0), 22, none⟩,
      ⟨some 5, Go.Op.call { callee := Go.Callee.value (Go.Operand.func 14), args := #[Go.Operand.tmp 4], argTypes := #[22] }, 3, none⟩,
      ⟨some 3, Go.Op.assign (Go.Operand.tmp 5), 3, none⟩])
    (.seq (.seq (.region [⟨some 6, Go.Op.move (Go.Operand.tmp 3), 3, none⟩,
      ⟨some 7, Go.Op.binOp Go.BinOp.gtr 3 (Go.Operand.tmp 6) (Go.Operand.const (Go.Value.int Go.IntKind.i64 0)) 3, 4, none⟩,
      ⟨some 8, Go.Op.move (Go.Operand.tmp 7), 4, none⟩,
      ⟨some 9, Go.Op.move (Go.Operand.tmp 0), 22, (some (8, true))⟩,
      ⟨some 10, Go.Op.move (Go.Operand.tmp 3), 3, (some (8, true))⟩,
      ⟨some 11, Go.Op.binOp Go.BinOp.sub 3 (Go.Operand.tmp 10) (Go.Operand.const (Go.Value.int Go.IntKind.i64 1)) 3, 3, (some (8, true))⟩,
      ⟨some 12, Go.Op.indexAddr 22 (Go.Operand.tmp 9) (Go.Operand.tmp 11), 0, (some (8, true))⟩,
      ⟨some 13, Go.Op.fieldAddr 35 (Go.Operand.tmp 12) 0, 0, (some (8, true))⟩,
      ⟨some 14, Go.Op.load 9 (Go.Operand.tmp 13), 9, (some (8, true))⟩,
      ⟨some 15, Go.Op.binOp Go.BinOp.eql 9 (Go.Operand.tmp 14) (Go.Operand.const (Go.Value.string { data := #[32] })) 9, 4, (some (8, true))⟩,
      ⟨some 16, Go.Op.pick (Go.Operand.tmp 8) (Go.Operand.tmp 15) (Go.Operand.const (Go.Value.bool false)), 4, none⟩])
    (.cond (Go.Operand.tmp 16)
      (.region [⟨some 17, Go.Op.move (Go.Operand.tmp 3), 3, none⟩,
        ⟨some 18, Go.Op.binOp Go.BinOp.sub 3 (Go.Operand.tmp 17) (Go.Operand.const (Go.Value.int Go.IntKind.i64 1)) 3, 3, none⟩,
        ⟨some 3, Go.Op.assign (Go.Operand.tmp 18), 3, none⟩])
      .skip))
    (.seq (.region [⟨some 19, Go.Op.move (Go.Operand.tmp 0), 22, none⟩,
      ⟨some 20, Go.Op.move (Go.Operand.tmp 3), 3, none⟩,
      ⟨some 21, Go.Op.slice 22 (Go.Operand.tmp 19) none (some (Go.Operand.tmp 20)) none, 22, none⟩,
      ⟨some 22, Go.Op.call { callee := Go.Callee.value (Go.Operand.func 16), args := #[Go.Operand.tmp 21], argTypes := #[22] }, 9, none⟩,
      ⟨some 2, Go.Op.assign (Go.Operand.tmp 22), 9, none⟩])
    .ret)))) :=
  ⟨foll, Try.f32, Try.func32, by kernel_rfl, by kernel_rfl, by kernel_rfl, by rw [Try.ntmps32]; decide⟩

/-- narrator.narratorref15.Width -/
theorem fn33 : FnIs Try.prog 33 1 [Go.ResultVar.tmp 2] (.seq (.region [⟨some 2, Go.Op.assign (Go.Operand.const (Go.Value.int Go.IntKind.i64 0)), 3, none⟩])
    (.seq (.region [⟨some 3, Go.Op.assign (Go.Operand.const (Go.Value.int Go.IntKind.i64 0)), 3, none⟩])
    (.seq (.seq (.region [⟨some 4, Go.Op.assign (Go.Operand.const (Go.Value.int Go.IntKind.i64 0)), 3, none⟩])
    (.block 0
      (.loop
        (.seq (.seq (.region [⟨some 5, Go.Op.move (Go.Operand.tmp 4), 3, none⟩,
          ⟨some 6, Go.Op.move (Go.Operand.tmp 0), 22, none⟩,
          ⟨some 7, Go.Op.call { callee := Go.Callee.builtin Go.Builtin.len, args := #[Go.Operand.tmp 6], argTypes := #[22] }, 3, none⟩,
          ⟨some 8, Go.Op.binOp Go.BinOp.lss 3 (Go.Operand.tmp 5) (Go.Operand.tmp 7) 3, 4, none⟩])
        (.cond (Go.Operand.tmp 8)
          .skip
          (.exit 0)))
        (.seq (.block 1
          (.seq (.region [⟨some 11, Go.Op.move (Go.Operand.tmp 3), 3, none⟩,
            ⟨some 12, Go.Op.binOp Go.BinOp.add 3 (Go.Operand.tmp 11) (Go.Operand.const (Go.Value.int Go.IntKind.i64 1)) 3, 3, none⟩,
            ⟨some 3, Go.Op.assign (Go.Operand.tmp 12), 3, none⟩])
          (.seq (.region [⟨some 13, Go.Op.move (Go.Operand.tmp 0), 22, none⟩,
            ⟨some 14, Go.Op.move (Go.Operand.tmp 4), 3, none⟩,
            ⟨some 15, Go.Op.indexAddr 22 (Go.Operand.tmp 13) (Go.Operand.tmp 14), 0, none⟩,
            ⟨some 16, Go.Op.fieldAddr 35 (Go.Operand.tmp 15) 1, 0, none⟩,
            ⟨some 17, Go.Op.load 4 (Go.Operand.tmp 16), 4, none⟩])
          (.cond (Go.Operand.tmp 17)
            (.region [⟨some 18, Go.Op.move (Go.Operand.tmp 3), 3, none⟩,
              ⟨some 19, Go.Op.binOp Go.BinOp.add 3 (Go.Operand.tmp 18) (Go.Operand.const (Go.Value.int Go.IntKind.i64 1)) 3, 3, none⟩,
              ⟨some 3, Go.Op.assign (Go.Operand.tmp 19), 3, none⟩])
            .skip))))
        (.region [⟨some 9, Go.Op.move (Go.Operand.tmp 4), 3, none⟩,
          ⟨some 10, Go.Op.binOp Go.BinOp.add 3 (Go.Operand.tmp 9) (Go.Operand.const (Go.Value.int Go.IntKind.i64 1)) 3, 3, none⟩,
          ⟨some 4, Go.Op.assign (Go.Operand.tmp 10), 3, none⟩]))))))
    (.seq (.region [⟨some 20, Go.Op.move (Go.Operand.tmp 3), 3, none⟩,
      ⟨some 2, Go.Op.assign (Go.Operand.tmp 20), 3, none⟩])
    .ret)))) :=
  ⟨foll, Try.f33, Try.func33, by kernel_rfl, by kernel_rfl, by kernel_rfl, by rw [Try.ntmps33]; decide⟩

/-- strings.Contains -/
theorem fn34 : FnIs Try.prog 34 2 [Go.ResultVar.tmp 4] (.seq (.region [⟨some 4, Go.Op.assign (Go.Operand.const (Go.Value.bool false)), 4, none⟩])
    (.seq (.region [⟨some 5, Go.Op.move (Go.Operand.tmp 0), 9, none⟩,
      ⟨some 6, Go.Op.move (Go.Operand.tmp 1), 9, none⟩,
      ⟨some 7, Go.Op.call { callee := Go.Callee.value (Go.Operand.func 38), args := #[Go.Operand.tmp 5, Go.Operand.tmp 6], argTypes := #[9, 9] }, 3, none⟩,
      ⟨some 8, Go.Op.binOp Go.BinOp.geq 3 (Go.Operand.tmp 7) (Go.Operand.const (Go.Value.int Go.IntKind.i64 0)) 3, 4, none⟩,
      ⟨some 4, Go.Op.assign (Go.Operand.tmp 8), 4, none⟩])
    .ret)) :=
  ⟨foll, Try.f34, Try.func34, by kernel_rfl, by kernel_rfl, by kernel_rfl, by rw [Try.ntmps34]; decide⟩

/-- (*strings.Builder).WriteString -/
theorem fn35 : FnIs Try.prog 35 2 [Go.ResultVar.tmp 4, Go.ResultVar.tmp 5] (.seq (.region [⟨some 4, Go.Op.assign (Go.Operand.const (Go.Value.int Go.IntKind.i64 0)), 3, none⟩,
      ⟨some 5, Go.Op.assign (Go.Operand.const Go.Value.nilIface), 55, none⟩])
    (.seq (.region [⟨some 6, Go.Op.move (Go.Operand.tmp 0), 50, none⟩,
      ⟨some 7, Go.Op.call { callee := Go.Callee.value (Go.Operand.func 39), args := #[Go.Operand.tmp 6], argTypes := #[50] }, 0, none⟩])
    (.seq (.region [⟨some 8, Go.Op.move (Go.Operand.tmp 0), 50, none⟩,
      ⟨some 9, Go.Op.move (Go.Operand.tmp 0), 50, none⟩,
      ⟨some 10, Go.Op.nilCheck (Go.Operand.tmp 9), 0, none⟩,
      ⟨some 11, Go.Op.fieldAddr 53 (Go.Operand.tmp 10) 1, 0, none⟩,
      ⟨some 12, Go.Op.load 51 (Go.Operand.tmp 11), 51, none⟩,
      ⟨some 13, Go.Op.move (Go.Operand.tmp 1), 9, none⟩,
      ⟨some 14, Go.Op.call { callee := Go.Callee.builtin Go.Builtin.append, args := #[Go.Operand.tmp 12, Go.Operand.tmp 13], argTypes := #[51, 9] }, 51, none⟩,
      ⟨some 15, Go.Op.nilCheck (Go.Operand.tmp 8), 0, none⟩,
      ⟨some 16, Go.Op.fieldAddr 53 (Go.Operand.tmp 15) 1, 0, none⟩,
      ⟨none, Go.Op.store 51 (Go.Operand.tmp 16) (Go.Operand.tmp 14), 0, none⟩])
    (.seq (.region [⟨some 17, Go.Op.move (Go.Operand.tmp 1), 9, none⟩,
      ⟨some 18, Go.Op.call { callee := Go.Callee.builtin Go.Builtin.len, args := #[Go.Operand.tmp 17], argTypes := #[9] }, 3, none⟩,
      ⟨some 4, Go.Op.assign (Go.Operand.tmp 18), 3, none⟩,
      ⟨some 5, Go.Op.assign (Go.Operand.const Go.Value.nilIface), 55, none⟩])
    .ret)))) :=
  ⟨foll, Try.f35, Try.func35, by kernel_rfl, by kernel_rfl, by kernel_rfl, by rw [Try.ntmps35]; decide⟩

/-- (*strings.Builder).String -/
theorem fn36 : FnIs Try.prog 36 1 [Go.ResultVar.tmp 2] (.seq (.region [⟨some 2, Go.Op.assign (Go.Operand.const (Go.Value.string { data := #[] })), 9, none⟩])
    (.seq (.draw [⟨⟨some 3, Go.Op.move (Go.Operand.tmp 0), 50, none⟩, false, false, false⟩,
      ⟨⟨some 4, Go.Op.nilCheck (Go.Operand.tmp 3), 0, none⟩, false, false, false⟩,
      ⟨⟨some 5, Go.Op.fieldAddr 53 (Go.Operand.tmp 4) 1, 0, none⟩, false, false, false⟩,
      ⟨⟨some 6, Go.Op.load 51 (Go.Operand.tmp 5), 51, none⟩, false, false, false⟩,
      ⟨⟨some 7, Go.Op.call { callee := Go.Callee.builtin Go.Builtin.unsafeSliceData, args := #[Go.Operand.tmp 6], argTypes := #[51] }, 60, none⟩, false, false, false⟩,
      ⟨⟨some 8, Go.Op.move (Go.Operand.tmp 0), 50, none⟩, false, false, false⟩,
      ⟨⟨some 9, Go.Op.nilCheck (Go.Operand.tmp 8), 0, none⟩, false, false, false⟩,
      ⟨⟨some 10, Go.Op.fieldAddr 53 (Go.Operand.tmp 9) 1, 0, none⟩, false, false, false⟩,
      ⟨⟨some 11, Go.Op.load 51 (Go.Operand.tmp 10), 51, none⟩, false, false, false⟩,
      ⟨⟨some 12, Go.Op.call { callee := Go.Callee.builtin Go.Builtin.len, args := #[Go.Operand.tmp 11], argTypes := #[51] }, 3, none⟩, false, false, false⟩,
      ⟨⟨some 13, Go.Op.call { callee := Go.Callee.builtin Go.Builtin.unsafeString, args := #[Go.Operand.tmp 7, Go.Operand.tmp 12], argTypes := #[60, 3] }, 9, none⟩, true, false, false⟩,
      ⟨⟨some 2, Go.Op.assign (Go.Operand.tmp 13), 9, none⟩, false, false, false⟩])
    .ret)) :=
  ⟨foll, Try.f36, Try.func36, by kernel_rfl, by kernel_rfl, by kernel_rfl, by rw [Try.ntmps36]; decide⟩

/-- internal.stringslite.TrimSuffix -/
theorem fn37 : FnIs Try.prog 37 2 [Go.ResultVar.tmp 4] (.seq (.region [⟨some 4, Go.Op.assign (Go.Operand.const (Go.Value.string { data := #[] })), 9, none⟩])
    (.seq (.seq (.region [⟨some 5, Go.Op.move (Go.Operand.tmp 0), 9, none⟩,
      ⟨some 6, Go.Op.move (Go.Operand.tmp 1), 9, none⟩,
      ⟨some 7, Go.Op.call { callee := Go.Callee.value (Go.Operand.func 40), args := #[Go.Operand.tmp 5, Go.Operand.tmp 6], argTypes := #[9, 9] }, 4, none⟩])
    (.cond (Go.Operand.tmp 7)
      (.seq (.region [⟨some 8, Go.Op.move (Go.Operand.tmp 0), 9, none⟩,
        ⟨some 9, Go.Op.move (Go.Operand.tmp 0), 9, none⟩,
        ⟨some 10, Go.Op.call { callee := Go.Callee.builtin Go.Builtin.len, args := #[Go.Operand.tmp 9], argTypes := #[9] }, 3, none⟩,
        ⟨some 11, Go.Op.move (Go.Operand.tmp 1), 9, none⟩,
        ⟨some 12, Go.Op.call { callee := Go.Callee.builtin Go.Builtin.len, args := #[Go.Operand.tmp 11], argTypes := #[9] }, 3, none⟩,
        ⟨some 13, Go.Op.binOp Go.BinOp.sub 3 (Go.Operand.tmp 10) (Go.Operand.tmp 12) 3, 3, none⟩,
        ⟨some 14, Go.Op.slice 9 (Go.Operand.tmp 8) none (some (Go.Operand.tmp 13)) none, 9, none⟩,
        ⟨some 4, Go.Op.assign (Go.Operand.tmp 14), 9, none⟩])
      .ret)
      .skip))
    (.seq (.region [⟨some 15, Go.Op.move (Go.Operand.tmp 0), 9, none⟩,
      ⟨some 4, Go.Op.assign (Go.Operand.tmp 15), 9, none⟩])
    .ret))) :=
  ⟨foll, Try.f37, Try.func37, by kernel_rfl, by kernel_rfl, by kernel_rfl, by rw [Try.ntmps37]; decide⟩

/-- strings.Index -/
theorem fn38 : FnIs Try.prog 38 2 [Go.ResultVar.tmp 4] (.seq (.region [⟨some 4, Go.Op.assign (Go.Operand.const (Go.Value.int Go.IntKind.i64 0)), 3, none⟩])
    (.seq (.region [⟨some 5, Go.Op.move (Go.Operand.tmp 0), 9, none⟩,
      ⟨some 6, Go.Op.move (Go.Operand.tmp 1), 9, none⟩,
      ⟨some 7, Go.Op.call { callee := Go.Callee.value (Go.Operand.func 41), args := #[Go.Operand.tmp 5, Go.Operand.tmp 6], argTypes := #[9, 9] }, 3, none⟩,
      ⟨some 4, Go.Op.assign (Go.Operand.tmp 7), 3, none⟩])
    .ret)) :=
  ⟨foll, Try.f38, Try.func38, by kernel_rfl, by kernel_rfl, by kernel_rfl, by rw [Try.ntmps38]; decide⟩

/-- (*strings.Builder).copyCheck -/
theorem fn39 : FnIs Try.prog 39 1 [] (.seq (.region [⟨some 2, Go.Op.move (Go.Operand.tmp 0), 50, none⟩,
      ⟨some 3, Go.Op.nilCheck (Go.Operand.tmp 2), 0, none⟩,
      ⟨some 4, Go.Op.fieldAddr 53 (Go.Operand.tmp 3) 0, 0, none⟩,
      ⟨some 5, Go.Op.load 50 (Go.Operand.tmp 4), 50, none⟩,
      ⟨some 6, Go.Op.binOp Go.BinOp.eql 50 (Go.Operand.tmp 5) (Go.Operand.const (Go.Value.pointer none)) 50, 4, none⟩])
    (.cond (Go.Operand.tmp 6)
      (.region [⟨some 7, Go.Op.move (Go.Operand.tmp 0), 50, none⟩,
        ⟨some 8, Go.Op.move (Go.Operand.tmp 0), 50, none⟩,
        ⟨some 9, Go.Op.convert 50 61 (Go.Operand.tmp 8), 61, none⟩,
        ⟨some 10, Go.Op.call { callee := Go.Callee.value (Go.Operand.func 42), args := #[Go.Operand.tmp 9], argTypes := #[61] }, 61, none⟩,
        ⟨some 11, Go.Op.convert 61 50 (Go.Operand.tmp 10), 50, none⟩,
        ⟨some 12, Go.Op.nilCheck (Go.Operand.tmp 7), 0, none⟩,
        ⟨some 13, Go.Op.fieldAddr 53 (Go.Operand.tmp 12) 0, 0, none⟩,
        ⟨none, Go.Op.store 50 (Go.Operand.tmp 13) (Go.Operand.tmp 11), 0, none⟩])
      (.seq (.region [⟨some 14, Go.Op.move (Go.Operand.tmp 0), 50, none⟩,
        ⟨some 15, Go.Op.nilCheck (Go.Operand.tmp 14), 0, none⟩,
        ⟨some 16, Go.Op.fieldAddr 53 (Go.Operand.tmp 15) 0, 0, none⟩,
        ⟨some 17, Go.Op.load 50 (Go.Operand.tmp 16), 50, none⟩,
        ⟨some 18, Go.Op.move (Go.Operand.tmp 0), 50, none⟩,
        ⟨some 19, Go.Op.binOp Go.BinOp.neq 50 (Go.Operand.tmp 17) (Go.Operand.tmp 18) 50, 4, none⟩])
      (.cond (Go.Operand.tmp 19)
        .other
        .skip)))) :=
  ⟨foll, Try.f39, Try.func39, by kernel_rfl, by kernel_rfl, by kernel_rfl, by rw [Try.ntmps39]; decide⟩

/-- internal.stringslite.HasSuffix -/
theorem fn40 : FnIs Try.prog 40 2 [Go.ResultVar.tmp 4] (.seq (.region [⟨some 4, Go.Op.assign (Go.Operand.const (Go.Value.bool false)), 4, none⟩])
    (.seq (.region [⟨some 5, Go.Op.move (Go.Operand.tmp 0), 9, none⟩,
      ⟨some 6, Go.Op.call { callee := Go.Callee.builtin Go.Builtin.len, args := #[Go.Operand.tmp 5], argTypes := #[9] }, 3, none⟩,
      ⟨some 7, Go.Op.move (Go.Operand.tmp 1), 9, none⟩,
      ⟨some 8, Go.Op.call { callee := Go.Callee.builtin Go.Builtin.len, args := #[Go.Operand.tmp 7], argTypes := #[9] }, 3, none⟩,
      ⟨some 9, Go.Op.binOp Go.BinOp.geq 3 (Go.Operand.tmp 6) (Go.Operand.tmp 8) 3, 4, none⟩,
      ⟨some 10, Go.Op.move (Go.Operand.tmp 9), 4, none⟩,
      ⟨some 11, Go.Op.move (Go.Operand.tmp 0), 9, (some (10, true))⟩,
      ⟨some 12, Go.Op.move (Go.Operand.tmp 0), 9, (some (10, true))⟩,
      ⟨some 13, Go.Op.call { callee := Go.Callee.builtin Go.Builtin.len, args := #[Go.Operand.tmp 12], argTypes := #[9] }, 3, (some (10, true))⟩,
      ⟨some 14, Go.Op.move (Go.Operand.tmp 1), 9, (some (10, true))⟩,
      ⟨some 15, Go.Op.call { callee := Go.Callee.builtin Go.Builtin.len, args := #[Go.Operand.tmp 14], argTypes := #[9] }, 3, (some (10, true))⟩,
      ⟨some 16, Go.Op.binOp Go.BinOp.sub 3 (Go.Operand.tmp 13) (Go.Operand.tmp 15) 3, 3, (some (10, true))⟩,
      ⟨some 17, Go.Op.slice 9 (Go.Operand.tmp 11) (some (Go.Operand.tmp 16)) none none, 9, (some (10, true))⟩,
      ⟨some 18, Go.Op.move (Go.Operand.tmp 1), 9, (some (10, true))⟩,
      ⟨some 19, Go.Op.binOp Go.BinOp.eql 9 (Go.Operand.tmp 17) (Go.Operand.tmp 18) 9, 4, (some (10, true))⟩,
      ⟨some 20, Go.Op.pick (Go.Operand.tmp 10) (Go.Operand.tmp 19) (Go.Operand.const (Go.Value.bool false)), 4, none⟩,
      ⟨some 4, Go.Op.assign (Go.Operand.tmp 20), 4, none⟩])
    .ret)) :=
  ⟨foll, Try.f40, Try.func40, by kernel_rfl, by kernel_rfl, by kernel_rfl, by rw [Try.ntmps40]; decide⟩

/-- internal.stringslite.Index -/
theorem fn41 : FnIs Try.prog 41 2 [Go.ResultVar.tmp 4] (.seq (.region [⟨some 4, Go.Op.assign (Go.Operand.const (Go.Value.int Go.IntKind.i64 0)), 3, none⟩])
    (.seq (.region [⟨some 14, Go.Op.move (Go.Operand.tmp 1), 9, none⟩,
      ⟨some 15, Go.Op.call { callee := Go.Callee.builtin Go.Builtin.len, args := #[Go.Operand.tmp 14], argTypes := #[9] }, 3, none⟩,
      ⟨some 5, Go.Op.assign (Go.Operand.tmp 15), 3, none⟩])
    (.seq (.block 0
      (.seq (.region [⟨some 17, Go.Op.move (Go.Operand.tmp 5), 3, none⟩,
        ⟨some 18, Go.Op.binOp Go.BinOp.eql 3 (Go.Operand.tmp 17) (Go.Operand.const (Go.Value.int Go.IntKind.i64 0)) 3, 4, none⟩,
        ⟨some 19, Go.Op.move (Go.Operand.tmp 18), 4, none⟩,
        ⟨some 20, Go.Op.move (Go.Operand.tmp 1), 9, (some (19, false))⟩,
        ⟨some 21, Go.Op.move (Go.Operand.tmp 0), 9, (some (19, false))⟩,
        ⟨some 22, Go.Op.binOp Go.BinOp.eql 9 (Go.Operand.tmp 20) (Go.Operand.tmp 21) 9, 4, (some (19, false))⟩,
        ⟨some 23, Go.Op.pick (Go.Operand.tmp 19) (Go.Operand.const (Go.Value.bool true)) (Go.Operand.tmp 22), 4, none⟩,
        ⟨some 16, Go.Op.assign (Go.Operand.tmp 23), 4, none⟩])
      (.cond (Go.Operand.tmp 16)
        (.seq (.region [⟨some 4, Go.Op.assign (Go.Operand.const (Go.Value.int Go.IntKind.i64 0)), 3, none⟩])
        .ret)
        (.seq (.region [⟨some 25, Go.Op.move (Go.Operand.tmp 5), 3, none⟩,
          ⟨some 26, Go.Op.binOp Go.BinOp.eql 3 (Go.Operand.tmp 25) (Go.Operand.const (Go.Value.int Go.IntKind.i64 1)) 3, 4, none⟩,
          ⟨some 24, Go.Op.assign (Go.Operand.tmp 26), 4, none⟩])
        (.cond (Go.Operand.tmp 24)
          (.seq (.region [⟨some 27, Go.Op.move (Go.Operand.tmp 0), 9, none⟩,
            ⟨some 28, Go.Op.move (Go.Operand.tmp 1), 9, none⟩,
            ⟨some 29, Go.Op.index 9 (Go.Operand.tmp 28) (Go.Operand.const (Go.Value.int Go.IntKind.i64 0)), 5, none⟩,
            ⟨some 30, Go.Op.call { callee := Go.Callee.value (Go.Operand.func 43), args := #[Go.Operand.tmp 27, Go.Operand.tmp 29], argTypes := #[9, 5] }, 3, none⟩,
            ⟨some 4, Go.Op.assign (Go.Operand.tmp 30), 3, none⟩])
          .ret)
          (.seq (.region [⟨some 32, Go.Op.move (Go.Operand.tmp 5), 3, none⟩,
            ⟨some 33, Go.Op.move (Go.Operand.tmp 0), 9, none⟩,
            ⟨some 34, Go.Op.call { callee := Go.Callee.builtin Go.Builtin.len, args := #[Go.Operand.tmp 33], argTypes := #[9] }, 3, none⟩,
            ⟨some 35, Go.Op.binOp Go.BinOp.geq 3 (Go.Operand.tmp 32) (Go.Operand.tmp 34) 3, 4, none⟩,
            ⟨some 31, Go.Op.assign (Go.Operand.tmp 35), 4, none⟩])
          (.cond (Go.Operand.tmp 31)
            (.seq (.region [⟨some 4, Go.Op.assign (Go.Operand.const (Go.Value.int Go.IntKind.i64 (-1))), 3, none⟩])
            .ret)
            (.seq (.region [⟨some 37, Go.Op.move (Go.Operand.tmp 5), 3, none⟩,
              ⟨some 38, Go.Op.load 3 (Go.Operand.global 0), 3, none⟩,
              ⟨some 39, Go.Op.binOp Go.BinOp.leq 3 (Go.Operand.tmp 37) (Go.Operand.tmp 38) 3, 4, none⟩,
              ⟨some 40, Go.Op.move (Go.Operand.tmp 39), 4, none⟩,
              ⟨some 41, Go.Op.move (Go.Operand.tmp 0), 9, (some (40, true))⟩,
              ⟨some 42, Go.Op.call { callee := Go.Callee.builtin Go.Builtin.len, args := #[Go.Operand.tmp 41], argTypes := #[9] }, 3, (some (40, true))⟩,
              ⟨some 43, Go.Op.binOp Go.BinOp.leq 3 (Go.Operand.tmp 42) (Go.Operand.const (Go.Value.int Go.IntKind.i64 64)) 3, 4, (some (40, true))⟩,
              ⟨some 44, Go.Op.pick (Go.Operand.tmp 40) (Go.Operand.tmp 43) (Go.Operand.const (Go.Value.bool false)), 4, none⟩,
              ⟨some 36, Go.Op.assign (Go.Operand.tmp 44), 4, none⟩])
            (.cond (Go.Operand.tmp 36)
              (.seq (.region [⟨some 45, Go.Op.move (Go.Operand.tmp 0), 9, none⟩,
                ⟨some 46, Go.Op.move (Go.Operand.tmp 1), 9, none⟩,
                ⟨some 47, Go.Op.call { callee := Go.Callee.value (Go.Operand.func 44), args := #[Go.Operand.tmp 45, Go.Operand.tmp 46], argTypes := #[9, 9] }, 3, none⟩,
                ⟨some 4, Go.Op.assign (Go.Operand.tmp 47), 3, none⟩])
              .ret)
              .skip)))))))))
    (.seq (.region [⟨some 48, Go.Op.move (Go.Operand.tmp 1), 9, none⟩,
      ⟨some 49, Go.Op.index 9 (Go.Operand.tmp 48) (Go.Operand.const (Go.Value.int Go.IntKind.i64 0)), 5, none⟩,
      ⟨some 6, Go.Op.assign (Go.Operand.tmp 49), 5, none⟩])
    (.seq (.region [⟨some 50, Go.Op.move (Go.Operand.tmp 1), 9, none⟩,
      ⟨some 51, Go.Op.index 9 (Go.Operand.tmp 50) (Go.Operand.const (Go.Value.int Go.IntKind.i64 1)), 5, none⟩,
      ⟨some 7, Go.Op.assign (Go.Operand.tmp 51), 5, none⟩])
    (.seq (.region [⟨some 8, Go.Op.assign (Go.Operand.const (Go.Value.int Go.IntKind.i64 0)), 3, none⟩])
    (.seq (.region [⟨some 52, Go.Op.move (Go.Operand.tmp 0), 9, none⟩,
      ⟨some 53, Go.Op.call { callee := Go.Callee.builtin Go.Builtin.len, args := #[Go.Operand.tmp 52], argTypes := #[9] }, 3, none⟩,
      ⟨some 54, Go.Op.move (Go.Operand.tmp 5), 3, none⟩,
      ⟨some 55, Go.Op.binOp Go.BinOp.sub 3 (Go.Operand.tmp 53) (Go.Operand.tmp 54) 3, 3, none⟩,
      ⟨some 56, Go.Op.binOp Go.BinOp.add 3 (Go.Operand.tmp 55) (Go.Operand.const (Go.Value.int Go.IntKind.i64 1)) 3, 3, none⟩,
      ⟨some 9, Go.Op.assign (Go.Operand.tmp 56), 3, none⟩])
    (.seq (.region [⟨some 10, Go.Op.assign (Go.Operand.const (Go.Value.int Go.IntKind.i64 0)), 3, none⟩])
    (.seq (.block 1
      (.loop
        (.seq (.seq (.region [⟨some 57, Go.Op.move (Go.Operand.tmp 8), 3, none⟩,
          ⟨some 58, Go.Op.move (Go.Operand.tmp 9), 3, none⟩,
          ⟨some 59, Go.Op.binOp Go.BinOp.lss 3 (Go.Operand.tmp 57) (Go.Operand.tmp 58) 3, 4, none⟩])
        (.cond (Go.Operand.tmp 59)
          .skip
          (.exit 1)))
        (.block 2
          (.seq (.seq (.region [⟨some 60, Go.Op.move (Go.Operand.tmp 0), 9, none⟩,
            ⟨some 61, Go.Op.move (Go.Operand.tmp 8), 3, none⟩,
            ⟨some 62, Go.Op.index 9 (Go.Operand.tmp 60) (Go.Operand.tmp 61), 5, none⟩,
            ⟨some 63, Go.Op.move (Go.Operand.tmp 6), 5, none⟩,
            ⟨some 64, Go.Op.binOp Go.BinOp.neq 5 (Go.Operand.tmp 62) (Go.Operand.tmp 63) 5, 4, none⟩])
          (.cond (Go.Operand.tmp 64)
            (.seq (.region [⟨some 65, Go.Op.move (Go.Operand.tmp 0), 9, none⟩,
              ⟨some 66, Go.Op.move (Go.Operand.tmp 8), 3, none⟩,
              ⟨some 67, Go.Op.binOp Go.BinOp.add 3 (Go.Operand.tmp 66) (Go.Operand.const (Go.Value.int Go.IntKind.i64 1)) 3, 3, none⟩,
              ⟨some 68, Go.Op.move (Go.Operand.tmp 9), 3, none⟩,
              ⟨some 69, Go.Op.slice 9 (Go.Operand.tmp 65) (some (Go.Operand.tmp 67)) (some (Go.Operand.tmp 68)) none, 9, none⟩,
              ⟨some 70, Go.Op.move (Go.Operand.tmp 6), 5, none⟩,
              ⟨some 71, Go.Op.call { callee := Go.Callee.value (Go.Operand.func 43), args := #[Go.Operand.tmp 69, Go.Operand.tmp 70], argTypes := #[9, 5] }, 3, none⟩,
              ⟨some 11, Go.Op.assign (Go.Operand.tmp 71), 3, none⟩])
            (.seq (.seq (.region [⟨some 72, Go.Op.move (Go.Operand.tmp 11), 3, none⟩,
              ⟨some 73, Go.Op.binOp Go.BinOp.lss 3 (Go.Operand.tmp 72) (Go.Operand.const (Go.Value.int Go.IntKind.i64 0)) 3, 4, none⟩])
            (.cond (Go.Operand.tmp 73)
              (.seq (.region [⟨some 4, Go.Op.assign (Go.Operand.const (Go.Value.int Go.IntKind.i64 (-1))), 3, none⟩])
              .ret)
              .skip))
            (.region [⟨some 74, Go.Op.move (Go.Operand.tmp 8), 3, none⟩,
              ⟨some 75, Go.Op.move (Go.Operand.tmp 11), 3, none⟩,
              ⟨some 76, Go.Op.binOp Go.BinOp.add 3 (Go.Operand.tmp 75) (Go.Operand.const (Go.Value.int Go.IntKind.i64 1)) 3, 3, none⟩,
              ⟨some 77, Go.Op.binOp Go.BinOp.add 3 (Go.Operand.tmp 74) (Go.Operand.tmp 76) 3, 3, none⟩,
              ⟨some 8, Go.Op.assign (Go.Operand.tmp 77), 3, none⟩])))
            .skip))
          (.seq (.seq (.region [⟨some 78, Go.Op.move (Go.Operand.tmp 0), 9, none⟩,
            ⟨some 79, Go.Op.move (Go.Operand.tmp 8), 3, none⟩,
            ⟨some 80, Go.Op.binOp Go.BinOp.add 3 (Go.Operand.tmp 79) (Go.Operand.const (Go.Value.int Go.IntKind.i64 1)) 3, 3, none⟩,
            ⟨some 81, Go.Op.index 9 (Go.Operand.tmp 78) (Go.Operand.tmp 80), 5, none⟩,
            ⟨some 82, Go.Op.move (Go.Operand.tmp 7), 5, none⟩,
            ⟨some 83, Go.Op.binOp Go.BinOp.eql 5 (Go.Operand.tmp 81) (Go.Operand.tmp 82) 5, 4, none⟩,
            ⟨some 84, Go.Op.move (Go.Operand.tmp 83), 4, none⟩,
            ⟨some 85, Go.Op.move (Go.Operand.tmp 0), 9, (some (84, true))⟩,
            ⟨some 86, Go.Op.move (Go.Operand.tmp 8), 3, (some (84, true))⟩,
            ⟨some 87, Go.Op.move (Go.Operand.tmp 8), 3, (some (84, true))⟩,
            ⟨some 88, Go.Op.move (Go.Operand.tmp 5), 3, (some (84, true))⟩,
            ⟨some 89, Go.Op.binOp Go.BinOp.add 3 (Go.Operand.tmp 87) (Go.Operand.tmp 88) 3, 3, (some (84, true))⟩,
            ⟨some 90, Go.Op.slice 9 (Go.Operand.tmp 85) (some (Go.Operand.tmp 86)) (some (Go.Operand.tmp 89)) none, 9, (some (84, true))⟩,
            ⟨some 91, Go.Op.move (Go.Operand.tmp 1), 9, (some (84, true))⟩,
            ⟨some 92, Go.Op.binOp Go.BinOp.eql 9 (Go.Operand.tmp 90) (Go.Operand.tmp 91) 9, 4, (some (84, true))⟩,
            ⟨some 93, Go.Op.pick (Go.Operand.tmp 84) (Go.Operand.tmp 92) (Go.Operand.const (Go.Value.bool false)), 4, none⟩])
          (.cond (Go.Operand.tmp 93)
            (.seq (.region [⟨some 94, Go.Op.move (Go.Operand.tmp 8), 3, none⟩,
              ⟨some 4, Go.Op.assign (Go.Operand.tmp 94), 3, none⟩])
            .ret)
            .skip))
          (.seq (.region [⟨some 95, Go.Op.move (Go.Operand.tmp 8), 3, none⟩,
            ⟨some 96, Go.Op.binOp Go.BinOp.add 3 (Go.Operand.tmp 95) (Go.Operand.const (Go.Value.int Go.IntKind.i64 1)) 3, 3, none⟩,
            ⟨some 8, Go.Op.assign (Go.Operand.tmp 96), 3, none⟩])
          (.seq (.region [⟨some 97, Go.Op.move (Go.Operand.tmp 10), 3, none⟩,
            ⟨some 98, Go.Op.binOp Go.BinOp.add 3 (Go.Operand.tmp 97) (Go.Operand.const (Go.Value.int Go.IntKind.i64 1)) 3, 3, none⟩,
            ⟨some 10, Go.Op.assign (Go.Operand.tmp 98), 3, none⟩])
          (.seq (.region [⟨some 99, Go.Op.move (Go.Operand.tmp 5), 3, none⟩,
            ⟨some 100, Go.Op.load 3 (Go.Operand.global 0), 3, none⟩,
            ⟨some 101, Go.Op.binOp Go.BinOp.leq 3 (Go.Operand.tmp 99) (Go.Operand.tmp 100) 3, 4, none⟩,
            ⟨some 102, Go.Op.move (Go.Operand.tmp 101), 4, none⟩,
            ⟨some 103, Go.Op.move (Go.Operand.tmp 10), 3, (some (102, true))⟩,
            ⟨some 104, Go.Op.move (Go.Operand.tmp 8), 3, (some (102, true))⟩,
            ⟨some 105, Go.Op.call { callee := Go.Callee.value (Go.Operand.func 45), args := #[Go.Operand.tmp 104], argTypes := #[3] }, 3, (some (102, true))⟩,
            ⟨some 106, Go.Op.binOp Go.BinOp.gtr 3 (Go.Operand.tmp 103) (Go.Operand.tmp 105) 3, 4, (some (102, true))⟩,
            ⟨some 107, Go.Op.pick (Go.Operand.tmp 102) (Go.Operand.tmp 106) (Go.Operand.const (Go.Value.bool false)), 4, none⟩])
          (.cond (Go.Operand.tmp 107)
            (.seq (.region [⟨some 108, Go.Op.move (Go.Operand.tmp 0), 9, none⟩,
              ⟨some 109, Go.Op.move (Go.Operand.tmp 8), 3, none⟩,
              ⟨some 110, Go.Op.slice 9 (Go.Operand.tmp 108) (some (Go.Operand.tmp 109)) none none, 9, none⟩,
              ⟨some 111, Go.Op.move (Go.Operand.tmp 1), 9, none⟩,
              ⟨some 112, Go.Op.call { callee := Go.Callee.value (Go.Operand.func 44), args := #[Go.Operand.tmp 110, Go.Operand.tmp 111], argTypes := #[9, 9] }, 3, none⟩,
              ⟨some 12, Go.Op.assign (Go.Operand.tmp 112), 3, none⟩])
            (.seq (.seq (.region [⟨some 113, Go.Op.move (Go.Operand.tmp 12), 3, none⟩,
              ⟨some 114, Go.Op.binOp Go.BinOp.geq 3 (Go.Operand.tmp 113) (Go.Operand.const (Go.Value.int Go.IntKind.i64 0)) 3, 4, none⟩])
            (.cond (Go.Operand.tmp 114)
              (.seq (.region [⟨some 115, Go.Op.move (Go.Operand.tmp 12), 3, none⟩,
                ⟨some 116, Go.Op.move (Go.Operand.tmp 8), 3, none⟩,
                ⟨some 117, Go.Op.binOp Go.BinOp.add 3 (Go.Operand.tmp 115) (Go.Operand.tmp 116) 3, 3, none⟩,
                ⟨some 4, Go.Op.assign (Go.Operand.tmp 117), 3, none⟩])
              .ret)
              .skip))
            (.seq (.region [⟨some 4, Go.Op.assign (Go.Operand.const (Go.Value.int Go.IntKind.i64 (-1))), 3, none⟩])
            .ret)))
            (.seq (.region [⟨some 118, Go.Op.move (Go.Operand.tmp 5), 3, none⟩,
              ⟨some 119, Go.Op.load 3 (Go.Operand.global 0), 3, none⟩,
              ⟨some 120, Go.Op.binOp Go.BinOp.gtr 3 (Go.Operand.tmp 118) (Go.Operand.tmp 119) 3, 4, none⟩,
              ⟨some 121, Go.Op.move (Go.Operand.tmp 120), 4, none⟩,
              ⟨some 122, Go.Op.move (Go.Operand.tmp 10), 3, (some (121, true))⟩,
              ⟨some 123, Go.Op.move (Go.Operand.tmp 8), 3, (some (121, true))⟩,
              ⟨some 124, Go.Op.binOp Go.BinOp.shr 3 (Go.Operand.tmp 123) (Go.Operand.const (Go.Value.int Go.IntKind.u64 4)) 65, 3, (some (121, true))⟩,
              ⟨some 125, Go.Op.binOp Go.BinOp.add 3 (Go.Operand.const (Go.Value.int Go.IntKind.i64 4)) (Go.Operand.tmp 124) 3, 3, (some (121, true))⟩,
              ⟨some 126, Go.Op.binOp Go.BinOp.geq 3 (Go.Operand.tmp 122) (Go.Operand.tmp 125) 3, 4, (some (121, true))⟩,
              ⟨some 127, Go.Op.pick (Go.Operand.tmp 121) (Go.Operand.tmp 126) (Go.Operand.const (Go.Value.bool false)), 4, none⟩,
              ⟨some 128, Go.Op.move (Go.Operand.tmp 127), 4, none⟩,
              ⟨some 129, Go.Op.move (Go.Operand.tmp 8), 3, (some (128, true))⟩,
              ⟨some 130, Go.Op.move (Go.Operand.tmp 9), 3, (some (128, true))⟩,
              ⟨some 131, Go.Op.binOp Go.BinOp.lss 3 (Go.Operand.tmp 129) (Go.Operand.tmp 130) 3, 4, (some (128, true))⟩,
              ⟨some 132, Go.Op.pick (Go.Operand.tmp 128) (Go.Operand.tmp 131) (Go.Operand.const (Go.Value.bool false)), 4, none⟩])
            (.cond (Go.Operand.tmp 132)
              (.seq (.region [⟨some 133, Go.Op.move (Go.Operand.tmp 0), 9, none⟩,
                ⟨some 134, Go.Op.move (Go.Operand.tmp 8), 3, none⟩,
                ⟨some 135, Go.Op.slice 9 (Go.Operand.tmp 133) (some (Go.Operand.tmp 134)) none none, 9, none⟩,
                ⟨some 136, Go.Op.move (Go.Operand.tmp 1), 9, none⟩,
                ⟨some 137, Go.Op.call { callee := Go.Callee.value (Go.Operand.func 46), args := #[Go.Operand.tmp 135, Go.Operand.tmp 136], argTypes := #[9, 9] }, 3, none⟩,
                ⟨some 13, Go.Op.assign (Go.Operand.tmp 137), 3, none⟩])
              (.seq (.seq (.region [⟨some 138, Go.Op.move (Go.Operand.tmp 13), 3, none⟩,
                ⟨some 139, Go.Op.binOp Go.BinOp.lss 3 (Go.Operand.tmp 138) (Go.Operand.const (Go.Value.int Go.IntKind.i64 0)) 3, 4, none⟩])
              (.cond (Go.Operand.tmp 139)
                (.seq (.region [⟨some 4, Go.Op.assign (Go.Operand.const (Go.Value.int Go.IntKind.i64 (-1))), 3, none⟩])
                .ret)
                .skip))
              (.seq (.region [⟨some 140, Go.Op.move (Go.Operand.tmp 8), 3, none⟩,
                ⟨some 141, Go.Op.move (Go.Operand.tmp 13), 3, none⟩,
                ⟨some 142, Go.Op.binOp Go.BinOp.add 3 (Go.Operand.tmp 140) (Go.Operand.tmp 141) 3, 3, none⟩,
                ⟨some 4, Go.Op.assign (Go.Operand.tmp 142), 3, none⟩])
              .ret)))
              .skip))))))))))))
    (.seq (.region [⟨some 4, Go.Op.assign (Go.Operand.const (Go.Value.int Go.IntKind.i64 (-1))), 3, none⟩])
    .ret)))))))))) :=
  ⟨foll, Try.f41, Try.func41, by kernel_rfl, by kernel_rfl, by kernel_rfl, by rw [Try.ntmps41]; decide⟩

/-- internal.stringslite.IndexByte -/
theorem fn43 : FnIs Try.prog 43 2 [Go.ResultVar.tmp 4] (.seq (.region [⟨some 4, Go.Op.assign (Go.Operand.const (Go.Value.int Go.IntKind.i64 0)), 3, none⟩])
    (.seq (.region [⟨some 5, Go.Op.move (Go.Operand.tmp 0), 9, none⟩,
      ⟨some 6, Go.Op.move (Go.Operand.tmp 1), 5, none⟩,
      ⟨some 7, Go.Op.call { callee := Go.Callee.value (Go.Operand.func 47), args := #[Go.Operand.tmp 5, Go.Operand.tmp 6], argTypes := #[9, 5] }, 3, none⟩,
      ⟨some 4, Go.Op.assign (Go.Operand.tmp 7), 3, none⟩])
    .ret)) :=
  ⟨foll, Try.f43, Try.func43, by kernel_rfl, by kernel_rfl, by kernel_rfl, by rw [Try.ntmps43]; decide⟩

/-- internal.bytealg.Cutover -/
theorem fn45 : FnIs Try.prog 45 1 [Go.ResultVar.tmp 2] (.seq (.region [⟨some 2, Go.Op.assign (Go.Operand.const (Go.Value.int Go.IntKind.i64 0)), 3, none⟩])
    (.seq (.region [⟨some 3, Go.Op.move (Go.Operand.tmp 0), 3, none⟩,
      ⟨some 4, Go.Op.binOp Go.BinOp.add 3 (Go.Operand.tmp 3) (Go.Operand.const (Go.Value.int Go.IntKind.i64 16)) 3, 3, none⟩,
      ⟨some 5, Go.Op.binOp Go.BinOp.quo 3 (Go.Operand.tmp 4) (Go.Operand.const (Go.Value.int Go.IntKind.i64 8)) 3, 3, none⟩,
      ⟨some 2, Go.Op.assign (Go.Operand.tmp 5), 3, none⟩])
    .ret)) :=
  ⟨foll, Try.f45, Try.func45, by kernel_rfl, by kernel_rfl, by kernel_rfl, by rw [Try.ntmps45]; decide⟩

/-- internal.bytealg.IndexRabinKarp[string] -/
theorem fn46 : FnIs Try.prog 46 2 [Go.ResultVar.tmp 4] (.seq (.region [⟨some 4, Go.Op.assign (Go.Operand.const (Go.Value.int Go.IntKind.i64 0)), 3, none⟩])
    (.seq (.region [⟨some 12, Go.Op.move (Go.Operand.tmp 1), 9, none⟩,
      ⟨some 13, Go.Op.call { callee := Go.Callee.value (Go.Operand.func 48), args := #[Go.Operand.tmp 12], argTypes := #[9] }, 67, none⟩,
      ⟨some 11, Go.Op.move (Go.Operand.tmp 13), 67, none⟩,
      ⟨some 14, Go.Op.extract (Go.Operand.tmp 11) 0, 66, none⟩,
      ⟨some 15, Go.Op.extract (Go.Operand.tmp 11) 1, 66, none⟩,
      ⟨some 5, Go.Op.assign (Go.Operand.tmp 14), 66, none⟩,
      ⟨some 6, Go.Op.assign (Go.Operand.tmp 15), 66, none⟩])
    (.seq (.region [⟨some 16, Go.Op.move (Go.Operand.tmp 1), 9, none⟩,
      ⟨some 17, Go.Op.call { callee := Go.Callee.builtin Go.Builtin.len, args := #[Go.Operand.tmp 16], argTypes := #[9] }, 3, none⟩,
      ⟨some 7, Go.Op.assign (Go.Operand.tmp 17), 3, none⟩])
    (.seq (.region [⟨some 8, Go.Op.assign (Go.Operand.const (Go.Value.int Go.IntKind.u32 0)), 66, none⟩])
    (.seq (.seq (.region [⟨some 9, Go.Op.assign (Go.Operand.const (Go.Value.int Go.IntKind.i64 0)), 3, none⟩])
    (.block 0
      (.loop
        (.seq (.seq (.region [⟨some 18, Go.Op.move (Go.Operand.tmp 9), 3, none⟩,
          ⟨some 19, Go.Op.move (Go.Operand.tmp 7), 3, none⟩,
          ⟨some 20, Go.Op.binOp Go.BinOp.lss 3 (Go.Operand.tmp 18) (Go.Operand.tmp 19) 3, 4, none⟩])
        (.cond (Go.Operand.tmp 20)
          .skip
          (.exit 0)))
        (.seq (.block 1
          (.region [⟨some 23, Go.Op.move (Go.Operand.tmp 8), 66, none⟩,
            ⟨some 24, Go.Op.binOp Go.BinOp.mul 66 (Go.Operand.tmp 23) (Go.Operand.const (Go.Value.int Go.IntKind.u32 16777619)) 66, 66, none⟩,
            ⟨some 25, Go.Op.move (Go.Operand.tmp 0), 9, none⟩,
            ⟨some 26, Go.Op.move (Go.Operand.tmp 9), 3, none⟩,
            ⟨some 27, Go.Op.index 9 (Go.Operand.tmp 25) (Go.Operand.tmp 26), 5, none⟩,
            ⟨some 28, Go.Op.convert 5 66 (Go.Operand.tmp 27), 66, none⟩,
            ⟨some 29, Go.Op.binOp Go.BinOp.add 66 (Go.Operand.tmp 24) (Go.Operand.tmp 28) 66, 66, none⟩,
            ⟨some 8, Go.Op.assign (Go.Operand.tmp 29), 66, none⟩]))
        (.region [⟨some 21, Go.Op.move (Go.Operand.tmp 9), 3, none⟩,
          ⟨some 22, Go.Op.binOp Go.BinOp.add 3 (Go.Operand.tmp 21) (Go.Operand.const (Go.Value.int Go.IntKind.i64 1)) 3, 3, none⟩,
          ⟨some 9, Go.Op.assign (Go.Operand.tmp 22), 3, none⟩]))))))
    (.seq (.seq (.region [⟨some 30, Go.Op.move (Go.Operand.tmp 8), 66, none⟩,
      ⟨some 31, Go.Op.move (Go.Operand.tmp 5), 66, none⟩,
      ⟨some 32, Go.Op.binOp Go.BinOp.eql 66 (Go.Operand.tmp 30) (Go.Operand.tmp 31) 66, 4, none⟩,
      ⟨some 33, Go.Op.move (Go.Operand.tmp 32), 4, none⟩,
      ⟨some 34, Go.Op.move (Go.Operand.tmp 0), 9, (some (33, true))⟩,
      ⟨some 35, Go.Op.move (Go.Operand.tmp 7), 3, (some (33, true))⟩,
      ⟨some 36, Go.Op.slice 9 (Go.Operand.tmp 34) none (some (Go.Operand.tmp 35)) none, 9, (some (33, true))⟩,
      ⟨some 37, Go.Op.move (Go.Operand.tmp 1), 9, (some (33, true))⟩,
      ⟨some 38, Go.Op.binOp Go.BinOp.eql 9 (Go.Operand.tmp 36) (Go.Operand.tmp 37) 9, 4, (some (33, true))⟩,
      ⟨some 39, Go.Op.pick (Go.Operand.tmp 33) (Go.Operand.tmp 38) (Go.Operand.const (Go.Value.bool false)), 4, none⟩])
    (.cond (Go.Operand.tmp 39)
      (.seq (.region [⟨some 4, Go.Op.assign (Go.Operand.const (Go.Value.int Go.IntKind.i64 0)), 3, none⟩])
      .ret)
      .skip))
    (.seq (.seq (.region [⟨some 40, Go.Op.move (Go.Operand.tmp 7), 3, none⟩,
      ⟨some 10, Go.Op.assign (Go.Operand.tmp 40), 3, none⟩])
    (.block 2
      (.loop
        (.seq (.seq (.region [⟨some 41, Go.Op.move (Go.Operand.tmp 10), 3, none⟩,
          ⟨some 42, Go.Op.move (Go.Operand.tmp 0), 9, none⟩,
          ⟨some 43, Go.Op.call { callee := Go.Callee.builtin Go.Builtin.len, args := #[Go.Operand.tmp 42], argTypes := #[9] }, 3, none⟩,
          ⟨some 44, Go.Op.binOp Go.BinOp.lss 3 (Go.Operand.tmp 41) (Go.Operand.tmp 43) 3, 4, none⟩])
        (.cond (Go.Operand.tmp 44)
          .skip
          (.exit 2)))
        (.block 3
          (.seq (.region [⟨some 45, Go.Op.move (Go.Operand.tmp 8), 66, none⟩,
            ⟨some 46, Go.Op.binOp Go.BinOp.mul 66 (Go.Operand.tmp 45) (Go.Operand.const (Go.Value.int Go.IntKind.u32 16777619)) 66, 66, none⟩,
            ⟨some 8, Go.Op.assign (Go.Operand.tmp 46), 66, none⟩])
          (.seq (.region [⟨some 47, Go.Op.move (Go.Operand.tmp 8), 66, none⟩,
            ⟨some 48, Go.Op.move (Go.Operand.tmp 0), 9, none⟩,
            ⟨some 49, Go.Op.move (Go.Operand.tmp 10), 3, none⟩,
            ⟨some 50, Go.Op.index 9 (Go.Operand.tmp 48) (Go.Operand.tmp 49), 5, none⟩,
            ⟨some 51, Go.Op.convert 5 66 (Go.Operand.tmp 50), 66, none⟩,
            ⟨some 52, Go.Op.binOp Go.BinOp.add 66 (Go.Operand.tmp 47) (Go.Operand.tmp 51) 66, 66, none⟩,
            ⟨some 8, Go.Op.assign (Go.Operand.tmp 52), 66, none⟩])
          (.seq (.region [⟨some 53, Go.Op.move (Go.Operand.tmp 8), 66, none⟩,
            ⟨some 54, Go.Op.move (Go.Operand.tmp 6), 66, none⟩,
            ⟨some 55, Go.Op.move (Go.Operand.tmp 0), 9, none⟩,
            ⟨some 56, Go.Op.move (Go.Operand.tmp 10), 3, none⟩,
            ⟨some 57, Go.Op.move (Go.Operand.tmp 7), 3, none⟩,
            ⟨some 58, Go.Op.binOp Go.BinOp.sub 3 (Go.Operand.tmp 56) (Go.Operand.tmp 57) 3, 3, none⟩,
            ⟨some 59, Go.Op.index 9 (Go.Operand.tmp 55) (Go.Operand.tmp 58), 5, none⟩,
            ⟨some 60, Go.Op.convert 5 66 (Go.Operand.tmp 59), 66, none⟩,
            ⟨some 61, Go.Op.binOp Go.BinOp.mul 66 (Go.Operand.tmp 54) (Go.Operand.tmp 60) 66, 66, none⟩,
            ⟨some 62, Go.Op.binOp Go.BinOp.sub 66 (Go.Operand.tmp 53) (Go.Operand.tmp 61) 66, 66, none⟩,
            ⟨some 8, Go.Op.assign (Go.Operand.tmp 62), 66, none⟩])
          (.seq (.region [⟨some 63, Go.Op.move (Go.Operand.tmp 10), 3, none⟩,
            ⟨some 64, Go.Op.binOp Go.BinOp.add 3 (Go.Operand.tmp 63) (Go.Operand.const (Go.Value.int Go.IntKind.i64 1)) 3, 3, none⟩,
            ⟨some 10, Go.Op.assign (Go.Operand.tmp 64), 3, none⟩])
          (.seq (.region [⟨some 65, Go.Op.move (Go.Operand.tmp 8), 66, none⟩,
            ⟨some 66, Go.Op.move (Go.Operand.tmp 5), 66, none⟩,
            ⟨some 67, Go.Op.binOp Go.BinOp.eql 66 (Go.Operand.tmp 65) (Go.Operand.tmp 66) 66, 4, none⟩,
            ⟨some 68, Go.Op.move (Go.Operand.tmp 67), 4, none⟩,
            ⟨some 69, Go.Op.move (Go.Operand.tmp 0), 9, (some (68, true))⟩,
            ⟨some 70, Go.Op.move (Go.Operand.tmp 10), 3, (some (68, true))⟩,
            ⟨some 71, Go.Op.move (Go.Operand.tmp 7), 3, (some (68, true))⟩,
            ⟨some 72, Go.Op.binOp Go.BinOp.sub 3 (Go.Operand.tmp 70) (Go.Operand.tmp 71) 3, 3, (some (68, true))⟩,
            ⟨some 73, Go.Op.move (Go.Operand.tmp 10), 3, (some (68, true))⟩,
            ⟨some 74, Go.Op.slice 9 (Go.Operand.tmp 69) (some (Go.Operand.tmp 72)) (some (Go.Operand.tmp 73)) none, 9, (some (68, true))⟩,
            ⟨some 75, Go.Op.move (Go.Operand.tmp 1), 9, (some (68, true))⟩,
            ⟨some 76, Go.Op.binOp Go.BinOp.eql 9 (Go.Operand.tmp 74) (Go.Operand.tmp 75) 9, 4, (some (68, true))⟩,
            ⟨some 77, Go.Op.pick (Go.Operand.tmp 68) (Go.Operand.tmp 76) (Go.Operand.const (Go.Value.bool false)), 4, none⟩])
          (.cond (Go.Operand.tmp 77)
            (.seq (.region [⟨some 78, Go.Op.move (Go.Operand.tmp 10), 3, none⟩,
              ⟨some 79, Go.Op.move (Go.Operand.tmp 7), 3, none⟩,
              ⟨some 80, Go.Op.binOp Go.BinOp.sub 3 (Go.Operand.tmp 78) (Go.Operand.tmp 79) 3, 3, none⟩,
              ⟨some 4, Go.Op.assign (Go.Operand.tmp 80), 3, none⟩])
            .ret)
            .skip)))))))))))
    (.seq (.region [⟨some 4, Go.Op.assign (Go.Operand.const (Go.Value.int Go.IntKind.i64 (-1))), 3, none⟩])
    .ret)))))))) :=
  ⟨foll, Try.f46, Try.func46, by kernel_rfl, by kernel_rfl, by kernel_rfl, by rw [Try.ntmps46]; decide⟩

/-- internal.bytealg.hashStr[string] -/
theorem fn48 : FnIs Try.prog 48 1 [Go.ResultVar.tmp 2, Go.ResultVar.tmp 3] (.seq (.region [⟨some 2, Go.Op.assign (Go.Operand.const (Go.Value.int Go.IntKind.u32 0)), 66, none⟩,
      ⟨some 3, Go.Op.assign (Go.Operand.const (Go.Value.int Go.IntKind.u32 0)), 66, none⟩])
    (.seq (.region [⟨some 4, Go.Op.assign (Go.Operand.const (Go.Value.int Go.IntKind.u32 0)), 66, none⟩])
    (.seq (.seq (.region [⟨some 5, Go.Op.assign (Go.Operand.const (Go.Value.int Go.IntKind.i64 0)), 3, none⟩])
    (.block 0
      (.loop
        (.seq (.seq (.region [⟨some 9, Go.Op.move (Go.Operand.tmp 5), 3, none⟩,
          ⟨some 10, Go.Op.move (Go.Operand.tmp 0), 9, none⟩,
          ⟨some 11, Go.Op.call { callee := Go.Callee.builtin Go.Builtin.len, args := #[Go.Operand.tmp 10], argTypes := #[9] }, 3, none⟩,
          ⟨some 12, Go.Op.binOp Go.BinOp.lss 3 (Go.Operand.tmp 9) (Go.Operand.tmp 11) 3, 4, none⟩])
        (.cond (Go.Operand.tmp 12)
          .skip
          (.exit 0)))
        (.seq (.block 1
          (.region [⟨some 15, Go.Op.move (Go.Operand.tmp 4), 66, none⟩,
            ⟨some 16, Go.Op.binOp Go.BinOp.mul 66 (Go.Operand.tmp 15) (Go.Operand.const (Go.Value.int Go.IntKind.u32 16777619)) 66, 66, none⟩,
            ⟨some 17, Go.Op.move (Go.Operand.tmp 0), 9, none⟩,
            ⟨some 18, Go.Op.move (Go.Operand.tmp 5), 3, none⟩,
            ⟨some 19, Go.Op.index 9 (Go.Operand.tmp 17) (Go.Operand.tmp 18), 5, none⟩,
            ⟨some 20, Go.Op.convert 5 66 (Go.Operand.tmp 19), 66, none⟩,
            ⟨some 21, Go.Op.binOp Go.BinOp.add 66 (Go.Operand.tmp 16) (Go.Operand.tmp 20) 66, 66, none⟩,
            ⟨some 4, Go.Op.assign (Go.Operand.tmp 21), 66, none⟩]))
        (.region [⟨some 13, Go.Op.move (Go.Operand.tmp 5), 3, none⟩,
          ⟨some 14, Go.Op.binOp Go.BinOp.add 3 (Go.Operand.tmp 13) (Go.Operand.const (Go.Value.int Go.IntKind.i64 1)) 3, 3, none⟩,
          ⟨some 5, Go.Op.assign (Go.Operand.tmp 14), 3, none⟩]))))))
    (.seq (.region [⟨some 6, Go.Op.assign (Go.Operand.const (Go.Value.int Go.IntKind.u32 1)), 66, none⟩,
      ⟨some 7, Go.Op.assign (Go.Operand.const (Go.Value.int Go.IntKind.u32 16777619)), 66, none⟩])
    (.seq (.seq (.region [⟨some 22, Go.Op.move (Go.Operand.tmp 0), 9, none⟩,
      ⟨some 23, Go.Op.call { callee := Go.Callee.builtin Go.Builtin.len, args := #[Go.Operand.tmp 22], argTypes := #[9] }, 3, none⟩,
      ⟨some 8, Go.Op.assign (Go.Operand.tmp 23), 3, none⟩])
    (.block 2
      (.loop
        (.seq (.seq (.region [⟨some 24, Go.Op.move (Go.Operand.tmp 8), 3, none⟩,
          ⟨some 25, Go.Op.binOp Go.BinOp.gtr 3 (Go.Operand.tmp 24) (Go.Operand.const (Go.Value.int Go.IntKind.i64 0)) 3, 4, none⟩])
        (.cond (Go.Operand.tmp 25)
          .skip
          (.exit 2)))
        (.seq (.block 3
          (.seq (.seq (.region [⟨some 28, Go.Op.move (Go.Operand.tmp 8), 3, none⟩,
            ⟨some 29, Go.Op.binOp Go.BinOp.and 3 (Go.Operand.tmp 28) (Go.Operand.const (Go.Value.int Go.IntKind.i64 1)) 3, 3, none⟩,
            ⟨some 30, Go.Op.binOp Go.BinOp.neq 3 (Go.Operand.tmp 29) (Go.Operand.const (Go.Value.int Go.IntKind.i64 0)) 3, 4, none⟩])
          (.cond (Go.Operand.tmp 30)
            (.region [⟨some 31, Go.Op.move (Go.Operand.tmp 6), 66, none⟩,
              ⟨some 32, Go.Op.move (Go.Operand.tmp 7), 66, none⟩,
              ⟨some 33, Go.Op.binOp Go.BinOp.mul 66 (Go.Operand.tmp 31) (Go.Operand.tmp 32) 66, 66, none⟩,
              ⟨some 6, Go.Op.assign (Go.Operand.tmp 33), 66, none⟩])
            .skip))
          (.region [⟨some 34, Go.Op.move (Go.Operand.tmp 7), 66, none⟩,
            ⟨some 35, Go.Op.move (Go.Operand.tmp 7), 66, none⟩,
            ⟨some 36, Go.Op.binOp Go.BinOp.mul 66 (Go.Operand.tmp 34) (Go.Operand.tmp 35) 66, 66, none⟩,
            ⟨some 7, Go.Op.assign (Go.Operand.tmp 36), 66, none⟩])))
        (.region [⟨some 26, Go.Op.move (Go.Operand.tmp 8), 3, none⟩,
          ⟨some 27, Go.Op.binOp Go.BinOp.shr 3 (Go.Operand.tmp 26) (Go.Operand.const (Go.Value.int Go.IntKind.u64 1)) 65, 3, none⟩,
          ⟨some 8, Go.Op.assign (Go.Operand.tmp 27), 3, none⟩]))))))
    (.seq (.region [⟨some 37, Go.Op.move (Go.Operand.tmp 4), 66, none⟩,
      ⟨some 38, Go.Op.move (Go.Operand.tmp 6), 66, none⟩,
      ⟨some 2, Go.Op.assign (Go.Operand.tmp 37), 66, none⟩,
      ⟨some 3, Go.Op.assign (Go.Operand.tmp 38), 66, none⟩])
    .ret)))))) :=
  ⟨foll, Try.f48, Try.func48, by kernel_rfl, by kernel_rfl, by kernel_rfl, by rw [Try.ntmps48]; decide⟩

end Go.Proofs.Ytoenpoefcmikgaa
