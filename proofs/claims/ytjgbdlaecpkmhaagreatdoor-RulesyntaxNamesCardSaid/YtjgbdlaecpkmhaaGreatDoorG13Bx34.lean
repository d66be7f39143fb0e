/- Part of a proof about the functions of this seat. -/
import Derived.Shelf.Strings.FieldsFuncAny
import Derived.Shelf.Strings.SlTrimAscii
import Derived.Shelf.Strings.Trim
import Derived.Shelf.Small.Wraps
import Derived.Shelf.Strconv.Atoi
import Derived.Shelf.Strings.Count
import Derived.Shelf.Strings.SplitShaped
import Derived.Shelf.Strings.Shaped
import Derived.Shelf.Vars
import Derived.Shelf.LaysM
import Derived.KernelRfl
import Derived.Test.YtjgbdlaecpkmhaaGreatDoorProg
import Derived.Test.YtjgbdlaecpkmhaaGreatDoorG11Rsy
import Derived.Test.YtjgbdlaecpkmhaaGreatDoorG12Rst
import Derived.Shelf.Strings.OnBuilder
import Derived.Shelf.Strings.Replace
import Derived.Test.YtjgbdlaecpkmhaaGreatDoorG10Base34
/- The layings of the library's functions on strings in this program, and their contracts. -/














set_option linter.unusedVariables false
set_option linter.unusedSimpArgs false
set_option maxRecDepth 100000
namespace Go.Proofs.YtjgbdlaecpkmhaaGreatDoor
open Go.Shelf
def Tryz.laysm146_ren : Go.Shelf.Ren := ⟨fun | 146 => 18 | 221 => 33 | 268 => 50 | 138 => 11 | 143 => 25 | 195 => 23 | 197 => 51 | 218 => 24 | 219 => 45 | 260 => 70 | 217 => 59 | 225 => 60 | 224 => 61 | 267 => 62 | 266 => 80 | 314 => 81 | n => n, fun | 9 => 9 | 31 => 37 | 3 => 3 | 4 => 4 | 0 => 0 | 105 => 83 | 21 => 21 | 5 => 5 | 46 => 96 | 119 => 122 | 139 => 125 | 138 => 124 | 146 => 114 | 51 => 113 | n => n, fun | 1 => 0 | 3 => 1 | 4 => 2 | n => n⟩
theorem Tryz.laysm146 : Go.Proofs.LaysM.n146 Tryz.prog Tryz.laysm146_ren where
  mixed := by kernel_rfl
  f138 := Tryz.func11.trans (congrArg some (by kernel_rfl))
  f143 := Tryz.func25.trans (congrArg some (by kernel_rfl))
  f146 := Tryz.func18.trans (congrArg some (by kernel_rfl))
  f195 := Tryz.func23.trans (congrArg some (by kernel_rfl))
  f197 := Tryz.func51.trans (congrArg some (by kernel_rfl))
  f217 := Tryz.func59.trans (congrArg some (by kernel_rfl))
  f218 := Tryz.func24.trans (congrArg some (by kernel_rfl))
  f219 := Tryz.func45.trans (congrArg some (by kernel_rfl))
  f221 := Tryz.func33.trans (congrArg some (by kernel_rfl))
  f224 := Tryz.func61.trans (congrArg some (by kernel_rfl))
  f225 := Tryz.func60.trans (congrArg some (by kernel_rfl))
  f260 := Tryz.func70.trans (congrArg some (by kernel_rfl))
  f266 := Tryz.func80.trans (congrArg some (by kernel_rfl))
  f267 := Tryz.func62.trans (congrArg some (by kernel_rfl))
  f268 := Tryz.func50.trans (congrArg some (by kernel_rfl))
  f314 := Tryz.func81.trans (congrArg some (by kernel_rfl))
  t0 := Tryz.underlying0
  a0 := Tryz.isAgg0
  z0 := Tryz.sizeOf0
  v0 := Tryz.zeroValue0
  t3 := Tryz.underlying3
  a3 := Tryz.isAgg3
  z3 := Tryz.sizeOf3
  v3 := Tryz.zeroValue3
  t4 := Tryz.underlying4
  a4 := Tryz.isAgg4
  z4 := Tryz.sizeOf4
  v4 := Tryz.zeroValue4
  t5 := Tryz.underlying5
  a5 := Tryz.isAgg5
  z5 := Tryz.sizeOf5
  v5 := Tryz.zeroValue5
  t9 := Tryz.underlying9
  a9 := Tryz.isAgg9
  z9 := Tryz.sizeOf9
  v9 := Tryz.zeroValue9
  t21 := Tryz.underlying21
  a21 := Tryz.isAgg21
  z21 := Tryz.sizeOf21
  v21 := Tryz.zeroValue21
  t31 := Tryz.underlying37
  a31 := Tryz.isAgg37
  z31 := Tryz.sizeOf37
  v31 := Tryz.zeroValue37
  t46 := Tryz.underlying96
  a46 := Tryz.isAgg96
  z46 := Tryz.sizeOf96
  v46 := Tryz.zeroValue96
  t51 := Tryz.underlying113
  a51 := Tryz.isAgg113
  z51 := Tryz.sizeOf113
  v51 := Tryz.zeroValue113
  t105 := Tryz.underlying83
  a105 := Tryz.isAgg83
  z105 := Tryz.sizeOf83
  v105 := Tryz.zeroValue83
  t119 := Tryz.underlying122
  a119 := Tryz.isAgg122
  z119 := Tryz.sizeOf122
  t138 := Tryz.underlying124
  a138 := Tryz.isAgg124
  z138 := Tryz.sizeOf124
  v138 := Tryz.zeroValue124
  t139 := Tryz.underlying125
  a139 := Tryz.isAgg125
  z139 := Tryz.sizeOf125
  v139 := Tryz.zeroValue125
  t146 := Tryz.underlying114
  a146 := Tryz.isAgg114
  z146 := Tryz.sizeOf114
  v146 := Tryz.zeroValue114
  g1 := by kernel_rfl
  g3 := by kernel_rfl
  g4 := by kernel_rfl
  i0 := by kernel_rfl
  i3 := by kernel_rfl
  i4 := by kernel_rfl
  i5 := by kernel_rfl
  i9 := by kernel_rfl
  i21 := by kernel_rfl
  i31 := by kernel_rfl
  i46 := by kernel_rfl
  i51 := by kernel_rfl
  i105 := by kernel_rfl
  i138 := by kernel_rfl
  i139 := by kernel_rfl
  i146 := by kernel_rfl
  m1 := by kernel_rfl
  s1_3 := fun w h => Go.Proofs.cell_of_shapedOpen_int (zero := #[.int .i64 0]) (t := 3) h (of_decide_eq_true (by kernel_rfl)) (by kernel_rfl) rfl (by kernel_rfl) (by kernel_rfl) Tryz.underlying3
  m3 := by kernel_rfl
  m4 := by kernel_rfl
def Tryz.laysm145_ren : Go.Shelf.Ren := ⟨fun | 145 => 19 | 220 => 34 | 219 => 45 | 217 => 59 | 225 => 60 | 224 => 61 | 267 => 62 | 266 => 80 | 314 => 81 | n => n, fun | 9 => 9 | 4 => 4 | 59 => 42 | 3 => 3 | 5 => 5 | 46 => 96 | 146 => 114 | 51 => 113 | n => n, fun | 1 => 0 | n => n⟩
theorem Tryz.laysm145 : Go.Proofs.LaysM.n145 Tryz.prog Tryz.laysm145_ren where
  mixed := by kernel_rfl
  f145 := Tryz.func19.trans (congrArg some (by kernel_rfl))
  f217 := Tryz.func59.trans (congrArg some (by kernel_rfl))
  f219 := Tryz.func45.trans (congrArg some (by kernel_rfl))
  f220 := Tryz.func34.trans (congrArg some (by kernel_rfl))
  f224 := Tryz.func61.trans (congrArg some (by kernel_rfl))
  f225 := Tryz.func60.trans (congrArg some (by kernel_rfl))
  f266 := Tryz.func80.trans (congrArg some (by kernel_rfl))
  f267 := Tryz.func62.trans (congrArg some (by kernel_rfl))
  f314 := Tryz.func81.trans (congrArg some (by kernel_rfl))
  t3 := Tryz.underlying3
  a3 := Tryz.isAgg3
  z3 := Tryz.sizeOf3
  v3 := Tryz.zeroValue3
  t4 := Tryz.underlying4
  a4 := Tryz.isAgg4
  z4 := Tryz.sizeOf4
  v4 := Tryz.zeroValue4
  t5 := Tryz.underlying5
  a5 := Tryz.isAgg5
  z5 := Tryz.sizeOf5
  v5 := Tryz.zeroValue5
  t9 := Tryz.underlying9
  a9 := Tryz.isAgg9
  z9 := Tryz.sizeOf9
  v9 := Tryz.zeroValue9
  t46 := Tryz.underlying96
  a46 := Tryz.isAgg96
  z46 := Tryz.sizeOf96
  v46 := Tryz.zeroValue96
  t51 := Tryz.underlying113
  a51 := Tryz.isAgg113
  z51 := Tryz.sizeOf113
  v51 := Tryz.zeroValue113
  t59 := Tryz.underlying42
  a59 := Tryz.isAgg42
  z59 := Tryz.sizeOf42
  v59 := Tryz.zeroValue42
  t146 := Tryz.underlying114
  a146 := Tryz.isAgg114
  z146 := Tryz.sizeOf114
  v146 := Tryz.zeroValue114
  g1 := by kernel_rfl
  i3 := by kernel_rfl
  i4 := by kernel_rfl
  i5 := by kernel_rfl
  i9 := by kernel_rfl
  i46 := by kernel_rfl
  i51 := by kernel_rfl
  i59 := by kernel_rfl
  i146 := by kernel_rfl
  m1 := by kernel_rfl
  s1_3 := fun w h => Go.Proofs.cell_of_shapedOpen_int (zero := #[.int .i64 0]) (t := 3) h (of_decide_eq_true (by kernel_rfl)) (by kernel_rfl) rfl (by kernel_rfl) (by kernel_rfl) Tryz.underlying3
def Tryz.lays229_ren : Go.Shelf.Ren := ⟨fun | 229 => 36 | n => n, fun | 9 => 9 | 40 => 65 | 31 => 37 | 152 => 85 | 3 => 3 | 0 => 0 | 4 => 4 | 21 => 21 | 154 => 87 | n => n, fun | n => n⟩
theorem Tryz.lays229 : Go.Proofs.Lays.n229 Tryz.prog Tryz.lays229_ren where
  mixed := by kernel_rfl
  f229 := Tryz.func36.trans (congrArg some (by kernel_rfl))
  t0 := Tryz.underlying0
  a0 := Tryz.isAgg0
  z0 := Tryz.sizeOf0
  v0 := Tryz.zeroValue0
  t3 := Tryz.underlying3
  a3 := Tryz.isAgg3
  z3 := Tryz.sizeOf3
  v3 := Tryz.zeroValue3
  t4 := Tryz.underlying4
  a4 := Tryz.isAgg4
  z4 := Tryz.sizeOf4
  v4 := Tryz.zeroValue4
  t9 := Tryz.underlying9
  a9 := Tryz.isAgg9
  z9 := Tryz.sizeOf9
  v9 := Tryz.zeroValue9
  t21 := Tryz.underlying21
  a21 := Tryz.isAgg21
  z21 := Tryz.sizeOf21
  v21 := Tryz.zeroValue21
  t31 := Tryz.underlying37
  a31 := Tryz.isAgg37
  z31 := Tryz.sizeOf37
  v31 := Tryz.zeroValue37
  t40 := Tryz.underlying65
  a40 := Tryz.isAgg65
  z40 := Tryz.sizeOf65
  v40 := Tryz.zeroValue65
  t152 := Tryz.underlying85
  a152 := Tryz.isAgg85
  z152 := Tryz.sizeOf85
  v152 := Tryz.zeroValue85
  t154 := Tryz.underlying87
  a154 := Tryz.isAgg87
  z154 := Tryz.sizeOf87
  v154 := Tryz.zeroValue87
def Tryz.lays162_ren : Go.Shelf.Ren := ⟨fun | 162 => 38 | 232 => 52 | 227 => 53 | 234 => 54 | 236 => 55 | 228 => 71 | 271 => 72 | 151 => 73 | 120 => 89 | 197 => 51 | 152 => 90 | 260 => 70 | 137 => 103 | 119 => 104 | 224 => 61 | 225 => 60 | 217 => 59 | 266 => 80 | n => n, fun | 9 => 9 | 4 => 4 | 3 => 3 | 5 => 5 | 117 => 91 | 116 => 90 | 0 => 0 | 124 => 94 | 21 => 21 | 105 => 83 | 46 => 96 | 119 => 122 | 139 => 125 | 138 => 124 | n => n, fun | 3 => 1 | 4 => 2 | n => n⟩
theorem Tryz.lays162 : Go.Proofs.Lays.n162 Tryz.prog Tryz.lays162_ren where
  mixed := by kernel_rfl
  f119 := Tryz.func104.trans (congrArg some (by kernel_rfl))
  f120 := Tryz.func89.trans (congrArg some (by kernel_rfl))
  f137 := Tryz.func103.trans (congrArg some (by kernel_rfl))
  f151 := Tryz.func73.trans (congrArg some (by kernel_rfl))
  f152 := Tryz.func90.trans (congrArg some (by kernel_rfl))
  f162 := Tryz.func38.trans (congrArg some (by kernel_rfl))
  f197 := Tryz.func51.trans (congrArg some (by kernel_rfl))
  f217 := Tryz.func59.trans (congrArg some (by kernel_rfl))
  f224 := Tryz.func61.trans (congrArg some (by kernel_rfl))
  f225 := Tryz.func60.trans (congrArg some (by kernel_rfl))
  f227 := Tryz.func53.trans (congrArg some (by kernel_rfl))
  f228 := Tryz.func71.trans (congrArg some (by kernel_rfl))
  f232 := Tryz.func52.trans (congrArg some (by kernel_rfl))
  f234 := Tryz.func54.trans (congrArg some (by kernel_rfl))
  f236 := Tryz.func55.trans (congrArg some (by kernel_rfl))
  f260 := Tryz.func70.trans (congrArg some (by kernel_rfl))
  f266 := Tryz.func80.trans (congrArg some (by kernel_rfl))
  f271 := Tryz.func72.trans (congrArg some (by kernel_rfl))
  t0 := Tryz.underlying0
  a0 := Tryz.isAgg0
  z0 := Tryz.sizeOf0
  v0 := Tryz.zeroValue0
  t3 := Tryz.underlying3
  a3 := Tryz.isAgg3
  z3 := Tryz.sizeOf3
  v3 := Tryz.zeroValue3
  t4 := Tryz.underlying4
  a4 := Tryz.isAgg4
  z4 := Tryz.sizeOf4
  v4 := Tryz.zeroValue4
  t5 := Tryz.underlying5
  a5 := Tryz.isAgg5
  z5 := Tryz.sizeOf5
  v5 := Tryz.zeroValue5
  t9 := Tryz.underlying9
  a9 := Tryz.isAgg9
  z9 := Tryz.sizeOf9
  v9 := Tryz.zeroValue9
  t21 := Tryz.underlying21
  a21 := Tryz.isAgg21
  z21 := Tryz.sizeOf21
  v21 := Tryz.zeroValue21
  t46 := Tryz.underlying96
  a46 := Tryz.isAgg96
  z46 := Tryz.sizeOf96
  v46 := Tryz.zeroValue96
  t105 := Tryz.underlying83
  a105 := Tryz.isAgg83
  z105 := Tryz.sizeOf83
  v105 := Tryz.zeroValue83
  t116 := Tryz.underlying90
  a116 := Tryz.isAgg90
  z116 := Tryz.sizeOf90
  t117 := Tryz.underlying91
  a117 := Tryz.isAgg91
  z117 := Tryz.sizeOf91
  v117 := Tryz.zeroValue91
  t119 := Tryz.underlying122
  a119 := Tryz.isAgg122
  z119 := Tryz.sizeOf122
  t124 := Tryz.underlying94
  a124 := Tryz.isAgg94
  z124 := Tryz.sizeOf94
  v124 := Tryz.zeroValue94
  t138 := Tryz.underlying124
  a138 := Tryz.isAgg124
  z138 := Tryz.sizeOf124
  v138 := Tryz.zeroValue124
  t139 := Tryz.underlying125
  a139 := Tryz.isAgg125
  z139 := Tryz.sizeOf125
  v139 := Tryz.zeroValue125
  g3 := by kernel_rfl
  g4 := by kernel_rfl
def Tryz.lays104_ren : Go.Shelf.Ren := ⟨fun | 104 => 39 | 211 => 56 | 207 => 74 | n => n, fun | 9 => 9 | 4 => 4 | 24 => 67 | 3 => 3 | n => n, fun | n => n⟩
theorem Tryz.lays104 : Go.Proofs.Lays.n104 Tryz.prog Tryz.lays104_ren where
  mixed := by kernel_rfl
  f104 := Tryz.func39.trans (congrArg some (by kernel_rfl))
  f207 := Tryz.func74.trans (congrArg some (by kernel_rfl))
  f211 := Tryz.func56.trans (congrArg some (by kernel_rfl))
  t3 := Tryz.underlying3
  a3 := Tryz.isAgg3
  z3 := Tryz.sizeOf3
  v3 := Tryz.zeroValue3
  t4 := Tryz.underlying4
  a4 := Tryz.isAgg4
  z4 := Tryz.sizeOf4
  v4 := Tryz.zeroValue4
  t9 := Tryz.underlying9
  a9 := Tryz.isAgg9
  z9 := Tryz.sizeOf9
  v9 := Tryz.zeroValue9
  t24 := Tryz.underlying67
  a24 := Tryz.isAgg67
  z24 := Tryz.sizeOf67
  v24 := Tryz.zeroValue67
def Tryz.lays160_ren : Go.Shelf.Ren := ⟨fun | 160 => 57 | 232 => 52 | 231 => 75 | 227 => 53 | 234 => 54 | 233 => 76 | 236 => 55 | 235 => 77 | 228 => 71 | 271 => 72 | 151 => 73 | 197 => 51 | 120 => 89 | 152 => 90 | 260 => 70 | 137 => 103 | 119 => 104 | 224 => 61 | 225 => 60 | 217 => 59 | 266 => 80 | n => n, fun | 9 => 9 | 4 => 4 | 3 => 3 | 5 => 5 | 117 => 91 | 116 => 90 | 0 => 0 | 124 => 94 | 21 => 21 | 105 => 83 | 46 => 96 | 119 => 122 | 139 => 125 | 138 => 124 | n => n, fun | 3 => 1 | 4 => 2 | n => n⟩
theorem Tryz.lays160 : Go.Proofs.Lays.n160 Tryz.prog Tryz.lays160_ren where
  mixed := by kernel_rfl
  f119 := Tryz.func104.trans (congrArg some (by kernel_rfl))
  f120 := Tryz.func89.trans (congrArg some (by kernel_rfl))
  f137 := Tryz.func103.trans (congrArg some (by kernel_rfl))
  f151 := Tryz.func73.trans (congrArg some (by kernel_rfl))
  f152 := Tryz.func90.trans (congrArg some (by kernel_rfl))
  f160 := Tryz.func57.trans (congrArg some (by kernel_rfl))
  f197 := Tryz.func51.trans (congrArg some (by kernel_rfl))
  f217 := Tryz.func59.trans (congrArg some (by kernel_rfl))
  f224 := Tryz.func61.trans (congrArg some (by kernel_rfl))
  f225 := Tryz.func60.trans (congrArg some (by kernel_rfl))
  f227 := Tryz.func53.trans (congrArg some (by kernel_rfl))
  f228 := Tryz.func71.trans (congrArg some (by kernel_rfl))
  f231 := Tryz.func75.trans (congrArg some (by kernel_rfl))
  f232 := Tryz.func52.trans (congrArg some (by kernel_rfl))
  f233 := Tryz.func76.trans (congrArg some (by kernel_rfl))
  f234 := Tryz.func54.trans (congrArg some (by kernel_rfl))
  f235 := Tryz.func77.trans (congrArg some (by kernel_rfl))
  f236 := Tryz.func55.trans (congrArg some (by kernel_rfl))
  f260 := Tryz.func70.trans (congrArg some (by kernel_rfl))
  f266 := Tryz.func80.trans (congrArg some (by kernel_rfl))
  f271 := Tryz.func72.trans (congrArg some (by kernel_rfl))
  t0 := Tryz.underlying0
  a0 := Tryz.isAgg0
  z0 := Tryz.sizeOf0
  v0 := Tryz.zeroValue0
  t3 := Tryz.underlying3
  a3 := Tryz.isAgg3
  z3 := Tryz.sizeOf3
  v3 := Tryz.zeroValue3
  t4 := Tryz.underlying4
  a4 := Tryz.isAgg4
  z4 := Tryz.sizeOf4
  v4 := Tryz.zeroValue4
  t5 := Tryz.underlying5
  a5 := Tryz.isAgg5
  z5 := Tryz.sizeOf5
  v5 := Tryz.zeroValue5
  t9 := Tryz.underlying9
  a9 := Tryz.isAgg9
  z9 := Tryz.sizeOf9
  v9 := Tryz.zeroValue9
  t21 := Tryz.underlying21
  a21 := Tryz.isAgg21
  z21 := Tryz.sizeOf21
  v21 := Tryz.zeroValue21
  t46 := Tryz.underlying96
  a46 := Tryz.isAgg96
  z46 := Tryz.sizeOf96
  v46 := Tryz.zeroValue96
  t105 := Tryz.underlying83
  a105 := Tryz.isAgg83
  z105 := Tryz.sizeOf83
  v105 := Tryz.zeroValue83
  t116 := Tryz.underlying90
  a116 := Tryz.isAgg90
  z116 := Tryz.sizeOf90
  t117 := Tryz.underlying91
  a117 := Tryz.isAgg91
  z117 := Tryz.sizeOf91
  v117 := Tryz.zeroValue91
  t119 := Tryz.underlying122
  a119 := Tryz.isAgg122
  z119 := Tryz.sizeOf122
  t124 := Tryz.underlying94
  a124 := Tryz.isAgg94
  z124 := Tryz.sizeOf94
  v124 := Tryz.zeroValue94
  t138 := Tryz.underlying124
  a138 := Tryz.isAgg124
  z138 := Tryz.sizeOf124
  v138 := Tryz.zeroValue124
  t139 := Tryz.underlying125
  a139 := Tryz.isAgg125
  z139 := Tryz.sizeOf125
  v139 := Tryz.zeroValue125
  g3 := by kernel_rfl
  g4 := by kernel_rfl
def Tryz.lays172_ren : Go.Shelf.Ren := ⟨fun | 172 => 58 | 244 => 78 | 245 => 79 | 247 => 91 | 279 => 92 | 280 => 93 | 281 => 94 | 282 => 95 | 287 => 105 | 316 => 106 | 171 => 30 | 205 => 107 | 321 => 113 | 322 => 114 | 243 => 48 | 246 => 68 | 283 => 85 | 284 => 86 | 285 => 87 | 286 => 88 | 129 => 99 | 317 => 98 | 318 => 100 | 319 => 101 | 320 => 102 | 337 => 111 | 338 => 112 | n => n, fun | 9 => 9 | 3 => 3 | 75 => 56 | 76 => 57 | 4 => 4 | 5 => 5 | 167 => 127 | 37 => 38 | 0 => 0 | 85 => 128 | 2 => 2 | 168 => 130 | 53 => 117 | 175 => 139 | 46 => 96 | 210 => 143 | 127 => 81 | 145 => 151 | 143 => 149 | 21 => 21 | 171 => 116 | 173 => 120 | 212 => 135 | 51 => 113 | 20 => 20 | 213 => 136 | 232 => 155 | 233 => 156 | 80 => 60 | n => n, fun | 15 => 4 | 16 => 5 | 17 => 3 | 18 => 6 | 19 => 7 | n => n⟩
theorem Tryz.lays172 : Go.Proofs.Lays.n172 Tryz.prog Tryz.lays172_ren where
  mixed := by kernel_rfl
  f129 := Tryz.func99.trans (congrArg some (by kernel_rfl))
  f171 := Tryz.func30.trans (congrArg some (by kernel_rfl))
  f172 := Tryz.func58.trans (congrArg some (by kernel_rfl))
  f205 := Tryz.func107.trans (congrArg some (by kernel_rfl))
  f243 := Tryz.func48.trans (congrArg some (by kernel_rfl))
  f244 := Tryz.func78.trans (congrArg some (by kernel_rfl))
  f245 := Tryz.func79.trans (congrArg some (by kernel_rfl))
  f246 := Tryz.func68.trans (congrArg some (by kernel_rfl))
  f247 := Tryz.func91.trans (congrArg some (by kernel_rfl))
  f279 := Tryz.func92.trans (congrArg some (by kernel_rfl))
  f280 := Tryz.func93.trans (congrArg some (by kernel_rfl))
  f281 := Tryz.func94.trans (congrArg some (by kernel_rfl))
  f282 := Tryz.func95.trans (congrArg some (by kernel_rfl))
  f283 := Tryz.func85.trans (congrArg some (by kernel_rfl))
  f284 := Tryz.func86.trans (congrArg some (by kernel_rfl))
  f285 := Tryz.func87.trans (congrArg some (by kernel_rfl))
  f286 := Tryz.func88.trans (congrArg some (by kernel_rfl))
  f287 := Tryz.func105.trans (congrArg some (by kernel_rfl))
  f316 := Tryz.func106.trans (congrArg some (by kernel_rfl))
  f317 := Tryz.func98.trans (congrArg some (by kernel_rfl))
  f318 := Tryz.func100.trans (congrArg some (by kernel_rfl))
  f319 := Tryz.func101.trans (congrArg some (by kernel_rfl))
  f320 := Tryz.func102.trans (congrArg some (by kernel_rfl))
  f321 := Tryz.func113.trans (congrArg some (by kernel_rfl))
  f322 := Tryz.func114.trans (congrArg some (by kernel_rfl))
  f337 := Tryz.func111.trans (congrArg some (by kernel_rfl))
  f338 := Tryz.func112.trans (congrArg some (by kernel_rfl))
  t0 := Tryz.underlying0
  a0 := Tryz.isAgg0
  z0 := Tryz.sizeOf0
  v0 := Tryz.zeroValue0
  t2 := Tryz.underlying2
  a2 := Tryz.isAgg2
  z2 := Tryz.sizeOf2
  v2 := Tryz.zeroValue2
  t3 := Tryz.underlying3
  a3 := Tryz.isAgg3
  z3 := Tryz.sizeOf3
  v3 := Tryz.zeroValue3
  t4 := Tryz.underlying4
  a4 := Tryz.isAgg4
  z4 := Tryz.sizeOf4
  v4 := Tryz.zeroValue4
  t5 := Tryz.underlying5
  a5 := Tryz.isAgg5
  z5 := Tryz.sizeOf5
  v5 := Tryz.zeroValue5
  t9 := Tryz.underlying9
  a9 := Tryz.isAgg9
  z9 := Tryz.sizeOf9
  v9 := Tryz.zeroValue9
  t20 := Tryz.underlying20
  a20 := Tryz.isAgg20
  z20 := Tryz.sizeOf20
  v20 := Tryz.zeroValue20
  t21 := Tryz.underlying21
  a21 := Tryz.isAgg21
  z21 := Tryz.sizeOf21
  v21 := Tryz.zeroValue21
  t37 := Tryz.underlying38
  a37 := Tryz.isAgg38
  z37 := Tryz.sizeOf38
  v37 := Tryz.zeroValue38
  t46 := Tryz.underlying96
  a46 := Tryz.isAgg96
  z46 := Tryz.sizeOf96
  v46 := Tryz.zeroValue96
  t51 := Tryz.underlying113
  a51 := Tryz.isAgg113
  z51 := Tryz.sizeOf113
  v51 := Tryz.zeroValue113
  t53 := Tryz.underlying117
  a53 := Tryz.isAgg117
  z53 := Tryz.sizeOf117
  v53 := Tryz.zeroValue117
  t75 := Tryz.underlying56
  a75 := Tryz.isAgg56
  z75 := Tryz.sizeOf56
  v75 := Tryz.zeroValue56
  t76 := Tryz.underlying57
  a76 := Tryz.isAgg57
  z76 := Tryz.sizeOf57
  v76 := Tryz.zeroValue57
  t85 := Tryz.underlying128
  a85 := Tryz.isAgg128
  z85 := Tryz.sizeOf128
  v85 := Tryz.zeroValue128
  t127 := Tryz.underlying81
  a127 := Tryz.isAgg81
  z127 := Tryz.sizeOf81
  v127 := Tryz.zeroValue81
  t143 := Tryz.underlying149
  a143 := Tryz.isAgg149
  z143 := Tryz.sizeOf149
  v143 := Tryz.zeroValue149
  t145 := Tryz.underlying151
  a145 := Tryz.isAgg151
  z145 := Tryz.sizeOf151
  v145 := Tryz.zeroValue151
  t167 := Tryz.underlying127
  a167 := Tryz.isAgg127
  z167 := Tryz.sizeOf127
  v167 := Tryz.zeroValue127
  t168 := Tryz.underlying130
  a168 := Tryz.isAgg130
  z168 := Tryz.sizeOf130
  v168 := Tryz.zeroValue130
  t171 := Tryz.underlying116
  a171 := Tryz.isAgg116
  z171 := Tryz.sizeOf116
  v171 := Tryz.zeroValue116
  t173 := Tryz.underlying120
  a173 := Tryz.isAgg120
  z173 := Tryz.sizeOf120
  v173 := Tryz.zeroValue120
  t175 := Tryz.underlying139
  a175 := Tryz.isAgg139
  z175 := Tryz.sizeOf139
  v175 := Tryz.zeroValue139
  t210 := Tryz.underlying143
  a210 := Tryz.isAgg143
  z210 := Tryz.sizeOf143
  v210 := Tryz.zeroValue143
  t212 := Tryz.underlying135
  a212 := Tryz.isAgg135
  z212 := Tryz.sizeOf135
  v212 := Tryz.zeroValue135
  t213 := Tryz.underlying136
  a213 := Tryz.isAgg136
  z213 := Tryz.sizeOf136
  t232 := Tryz.underlying155
  a232 := Tryz.isAgg155
  z232 := Tryz.sizeOf155
  v232 := Tryz.zeroValue155
  t233 := Tryz.underlying156
  a233 := Tryz.isAgg156
  z233 := Tryz.sizeOf156
  v233 := Tryz.zeroValue156
  g15 := by kernel_rfl
  g16 := by kernel_rfl
  g17 := by kernel_rfl
  g18 := by kernel_rfl
  g19 := by kernel_rfl
def Tryz.lays138_ren : Go.Shelf.Ren := ⟨fun | 138 => 11 | 195 => 23 | 218 => 24 | 143 => 25 | 219 => 45 | 217 => 59 | 225 => 60 | 224 => 61 | 267 => 62 | 266 => 80 | 314 => 81 | n => n, fun | 9 => 9 | 3 => 3 | 4 => 4 | 5 => 5 | 0 => 0 | 46 => 96 | 146 => 114 | 51 => 113 | n => n, fun | 1 => 0 | n => n⟩
theorem Tryz.lays138 : Go.Proofs.Lays.n138 Tryz.prog Tryz.lays138_ren where
  mixed := by kernel_rfl
  f138 := Tryz.func11.trans (congrArg some (by kernel_rfl))
  f143 := Tryz.func25.trans (congrArg some (by kernel_rfl))
  f195 := Tryz.func23.trans (congrArg some (by kernel_rfl))
  f217 := Tryz.func59.trans (congrArg some (by kernel_rfl))
  f218 := Tryz.func24.trans (congrArg some (by kernel_rfl))
  f219 := Tryz.func45.trans (congrArg some (by kernel_rfl))
  f224 := Tryz.func61.trans (congrArg some (by kernel_rfl))
  f225 := Tryz.func60.trans (congrArg some (by kernel_rfl))
  f266 := Tryz.func80.trans (congrArg some (by kernel_rfl))
  f267 := Tryz.func62.trans (congrArg some (by kernel_rfl))
  f314 := Tryz.func81.trans (congrArg some (by kernel_rfl))
  t0 := Tryz.underlying0
  a0 := Tryz.isAgg0
  z0 := Tryz.sizeOf0
  v0 := Tryz.zeroValue0
  t3 := Tryz.underlying3
  a3 := Tryz.isAgg3
  z3 := Tryz.sizeOf3
  v3 := Tryz.zeroValue3
  t4 := Tryz.underlying4
  a4 := Tryz.isAgg4
  z4 := Tryz.sizeOf4
  v4 := Tryz.zeroValue4
  t5 := Tryz.underlying5
  a5 := Tryz.isAgg5
  z5 := Tryz.sizeOf5
  v5 := Tryz.zeroValue5
  t9 := Tryz.underlying9
  a9 := Tryz.isAgg9
  z9 := Tryz.sizeOf9
  v9 := Tryz.zeroValue9
  t46 := Tryz.underlying96
  a46 := Tryz.isAgg96
  z46 := Tryz.sizeOf96
  v46 := Tryz.zeroValue96
  t51 := Tryz.underlying113
  a51 := Tryz.isAgg113
  z51 := Tryz.sizeOf113
  v51 := Tryz.zeroValue113
  t146 := Tryz.underlying114
  a146 := Tryz.isAgg114
  z146 := Tryz.sizeOf114
  v146 := Tryz.zeroValue114
  g1 := by kernel_rfl
open Go.RowKit Go.Lib Nv Rul
theorem maxlen_of (g : Nat) (hg : g < Tryz.prog.globals.size) (hq : ∀ w0 : Go.World, w0.ShapedOpen Tryz.prog → ∃ m, w0.cell? ⟨g, 0, none⟩ = some (.int .i64 m)) {w : Go.World} {I : Nat → Prop} (hT : Tabs Tryz.prog I w) : ∃ m, w.cell? ⟨g, 0, none⟩ = some (.int .i64 m) :=
  hT.cell (g := g) hg (Q := fun v => ∃ m, v = some (.int .i64 m)) hq
theorem below_alloc (w : Go.World) (o : Go.Obj) : Below w.heap.size w (w.alloc o) := ⟨rfl, rfl, rfl, by rw [push_size]; omega, fun k hk => push_old w o k hk⟩
theorem split18 (s : List UInt8) (hs : s.length < 4294967281) : PCall Tryz.prog 18 [.d (.str s), .d (.str [10])] (.d (.list 1 (strsD (linesOf s)))) := by
  refine PCall.of_strings fun ρ σ w I vs hr hv => ?_
  rw [scs_inv (by rfl) hv]
  obtain ⟨m, hm⟩ := maxlen_of (Tryz.laysm146_ren.g 1) (of_decide_eq_true (by kernel_rfl)) (fun w0 h => Tryz.laysm146.s1_3 w0 h) hr.tabs
  refine (Any.strings_Split { Tryz.laysm146 with } Tryz.laysm146.i9 ⟨s.toArray⟩ ⟨#[10]⟩ m w (by simpa [ByteArray.size] using hs) hm (by decide)).mono ?_
  rintro e w' ⟨rfl, rfl⟩
  have hcount : Lib.countB ⟨s.toArray⟩ ⟨#[10]⟩ = s.count 10 := count_one 10 s
  have hdata : (Lib.splitB ⟨#[10]⟩ 0 (Lib.countB ⟨s.toArray⟩ ⟨#[10]⟩) ⟨s.toArray⟩).map (·.data.toList) = linesOf s := by
    rw [splitB_data, hcount]; exact split_lines s
  have hlen : Lib.countB ⟨s.toArray⟩ ⟨#[10]⟩ + 1 = (linesOf s).length := by rw [hcount, lines_count]
  refine ⟨w.heap.size, (linesOf s).length, by rw [hlen], Nat.le_refl _, Nat.le_refl _, by rw [push_size]; omega, fun j x hj => ?_, below_alloc _ _⟩
  rw [← hdata, List.getElem?_map, Option.map_eq_some_iff] at hj
  obtain ⟨b, hb, rfl⟩ := hj
  simp only [Go.World.cell?, push_new, Option.bind_some]
  simp [hb]
theorem cut19 (s : List UInt8) (q : UInt8) (hs : s.length < 4294967281) : PCall Tryz.prog 19 [.d (.str s), .d (.str [q])] (.tuple [.d (.str (cutAt q s).1), .d (.str (cutAt q s).2.1), .d (.bool (cutAt q s).2.2)]) := by
  refine PCall.of_callsV (by rfl) (tuple_V (vs := #[.string ⟨(cutAt q s).1.toArray⟩, .string ⟨(cutAt q s).2.1.toArray⟩, .bool (cutAt q s).2.2]) rfl fun j a hj ρ σ I w => ?_) fun w I hT => ?_
  · match j, hj with
    | 0, hj => simp at hj; subst hj; exact .d (.str _)
    | 1, hj => simp at hj; subst hj; exact .d (.str _)
    | 2, hj => simp at hj; subst hj; exact .d (.bool _)
  obtain ⟨m, hm⟩ := maxlen_of (Tryz.laysm145_ren.g 1) (of_decide_eq_true (by kernel_rfl)) (fun w0 h => Tryz.laysm145.s1_3 w0 h) hT
  refine (Any.strings_Cut { Tryz.laysm145 with } ⟨s.toArray⟩ ⟨#[q]⟩ m w (by simpa [ByteArray.size] using hs) hm).mono ?_
  rintro e w' ⟨rfl, n, rfl⟩
  have e := cut_eq q s
  refine ⟨?_, below_drew w n⟩
  show Go.Ending.returned _ = Go.Ending.returned _
  simp only [e]
theorem words37 (W : Go.World) (x : Nat) : Go.Calls Tryz.prog 37 (#[encR x] ++ #[]) W fun e w' => e = .returned (.bool (Rul.blank x)) ∧ ∃ q, w' = W.drewN q := by
  have hb : Rul.blank x = decide ((x : Int) = 32) := by unfold Rul.blank; rw [Bool.eq_iff_iff]; simp; omega
  show Go.Calls Tryz.prog 37 #[.int .i32 x] W _
  rw [hb]
  go_enter Tryz.func37, Tryz.ntmps37
  go_wp2
  all_goals
    go_ret
    exact ⟨rfl, 0, rfl⟩
theorem fields36 (s : List UInt8) (hs : s.length ≤ 4294967296) : PCall Tryz.prog 36 [.d (.str s), .d (.func (.func 37))] (.d (.list 1 (strsD (wordsOf s)))) := by
  refine PCall.of_strings fun ρ σ w I vs hr hv => ?_
  have hsz : vs.size = 2 := by have := hv.1; simpa using this.symm
  have hv0 := (hv.2 0 _ rfl).d_inv.str_inv
  have hv1 := (hv.2 1 _ rfl).d_inv
  obtain ⟨v0, v1, rfl⟩ : ∃ v0 v1, vs = #[v0, v1] := by
    obtain ⟨l⟩ := vs
    match l, hsz with
    | [a, b], _ => exact ⟨a, b, rfl⟩
  simp only [Array.getD_eq_getD_getElem?, List.size_toArray, List.length_cons, List.length_nil, List.getElem?_toArray, List.getElem?_cons_zero, List.getElem?_cons_succ, Option.getD_some] at hv0 hv1
  subst hv0
  obtain rfl : v1 = .func (.func 37) #[] #[] := by cases hv1; rfl
  have eg : ∀ args w, (Go.callFunc 37 args).run Tryz.prog w = .ok (.enter 37 args) w := enters_of Tryz.func37 (by kernel_rfl) rfl
  refine (Any.strings_FieldsFunc Tryz.lays229 37 #[] eg Rul.blank ⟨s.toArray⟩ w (by simpa [ByteArray.size] using hs) (fun W x _ => words37 W x) (by kernel_rfl) (by kernel_rfl)).mono ?_
  rintro e w' ⟨A, rfl, hA, ho, hb⟩
  have hdata := fields_words ⟨s.toArray⟩
  have hlen : (goFieldsP Rul.blank ⟨s.toArray⟩).length = (wordsOf s).length := by rw [← hdata, List.length_map]
  obtain ⟨h1, h2⟩ := ho
  rcases h2 with ⟨h2, _⟩ | ⟨g, cap, cur, h2, h3, h4, h5, h6, h7, h8⟩
  · cases h2
  simp only [Go.Value.slice.injEq, Option.some.injEq, Go.Addr.mk.injEq, true_and, and_true] at h2
  obtain ⟨rfl, rfl⟩ := h2
  refine ⟨A, (goFieldsP Rul.blank ⟨s.toArray⟩).length, by rw [hlen], by rw [hlen]; exact Nat.le_refl _, hA, (Array.getElem?_eq_some_iff.1 h4).1, fun j x hj => ?_, hb⟩
  rw [← hdata, List.getElem?_map, Option.map_eq_some_iff] at hj
  obtain ⟨b, hbj, rfl⟩ := hj
  simp only [Go.World.cell?, h4, Option.bind_some]
  have hjl : j < (goFieldsP Rul.blank ⟨s.toArray⟩).length := (List.getElem?_eq_some_iff.1 hbj).1
  have h9 : (cur.toList.take ((goFieldsP Rul.blank ⟨s.toArray⟩).length * 1))[j]? = some (.string b) := by rw [h8, List.getElem?_map, hbj]; rfl
  rw [List.getElem?_take, if_pos (by omega)] at h9
  simpa using h9
theorem trimR38 (s : List UInt8) (hs : s.length ≤ 9223372036854775807) : PCall Tryz.prog 38 [.d (.str s), .d (.str [32])] (.d (.str (trimR s))) :=
  .of_calls' rfl rfl fun w => Any.strings_TrimRight_one Tryz.lays162 ⟨s.toArray⟩ 32 (by decide) w (by simpa [ByteArray.size] using hs)
theorem cutSuf39 (s : List UInt8) (hs : s.length ≤ 9223372036854775807) : PCall Tryz.prog 39 [.d (.str s), .d (.str [34])] (.tuple [.d (.str (Lib.trimSuffix s [34])), .d (.bool (Lib.hasSuffix s [34]))]) := by
  refine PCall.of_callsV (by rfl) (tuple_V (vs := #[.string ⟨(Lib.trimSuffix s [34]).toArray⟩, .bool (Lib.hasSuffix s [34])]) rfl fun j a hj ρ σ I w => ?_) fun w I hT => ?_
  · match j, hj with
    | 0, hj => simp at hj; subst hj; exact .d (.str _)
    | 1, hj => simp at hj; subst hj; exact .d (.bool _)
  exact (Any.strings_CutSuffix Tryz.lays104 ⟨s.toArray⟩ ⟨#[34]⟩ w (by simpa [ByteArray.size] using hs)).mono fun e w' ⟨h1, h2⟩ => ⟨h1, h2 ▸ Below.refl _ _⟩
theorem trim57 (s : List UInt8) (hs : s.length ≤ 9223372036854775807) : PCall Tryz.prog 57 [.d (.str s), .d (.str numerals)] (.d (.str (Lib.trimS s numerals))) :=
  .of_callsT rfl rfl fun w I hT => Any.strings_Trim_laid Tryz.lays160 (by kernel_rfl) ⟨s.toArray⟩ ⟨numerals.toArray⟩ w (by simpa [ByteArray.size] using hs) (by decide) (by
    intro j b hj
    have hm : b ∈ numerals := List.mem_of_getElem? hj
    have hall : ∀ x, x ∈ numerals → x.toNat < 128 := by decide
    exact hall b hm)
theorem below_bytes (w : Go.World) (e : Nat) (t : ByteArray) : Below w.heap.size w (Lib.bytesWorld w e t) := by
  refine ⟨rfl, rfl, rfl, ?_, fun k hk => Lib.bytesWorld_at_old w e t k hk⟩
  rw [Lib.bytesWorld_size]; omega
theorem atoi58 (s : List UInt8) (h : numB s = true) : PCall Tryz.prog 58 [.d (.str s)] (.tuple [.d (.int .i64 (Rul.valOf s)), .d .niliface]) := by
  refine PCall.of_callsV (by rfl) (tuple_V (vs := #[.int .i64 (Rul.valOf s), .nilIface]) rfl fun j a hj ρ σ I w => ?_) fun w I hT => ?_
  · match j, hj with
    | 0, hj => simp at hj; subst hj; exact .d (.int _ _)
    | 1, hj => simp at hj; subst hj; exact .d .niliface
  have hl : s.length ≤ 9 := by simp only [numB, Bool.and_eq_true, decide_eq_true_eq] at h; exact h.1.1.2
  refine (Any.strconv_Atoi Tryz.lays172 ⟨s.toArray⟩ (Rul.valOf s) (by simp [ByteArray.size]; omega) (atoi_num h) w).mono ?_
  rintro e w' ⟨rfl, t, rfl⟩
  exact ⟨rfl, below_bytes _ _ _⟩
theorem count11 (s : List UInt8) : PCall Tryz.prog 11 [.d (.str s), .d (.str [10])] (.d (.int .i64 (s.count 10))) :=
  .of_calls' rfl rfl fun w => Any.strings_Count_one Tryz.lays138 ⟨s.toArray⟩ 10 w
end Go.Proofs.YtjgbdlaecpkmhaaGreatDoor
set_option linter.unusedVariables false
set_option linter.unusedSimpArgs false
set_option maxRecDepth 100000
namespace Go.Proofs.YtjgbdlaecpkmhaaGreatDoor
open Go.Shelf
def Tryz.lays156_ren : Go.Shelf.Ren := ⟨fun | 156 => 17 | 165 => 32 | 166 => 28 | 169 => 31 | 240 => 47 | 241 => 49 | 276 => 67 | 277 => 69 | n => n, fun | 31 => 37 | 9 => 9 | 3 => 3 | 4 => 4 | 0 => 0 | 20 => 20 | 72 => 54 | 76 => 57 | 70 => 52 | 37 => 38 | 75 => 56 | 127 => 81 | 164 => 106 | 5 => 5 | 80 => 60 | n => n, fun | n => n⟩
theorem Tryz.lays156 : Go.Proofs.Lays.n156 Tryz.prog Tryz.lays156_ren where
  mixed := by kernel_rfl
  f156 := Tryz.func17.trans (congrArg some (by kernel_rfl))
  f165 := Tryz.func32.trans (congrArg some (by kernel_rfl))
  f166 := Tryz.func28.trans (congrArg some (by kernel_rfl))
  f169 := Tryz.func31.trans (congrArg some (by kernel_rfl))
  f240 := Tryz.func47.trans (congrArg some (by kernel_rfl))
  f241 := Tryz.func49.trans (congrArg some (by kernel_rfl))
  f276 := Tryz.func67.trans (congrArg some (by kernel_rfl))
  f277 := Tryz.func69.trans (congrArg some (by kernel_rfl))
  t0 := Tryz.underlying0
  a0 := Tryz.isAgg0
  z0 := Tryz.sizeOf0
  v0 := Tryz.zeroValue0
  t3 := Tryz.underlying3
  a3 := Tryz.isAgg3
  z3 := Tryz.sizeOf3
  v3 := Tryz.zeroValue3
  t4 := Tryz.underlying4
  a4 := Tryz.isAgg4
  z4 := Tryz.sizeOf4
  v4 := Tryz.zeroValue4
  t9 := Tryz.underlying9
  a9 := Tryz.isAgg9
  z9 := Tryz.sizeOf9
  v9 := Tryz.zeroValue9
  t20 := Tryz.underlying20
  a20 := Tryz.isAgg20
  z20 := Tryz.sizeOf20
  v20 := Tryz.zeroValue20
  t31 := Tryz.underlying37
  a31 := Tryz.isAgg37
  z31 := Tryz.sizeOf37
  v31 := Tryz.zeroValue37
  t37 := Tryz.underlying38
  a37 := Tryz.isAgg38
  z37 := Tryz.sizeOf38
  v37 := Tryz.zeroValue38
  t70 := Tryz.underlying52
  a70 := Tryz.isAgg52
  z70 := Tryz.sizeOf52
  v70 := Tryz.zeroValue52
  t72 := Tryz.underlying54
  a72 := Tryz.isAgg54
  z72 := Tryz.sizeOf54
  v72 := Tryz.zeroValue54
  t75 := Tryz.underlying56
  a75 := Tryz.isAgg56
  z75 := Tryz.sizeOf56
  v75 := Tryz.zeroValue56
  t76 := Tryz.underlying57
  a76 := Tryz.isAgg57
  z76 := Tryz.sizeOf57
  v76 := Tryz.zeroValue57
  t127 := Tryz.underlying81
  a127 := Tryz.isAgg81
  z127 := Tryz.sizeOf81
  v127 := Tryz.zeroValue81
  t164 := Tryz.underlying106
  a164 := Tryz.isAgg106
  z164 := Tryz.sizeOf106
  v164 := Tryz.zeroValue106
def Tryz.laysm155_ren : Go.Shelf.Ren := ⟨fun | 155 => 20 | 154 => 35 | 138 => 11 | 165 => 32 | 143 => 25 | 166 => 28 | 197 => 51 | 169 => 31 | 195 => 23 | 218 => 24 | 240 => 47 | 241 => 49 | 219 => 45 | 260 => 70 | 276 => 67 | 277 => 69 | 217 => 59 | 225 => 60 | 224 => 61 | 267 => 62 | 266 => 80 | 314 => 81 | n => n, fun | 9 => 9 | 3 => 3 | 4 => 4 | 72 => 54 | 0 => 0 | 76 => 57 | 105 => 83 | 21 => 21 | 5 => 5 | 70 => 52 | 20 => 20 | 37 => 38 | 75 => 56 | 127 => 81 | 164 => 106 | 46 => 96 | 119 => 122 | 139 => 125 | 138 => 124 | 146 => 114 | 51 => 113 | 80 => 60 | n => n, fun | 1 => 0 | 3 => 1 | 4 => 2 | n => n⟩
theorem Tryz.laysm155 : Go.Proofs.LaysM.n155 Tryz.prog Tryz.laysm155_ren where
  mixed := by kernel_rfl
  f138 := Tryz.func11.trans (congrArg some (by kernel_rfl))
  f143 := Tryz.func25.trans (congrArg some (by kernel_rfl))
  f154 := Tryz.func35.trans (congrArg some (by kernel_rfl))
  f155 := Tryz.func20.trans (congrArg some (by kernel_rfl))
  f165 := Tryz.func32.trans (congrArg some (by kernel_rfl))
  f166 := Tryz.func28.trans (congrArg some (by kernel_rfl))
  f169 := Tryz.func31.trans (congrArg some (by kernel_rfl))
  f195 := Tryz.func23.trans (congrArg some (by kernel_rfl))
  f197 := Tryz.func51.trans (congrArg some (by kernel_rfl))
  f217 := Tryz.func59.trans (congrArg some (by kernel_rfl))
  f218 := Tryz.func24.trans (congrArg some (by kernel_rfl))
  f219 := Tryz.func45.trans (congrArg some (by kernel_rfl))
  f224 := Tryz.func61.trans (congrArg some (by kernel_rfl))
  f225 := Tryz.func60.trans (congrArg some (by kernel_rfl))
  f240 := Tryz.func47.trans (congrArg some (by kernel_rfl))
  f241 := Tryz.func49.trans (congrArg some (by kernel_rfl))
  f260 := Tryz.func70.trans (congrArg some (by kernel_rfl))
  f266 := Tryz.func80.trans (congrArg some (by kernel_rfl))
  f267 := Tryz.func62.trans (congrArg some (by kernel_rfl))
  f276 := Tryz.func67.trans (congrArg some (by kernel_rfl))
  f277 := Tryz.func69.trans (congrArg some (by kernel_rfl))
  f314 := Tryz.func81.trans (congrArg some (by kernel_rfl))
  t0 := Tryz.underlying0
  a0 := Tryz.isAgg0
  z0 := Tryz.sizeOf0
  v0 := Tryz.zeroValue0
  t3 := Tryz.underlying3
  a3 := Tryz.isAgg3
  z3 := Tryz.sizeOf3
  v3 := Tryz.zeroValue3
  t4 := Tryz.underlying4
  a4 := Tryz.isAgg4
  z4 := Tryz.sizeOf4
  v4 := Tryz.zeroValue4
  t5 := Tryz.underlying5
  a5 := Tryz.isAgg5
  z5 := Tryz.sizeOf5
  v5 := Tryz.zeroValue5
  t9 := Tryz.underlying9
  a9 := Tryz.isAgg9
  z9 := Tryz.sizeOf9
  v9 := Tryz.zeroValue9
  t20 := Tryz.underlying20
  a20 := Tryz.isAgg20
  z20 := Tryz.sizeOf20
  v20 := Tryz.zeroValue20
  t21 := Tryz.underlying21
  a21 := Tryz.isAgg21
  z21 := Tryz.sizeOf21
  v21 := Tryz.zeroValue21
  t37 := Tryz.underlying38
  a37 := Tryz.isAgg38
  z37 := Tryz.sizeOf38
  v37 := Tryz.zeroValue38
  t46 := Tryz.underlying96
  a46 := Tryz.isAgg96
  z46 := Tryz.sizeOf96
  v46 := Tryz.zeroValue96
  t51 := Tryz.underlying113
  a51 := Tryz.isAgg113
  z51 := Tryz.sizeOf113
  v51 := Tryz.zeroValue113
  t70 := Tryz.underlying52
  a70 := Tryz.isAgg52
  z70 := Tryz.sizeOf52
  v70 := Tryz.zeroValue52
  t72 := Tryz.underlying54
  a72 := Tryz.isAgg54
  z72 := Tryz.sizeOf54
  v72 := Tryz.zeroValue54
  t75 := Tryz.underlying56
  a75 := Tryz.isAgg56
  z75 := Tryz.sizeOf56
  v75 := Tryz.zeroValue56
  t76 := Tryz.underlying57
  a76 := Tryz.isAgg57
  z76 := Tryz.sizeOf57
  v76 := Tryz.zeroValue57
  t105 := Tryz.underlying83
  a105 := Tryz.isAgg83
  z105 := Tryz.sizeOf83
  v105 := Tryz.zeroValue83
  t119 := Tryz.underlying122
  a119 := Tryz.isAgg122
  z119 := Tryz.sizeOf122
  t127 := Tryz.underlying81
  a127 := Tryz.isAgg81
  z127 := Tryz.sizeOf81
  v127 := Tryz.zeroValue81
  t138 := Tryz.underlying124
  a138 := Tryz.isAgg124
  z138 := Tryz.sizeOf124
  v138 := Tryz.zeroValue124
  t139 := Tryz.underlying125
  a139 := Tryz.isAgg125
  z139 := Tryz.sizeOf125
  v139 := Tryz.zeroValue125
  t146 := Tryz.underlying114
  a146 := Tryz.isAgg114
  z146 := Tryz.sizeOf114
  v146 := Tryz.zeroValue114
  t164 := Tryz.underlying106
  a164 := Tryz.isAgg106
  z164 := Tryz.sizeOf106
  v164 := Tryz.zeroValue106
  g1 := by kernel_rfl
  g3 := by kernel_rfl
  g4 := by kernel_rfl
  t80 := Tryz.underlying60
  a80 := Tryz.isAgg60
  z80 := Tryz.sizeOf60
  v80 := Tryz.zeroValue60
  i0 := by kernel_rfl
  i3 := by kernel_rfl
  i4 := by kernel_rfl
  i5 := by kernel_rfl
  i9 := by kernel_rfl
  i20 := by kernel_rfl
  i21 := by kernel_rfl
  i37 := by kernel_rfl
  i46 := by kernel_rfl
  i51 := by kernel_rfl
  i70 := by kernel_rfl
  i72 := by kernel_rfl
  i75 := by kernel_rfl
  i76 := by kernel_rfl
  i80 := by kernel_rfl
  i105 := by kernel_rfl
  i127 := by kernel_rfl
  i138 := by kernel_rfl
  i139 := by kernel_rfl
  i146 := by kernel_rfl
  i164 := by kernel_rfl
  m1 := by kernel_rfl
  s1_3 := fun w h => Go.Proofs.cell_of_shapedOpen_int (zero := #[.int .i64 0]) (t := 3) h (of_decide_eq_true (by kernel_rfl)) (by kernel_rfl) rfl (by kernel_rfl) (by kernel_rfl) Tryz.underlying3
  m3 := by kernel_rfl
  m4 := by kernel_rfl
open Go.RowKit Go.Lib Nv Rul
theorem extra156 : Builder.Extra Tryz.prog Tryz.lays156_ren where
  sizeBuilder := by kernel_rfl
  liesBuilder := by kernel_rfl
  t5 := by kernel_rfl
  a5 := fun w => by kernel_rfl
  z5 := fun w => by kernel_rfl
  v5 := fun w => by kernel_rfl
  infoByte := by kernel_rfl
  cellsByte := by kernel_rfl
  sizeByte := by kernel_rfl
  neB5 := by decide +kernel

/-- Strings laid side by side. -/
theorem PCall.of_strs {P : Go.Program} {f : Go.FuncId} {xs : List (List UInt8)} {sep : List UInt8} {r : AV} (hr : sc r = true)
    (h0 : ∀ (a : Option Go.Addr) (c : Nat) (w : Go.World), xs = [] → Go.Calls P f #[.slice a 0 c, .string ⟨sep.toArray⟩] w fun e w' => e = .returned (scv r) ∧ Below w.heap.size w w')
    (h : ∀ (b o c : Nat) (w : Go.World), (∀ (j : Nat) x, xs[j]? = some x → w.cell? ⟨b, o + j, none⟩ = some (.string ⟨x.toArray⟩)) → b < w.heap.size → xs.length ≤ c →
      Go.Calls P f #[.slice (some ⟨b, o, none⟩) xs.length c, .string ⟨sep.toArray⟩] w fun e w' => e = .returned (scv r) ∧ Below w.heap.size w w') :
    PCall P f [.d (.list 1 (xs.map DV.str)), .d (.str sep)] r := by
  intro σ ρ I w vs hrs hv
  have hv0 := (hv.2 0 _ rfl).d_inv
  have hv1 := (hv.2 1 _ rfl).d_inv.str_inv
  have hsz : vs.size = 2 := by have := hv.1; simpa using this.symm
  obtain ⟨v0, v1, rfl⟩ : ∃ v0 v1, vs = #[v0, v1] := by
    obtain ⟨l⟩ := vs
    match l, hsz with
    | [a, b], _ => exact ⟨a, b, rfl⟩
  simp only [Array.getD_eq_getD_getElem?, List.size_toArray, List.length_cons, List.length_nil, List.getElem?_toArray, List.getElem?_cons_zero, List.getElem?_cons_succ, Option.getD_some] at hv0 hv1
  subst hv1
  generalize hl : xs.map DV.str = l at hv0
  cases hv0 with
  | listNil _ p =>
    have hx : xs = [] := by simpa using hl
    refine (h0 p 0 w hx).mono ?_
    rintro e w' ⟨rfl, hb⟩
    exact ⟨ρ, I, σ, .ret r, Step.more ⟨hb.size, ⟨hb.os, hb.tape, hb.output⟩⟩ hb.block, hrs.more ⟨hb.size, ⟨hb.os, hb.tape, hb.output⟩⟩ hb.block, sc_V _ _ _ _ hr, rfl, rfl⟩
  | @list _ _ b o n c us q1 q2 q0 q3 q4 =>
    have hn : n = xs.length := by rw [q1, ← hl, List.length_map]
    rw [hn] at q2 ⊢
    have hf : ∀ (j : Nat) x, xs[j]? = some x → (flat l)[j]? = some (.str x) := by
      intro j x hj
      have hfl : flat l = l := by
        rw [← hl]
        clear hl h h0 q0 q1 q2 q3 q4 hj hv hn
        induction xs with
        | nil => rfl
        | cons y ys ih => simp only [List.map_cons, flat, List.flatMap_cons, DV.cells] at ih ⊢; rw [ih]; rfl
      rw [hfl, ← hl, List.getElem?_map, hj]; rfl
    have hcells : ∀ (j : Nat) x, xs[j]? = some x → w.cell? ⟨b, o + j, none⟩ = some (.string ⟨x.toArray⟩) := by
      intro j x hj
      rw [(q3 j _ (hf j x hj)).2, (q4 j _ (hf j x hj)).str_inv]
    cases hxs : xs with
    | nil =>
      subst hxs
      refine (h0 (some ⟨b, o, none⟩) c w rfl).mono ?_
      rintro e w' ⟨rfl, hb⟩
      exact ⟨ρ, I, σ, .ret r, Step.more ⟨hb.size, ⟨hb.os, hb.tape, hb.output⟩⟩ hb.block, hrs.more ⟨hb.size, ⟨hb.os, hb.tape, hb.output⟩⟩ hb.block, sc_V _ _ _ _ hr, rfl, rfl⟩
    | cons y ys =>
      have hb : b < w.heap.size := hrs.bound _ (q3 0 _ (hf 0 y (by rw [hxs]; rfl))).1
      rw [← hxs]
      refine (h b o c w hcells hb q2).mono ?_
      rintro e w' ⟨rfl, hb⟩
      exact ⟨ρ, I, σ, .ret r, Step.more ⟨hb.size, ⟨hb.os, hb.tape, hb.output⟩⟩ hb.block, hrs.more ⟨hb.size, ⟨hb.os, hb.tape, hb.output⟩⟩ hb.block, sc_V _ _ _ _ hr, rfl, rfl⟩

theorem join_call (xs : List (List UInt8)) (sep : List UInt8) (hN : xs.length ≤ 140737488355328) (hlen : (Lib.join xs sep).length ≤ 140737488355328) :
    PCall Tryz.prog 17 [.d (.list 1 (xs.map DV.str)), .d (.str sep)] (.d (.str (Lib.join xs sep))) := by
  have e : (xs.map fun x => (⟨x.toArray⟩ : ByteArray)).map (·.data.toList) = xs := by rw [List.map_map]; exact (List.map_congr_left fun x _ => rfl).trans (List.map_id _)
  refine PCall.of_strs rfl (fun a c w hx => ?_) (fun b o c w hc hb hle => ?_)
  · subst hx
    exact (Any.strings_Join_none Tryz.lays156 extra156 a c ⟨sep.toArray⟩ w).mono fun e w' ⟨h1, h2⟩ => ⟨h1, h2 ▸ Below.refl _ _⟩
  · have := Any.strings_Join Tryz.lays156 extra156 b o c (xs.map fun x => ⟨x.toArray⟩) ⟨sep.toArray⟩ w (fun j x hj => by
      rw [List.getElem?_map, Option.map_eq_some_iff] at hj
      obtain ⟨y, hy, rfl⟩ := hj
      exact hc j y hy) hb (by simpa using hN) (by simpa using hle) (by rw [e]; exact hlen)
    rw [e, List.length_map] at this
    exact this
theorem extra155 : Builder.Extra Tryz.prog Tryz.laysm155_ren where
  sizeBuilder := by kernel_rfl
  liesBuilder := by kernel_rfl
  t5 := by kernel_rfl
  a5 := fun w => by kernel_rfl
  z5 := fun w => by kernel_rfl
  v5 := fun w => by kernel_rfl
  infoByte := by kernel_rfl
  cellsByte := by kernel_rfl
  sizeByte := by kernel_rfl
  neB5 := by decide +kernel
theorem replace20 (s : List UInt8) (hs : s.length ≤ 1000000) : PCall Tryz.prog 20 [.d (.str s), .d (.str [32]), .d (.str [32, 32, 32])] (.d (.str (Rul.repl s))) := by
  refine PCall.of_callsT (by rfl) (by rfl) fun w I hT => ?_
  obtain ⟨m, hm⟩ := maxlen_of (Tryz.laysm155_ren.g 1) (of_decide_eq_true (by kernel_rfl)) (fun w0 h => Tryz.laysm155.s1_3 w0 h) hT
  have hcount : Lib.countB ⟨s.toArray⟩ ⟨#[32]⟩ = s.count 32 := count_one 32 s
  have hle : s.count 32 ≤ s.length := List.count_le_length
  refine (Any.strings_ReplaceAll { Tryz.laysm155 with } extra155 ⟨s.toArray⟩ ⟨#[32]⟩ ⟨#[32, 32, 32]⟩ m w (by simp [ByteArray.size]; omega) hm (by decide) (by rw [hcount]; simp [ByteArray.size]; omega)).mono ?_
  rintro e w' ⟨rfl, hb⟩
  refine ⟨?_, hb⟩
  show Go.Ending.returned (.string ⟨(Lib.replaceAll s [32] [32, 32, 32]).toArray⟩) = _
  rw [replaceAll_eq]; rfl
end Go.Proofs.YtjgbdlaecpkmhaaGreatDoor
/- The prepared code of further functions. Written by a program of mine (gen.py) out of what the loaded dump prints. -/

set_option linter.unusedVariables false
set_option maxRecDepth 100000
namespace Go.Proofs.YtjgbdlaecpkmhaaGreatDoor
open Go Nv

/-- narrator.narratorlaw34.awake -/
theorem fn9 : FnIs Tryz.prog 9 0 [Go.ResultVar.tmp 0] (.seq (.region [⟨some 0, Go.Op.assign (Go.Operand.const (Go.Value.bool false)), 4, none⟩])
    (.seq (.region [⟨some 5, Go.Op.call { callee := Go.Callee.value (Go.Operand.func 10), args := #[Go.Operand.const (Go.Value.string { data := #[97, 108, 97, 114, 109, 32, 117, 114, 103, 101, 110, 116, 32, 114, 111, 119, 115, 32, 49, 45, 50, 32, 34, 69, 82, 82, 79, 82, 46, 42, 34, 10, 108, 111, 103, 32, 108, 97, 116, 101, 114, 32, 119, 97, 105, 116, 32, 53, 48, 48, 32, 34, 46, 42, 34] })], argTypes := #[9] }, 25, none⟩,
      ⟨some 4, Go.Op.move (Go.Operand.tmp 5), 25, none⟩,
      ⟨some 6, Go.Op.extract (Go.Operand.tmp 4) 0, 23, none⟩,
      ⟨some 7, Go.Op.extract (Go.Operand.tmp 4) 1, 3, none⟩,
      ⟨some 8, Go.Op.extract (Go.Operand.tmp 4) 2, 24, none⟩,
      ⟨some 1, Go.Op.assign (Go.Operand.tmp 6), 23, none⟩,
      ⟨some 2, Go.Op.assign (Go.Operand.tmp 7), 3, none⟩,
      ⟨some 3, Go.Op.assign (Go.Operand.tmp 8), 24, none⟩])
    (.seq (.region [⟨some 9, Go.Op.move (Go.Operand.tmp 3), 24, none⟩,
      ⟨some 10, Go.Op.binOp Go.BinOp.eql 24 (Go.Operand.tmp 9) (Go.Operand.const (Go.Value.int Go.IntKind.i64 0)) 24, 4, none⟩,
      ⟨some 11, Go.Op.move (Go.Operand.tmp 10), 4, none⟩,
      ⟨some 12, Go.Op.move (Go.Operand.tmp 2), 3, (some (11, true))⟩,
      ⟨some 13, Go.Op.binOp Go.BinOp.eql 3 (Go.Operand.tmp 12) (Go.Operand.const (Go.Value.int Go.IntKind.i64 0)) 3, 4, (some (11, true))⟩,
      ⟨some 14, Go.Op.pick (Go.Operand.tmp 11) (Go.Operand.tmp 13) (Go.Operand.const (Go.Value.bool false)), 4, none⟩,
      ⟨some 15, Go.Op.move (Go.Operand.tmp 14), 4, none⟩,
      ⟨some 16, Go.Op.move (Go.Operand.tmp 1), 23, (some (15, true))⟩,
      ⟨some 17, Go.Op.build 33 #[(0, Go.Operand.const (Go.Value.string { data := #[97, 108, 97, 114, 109] })), (1, Go.Operand.const (Go.Value.string { data := #[69, 82, 82, 79, 82, 46, 42] })), (3, Go.Operand.const (Go.Value.int Go.IntKind.i64 2)), (4, Go.Operand.const (Go.Value.int Go.IntKind.i64 1))], 33, (some (15, true))⟩,
      ⟨some 18, Go.Op.build 33 #[(0, Go.Operand.const (Go.Value.string { data := #[108, 111, 103] })), (1, Go.Operand.const (Go.Value.string { data := #[46, 42] })), (3, Go.Operand.const (Go.Value.int Go.IntKind.i64 60)), (4, Go.Operand.const (Go.Value.int Go.IntKind.i64 3)), (5, Go.Operand.const (Go.Value.int Go.IntKind.i64 500))], 33, (some (15, true))⟩,
      ⟨some 19, Go.Op.buildSlice 23 2 #[(0, Go.Operand.tmp 17), (1, Go.Operand.tmp 18)], 23, (some (15, true))⟩,
      ⟨some 20, Go.Op.call { callee := Go.Callee.value (Go.Operand.func 13), args := #[Go.Operand.tmp 16, Go.Operand.tmp 19], argTypes := #[23, 23] }, 4, (some (15, true))⟩,
      ⟨some 21, Go.Op.pick (Go.Operand.tmp 15) (Go.Operand.tmp 20) (Go.Operand.const (Go.Value.bool false)), 4, none⟩,
      ⟨some 0, Go.Op.assign (Go.Operand.tmp 21), 4, none⟩])
    .ret))) :=
  ⟨foll, Tryz.f9, Tryz.func9, by kernel_rfl, by kernel_rfl, by kernel_rfl, by rw [Tryz.ntmps9]; decide⟩

end Go.Proofs.YtjgbdlaecpkmhaaGreatDoor
