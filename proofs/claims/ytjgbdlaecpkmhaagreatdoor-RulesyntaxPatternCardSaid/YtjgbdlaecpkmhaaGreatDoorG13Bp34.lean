/- Part of a proof about the functions of this seat. -/
import Derived.Shelf.Strings.FieldsFuncAny
import Derived.Shelf.Strings.SlTrimAscii
import Derived.Shelf.Strings.Trim
import Derived.Shelf.Small.Wraps
import Derived.Shelf.Strconv.Atoi
import Derived.Shelf.Strings.Count
import Derived.Shelf.Strings.SplitShaped
import Derived.Shelf.Strings.Shaped
import Derived.Shelf.Vars
import Derived.Shelf.LaysM
import Derived.KernelRfl
import Derived.Test.YtjgbdlaecpkmhaaGreatDoorProg
import Derived.Test.YtjgbdlaecpkmhaaGreatDoorG11Rul
import Derived.Test.YtjgbdlaecpkmhaaGreatDoorG12Rst
import Derived.Test.YtjgbdlaecpkmhaaGreatDoorG10Base34
/- The layings of the library's functions on strings in this program, and their contracts. -/














set_option linter.unusedVariables false
set_option linter.unusedSimpArgs false
set_option maxRecDepth 100000
namespace Go.Proofs.YtjgbdlaecpkmhaaGreatDoor
open Go.Shelf
def Tryz.laysm146_ren : Go.Shelf.Ren := ⟨fun | 146 => 18 | 221 => 33 | 268 => 50 | 138 => 11 | 143 => 25 | 195 => 23 | 197 => 51 | 218 => 24 | 219 => 45 | 260 => 70 | 217 => 59 | 225 => 60 | 224 => 61 | 267 => 62 | 266 => 80 | 314 => 81 | n => n, fun | 9 => 9 | 31 => 37 | 3 => 3 | 4 => 4 | 0 => 0 | 105 => 83 | 21 => 21 | 5 => 5 | 46 => 96 | 119 => 122 | 139 => 125 | 138 => 124 | 146 => 114 | 51 => 113 | n => n, fun | 1 => 0 | 3 => 1 | 4 => 2 | n => n⟩
theorem Tryz.laysm146 : Go.Proofs.LaysM.n146 Tryz.prog Tryz.laysm146_ren where
  mixed := by kernel_rfl
  f138 := Tryz.func11.trans (congrArg some (by kernel_rfl))
  f143 := Tryz.func25.trans (congrArg some (by kernel_rfl))
  f146 := Tryz.func18.trans (congrArg some (by kernel_rfl))
  f195 := Tryz.func23.trans (congrArg some (by kernel_rfl))
  f197 := Tryz.func51.trans (congrArg some (by kernel_rfl))
  f217 := Tryz.func59.trans (congrArg some (by kernel_rfl))
  f218 := Tryz.func24.trans (congrArg some (by kernel_rfl))
  f219 := Tryz.func45.trans (congrArg some (by kernel_rfl))
  f221 := Tryz.func33.trans (congrArg some (by kernel_rfl))
  f224 := Tryz.func61.trans (congrArg some (by kernel_rfl))
  f225 := Tryz.func60.trans (congrArg some (by kernel_rfl))
  f260 := Tryz.func70.trans (congrArg some (by kernel_rfl))
  f266 := Tryz.func80.trans (congrArg some (by kernel_rfl))
  f267 := Tryz.func62.trans (congrArg some (by kernel_rfl))
  f268 := Tryz.func50.trans (congrArg some (by kernel_rfl))
  f314 := Tryz.func81.trans (congrArg some (by kernel_rfl))
  t0 := Tryz.underlying0
  a0 := Tryz.isAgg0
  z0 := Tryz.sizeOf0
  v0 := Tryz.zeroValue0
  t3 := Tryz.underlying3
  a3 := Tryz.isAgg3
  z3 := Tryz.sizeOf3
  v3 := Tryz.zeroValue3
  t4 := Tryz.underlying4
  a4 := Tryz.isAgg4
  z4 := Tryz.sizeOf4
  v4 := Tryz.zeroValue4
  t5 := Tryz.underlying5
  a5 := Tryz.isAgg5
  z5 := Tryz.sizeOf5
  v5 := Tryz.zeroValue5
  t9 := Tryz.underlying9
  a9 := Tryz.isAgg9
  z9 := Tryz.sizeOf9
  v9 := Tryz.zeroValue9
  t21 := Tryz.underlying21
  a21 := Tryz.isAgg21
  z21 := Tryz.sizeOf21
  v21 := Tryz.zeroValue21
  t31 := Tryz.underlying37
  a31 := Tryz.isAgg37
  z31 := Tryz.sizeOf37
  v31 := Tryz.zeroValue37
  t46 := Tryz.underlying96
  a46 := Tryz.isAgg96
  z46 := Tryz.sizeOf96
  v46 := Tryz.zeroValue96
  t51 := Tryz.underlying113
  a51 := Tryz.isAgg113
  z51 := Tryz.sizeOf113
  v51 := Tryz.zeroValue113
  t105 := Tryz.underlying83
  a105 := Tryz.isAgg83
  z105 := Tryz.sizeOf83
  v105 := Tryz.zeroValue83
  t119 := Tryz.underlying122
  a119 := Tryz.isAgg122
  z119 := Tryz.sizeOf122
  t138 := Tryz.underlying124
  a138 := Tryz.isAgg124
  z138 := Tryz.sizeOf124
  v138 := Tryz.zeroValue124
  t139 := Tryz.underlying125
  a139 := Tryz.isAgg125
  z139 := Tryz.sizeOf125
  v139 := Tryz.zeroValue125
  t146 := Tryz.underlying114
  a146 := Tryz.isAgg114
  z146 := Tryz.sizeOf114
  v146 := Tryz.zeroValue114
  g1 := by kernel_rfl
  g3 := by kernel_rfl
  g4 := by kernel_rfl
  i0 := by kernel_rfl
  i3 := by kernel_rfl
  i4 := by kernel_rfl
  i5 := by kernel_rfl
  i9 := by kernel_rfl
  i21 := by kernel_rfl
  i31 := by kernel_rfl
  i46 := by kernel_rfl
  i51 := by kernel_rfl
  i105 := by kernel_rfl
  i138 := by kernel_rfl
  i139 := by kernel_rfl
  i146 := by kernel_rfl
  m1 := by kernel_rfl
  s1_3 := fun w h => Go.Proofs.cell_of_shapedOpen_int (zero := #[.int .i64 0]) (t := 3) h (of_decide_eq_true (by kernel_rfl)) (by kernel_rfl) rfl (by kernel_rfl) (by kernel_rfl) Tryz.underlying3
  m3 := by kernel_rfl
  m4 := by kernel_rfl
def Tryz.laysm145_ren : Go.Shelf.Ren := ⟨fun | 145 => 19 | 220 => 34 | 219 => 45 | 217 => 59 | 225 => 60 | 224 => 61 | 267 => 62 | 266 => 80 | 314 => 81 | n => n, fun | 9 => 9 | 4 => 4 | 59 => 42 | 3 => 3 | 5 => 5 | 46 => 96 | 146 => 114 | 51 => 113 | n => n, fun | 1 => 0 | n => n⟩
theorem Tryz.laysm145 : Go.Proofs.LaysM.n145 Tryz.prog Tryz.laysm145_ren where
  mixed := by kernel_rfl
  f145 := Tryz.func19.trans (congrArg some (by kernel_rfl))
  f217 := Tryz.func59.trans (congrArg some (by kernel_rfl))
  f219 := Tryz.func45.trans (congrArg some (by kernel_rfl))
  f220 := Tryz.func34.trans (congrArg some (by kernel_rfl))
  f224 := Tryz.func61.trans (congrArg some (by kernel_rfl))
  f225 := Tryz.func60.trans (congrArg some (by kernel_rfl))
  f266 := Tryz.func80.trans (congrArg some (by kernel_rfl))
  f267 := Tryz.func62.trans (congrArg some (by kernel_rfl))
  f314 := Tryz.func81.trans (congrArg some (by kernel_rfl))
  t3 := Tryz.underlying3
  a3 := Tryz.isAgg3
  z3 := Tryz.sizeOf3
  v3 := Tryz.zeroValue3
  t4 := Tryz.underlying4
  a4 := Tryz.isAgg4
  z4 := Tryz.sizeOf4
  v4 := Tryz.zeroValue4
  t5 := Tryz.underlying5
  a5 := Tryz.isAgg5
  z5 := Tryz.sizeOf5
  v5 := Tryz.zeroValue5
  t9 := Tryz.underlying9
  a9 := Tryz.isAgg9
  z9 := Tryz.sizeOf9
  v9 := Tryz.zeroValue9
  t46 := Tryz.underlying96
  a46 := Tryz.isAgg96
  z46 := Tryz.sizeOf96
  v46 := Tryz.zeroValue96
  t51 := Tryz.underlying113
  a51 := Tryz.isAgg113
  z51 := Tryz.sizeOf113
  v51 := Tryz.zeroValue113
  t59 := Tryz.underlying42
  a59 := Tryz.isAgg42
  z59 := Tryz.sizeOf42
  v59 := Tryz.zeroValue42
  t146 := Tryz.underlying114
  a146 := Tryz.isAgg114
  z146 := Tryz.sizeOf114
  v146 := Tryz.zeroValue114
  g1 := by kernel_rfl
  i3 := by kernel_rfl
  i4 := by kernel_rfl
  i5 := by kernel_rfl
  i9 := by kernel_rfl
  i46 := by kernel_rfl
  i51 := by kernel_rfl
  i59 := by kernel_rfl
  i146 := by kernel_rfl
  m1 := by kernel_rfl
  s1_3 := fun w h => Go.Proofs.cell_of_shapedOpen_int (zero := #[.int .i64 0]) (t := 3) h (of_decide_eq_true (by kernel_rfl)) (by kernel_rfl) rfl (by kernel_rfl) (by kernel_rfl) Tryz.underlying3
def Tryz.lays229_ren : Go.Shelf.Ren := ⟨fun | 229 => 36 | n => n, fun | 9 => 9 | 40 => 65 | 31 => 37 | 152 => 85 | 3 => 3 | 0 => 0 | 4 => 4 | 21 => 21 | 154 => 87 | n => n, fun | n => n⟩
theorem Tryz.lays229 : Go.Proofs.Lays.n229 Tryz.prog Tryz.lays229_ren where
  mixed := by kernel_rfl
  f229 := Tryz.func36.trans (congrArg some (by kernel_rfl))
  t0 := Tryz.underlying0
  a0 := Tryz.isAgg0
  z0 := Tryz.sizeOf0
  v0 := Tryz.zeroValue0
  t3 := Tryz.underlying3
  a3 := Tryz.isAgg3
  z3 := Tryz.sizeOf3
  v3 := Tryz.zeroValue3
  t4 := Tryz.underlying4
  a4 := Tryz.isAgg4
  z4 := Tryz.sizeOf4
  v4 := Tryz.zeroValue4
  t9 := Tryz.underlying9
  a9 := Tryz.isAgg9
  z9 := Tryz.sizeOf9
  v9 := Tryz.zeroValue9
  t21 := Tryz.underlying21
  a21 := Tryz.isAgg21
  z21 := Tryz.sizeOf21
  v21 := Tryz.zeroValue21
  t31 := Tryz.underlying37
  a31 := Tryz.isAgg37
  z31 := Tryz.sizeOf37
  v31 := Tryz.zeroValue37
  t40 := Tryz.underlying65
  a40 := Tryz.isAgg65
  z40 := Tryz.sizeOf65
  v40 := Tryz.zeroValue65
  t152 := Tryz.underlying85
  a152 := Tryz.isAgg85
  z152 := Tryz.sizeOf85
  v152 := Tryz.zeroValue85
  t154 := Tryz.underlying87
  a154 := Tryz.isAgg87
  z154 := Tryz.sizeOf87
  v154 := Tryz.zeroValue87
def Tryz.lays162_ren : Go.Shelf.Ren := ⟨fun | 162 => 38 | 232 => 52 | 227 => 53 | 234 => 54 | 236 => 55 | 228 => 71 | 271 => 72 | 151 => 73 | 120 => 89 | 197 => 51 | 152 => 90 | 260 => 70 | 137 => 103 | 119 => 104 | 224 => 61 | 225 => 60 | 217 => 59 | 266 => 80 | n => n, fun | 9 => 9 | 4 => 4 | 3 => 3 | 5 => 5 | 117 => 91 | 116 => 90 | 0 => 0 | 124 => 94 | 21 => 21 | 105 => 83 | 46 => 96 | 119 => 122 | 139 => 125 | 138 => 124 | n => n, fun | 3 => 1 | 4 => 2 | n => n⟩
theorem Tryz.lays162 : Go.Proofs.Lays.n162 Tryz.prog Tryz.lays162_ren where
  mixed := by kernel_rfl
  f119 := Tryz.func104.trans (congrArg some (by kernel_rfl))
  f120 := Tryz.func89.trans (congrArg some (by kernel_rfl))
  f137 := Tryz.func103.trans (congrArg some (by kernel_rfl))
  f151 := Tryz.func73.trans (congrArg some (by kernel_rfl))
  f152 := Tryz.func90.trans (congrArg some (by kernel_rfl))
  f162 := Tryz.func38.trans (congrArg some (by kernel_rfl))
  f197 := Tryz.func51.trans (congrArg some (by kernel_rfl))
  f217 := Tryz.func59.trans (congrArg some (by kernel_rfl))
  f224 := Tryz.func61.trans (congrArg some (by kernel_rfl))
  f225 := Tryz.func60.trans (congrArg some (by kernel_rfl))
  f227 := Tryz.func53.trans (congrArg some (by kernel_rfl))
  f228 := Tryz.func71.trans (congrArg some (by kernel_rfl))
  f232 := Tryz.func52.trans (congrArg some (by kernel_rfl))
  f234 := Tryz.func54.trans (congrArg some (by kernel_rfl))
  f236 := Tryz.func55.trans (congrArg some (by kernel_rfl))
  f260 := Tryz.func70.trans (congrArg some (by kernel_rfl))
  f266 := Tryz.func80.trans (congrArg some (by kernel_rfl))
  f271 := Tryz.func72.trans (congrArg some (by kernel_rfl))
  t0 := Tryz.underlying0
  a0 := Tryz.isAgg0
  z0 := Tryz.sizeOf0
  v0 := Tryz.zeroValue0
  t3 := Tryz.underlying3
  a3 := Tryz.isAgg3
  z3 := Tryz.sizeOf3
  v3 := Tryz.zeroValue3
  t4 := Tryz.underlying4
  a4 := Tryz.isAgg4
  z4 := Tryz.sizeOf4
  v4 := Tryz.zeroValue4
  t5 := Tryz.underlying5
  a5 := Tryz.isAgg5
  z5 := Tryz.sizeOf5
  v5 := Tryz.zeroValue5
  t9 := Tryz.underlying9
  a9 := Tryz.isAgg9
  z9 := Tryz.sizeOf9
  v9 := Tryz.zeroValue9
  t21 := Tryz.underlying21
  a21 := Tryz.isAgg21
  z21 := Tryz.sizeOf21
  v21 := Tryz.zeroValue21
  t46 := Tryz.underlying96
  a46 := Tryz.isAgg96
  z46 := Tryz.sizeOf96
  v46 := Tryz.zeroValue96
  t105 := Tryz.underlying83
  a105 := Tryz.isAgg83
  z105 := Tryz.sizeOf83
  v105 := Tryz.zeroValue83
  t116 := Tryz.underlying90
  a116 := Tryz.isAgg90
  z116 := Tryz.sizeOf90
  t117 := Tryz.underlying91
  a117 := Tryz.isAgg91
  z117 := Tryz.sizeOf91
  v117 := Tryz.zeroValue91
  t119 := Tryz.underlying122
  a119 := Tryz.isAgg122
  z119 := Tryz.sizeOf122
  t124 := Tryz.underlying94
  a124 := Tryz.isAgg94
  z124 := Tryz.sizeOf94
  v124 := Tryz.zeroValue94
  t138 := Tryz.underlying124
  a138 := Tryz.isAgg124
  z138 := Tryz.sizeOf124
  v138 := Tryz.zeroValue124
  t139 := Tryz.underlying125
  a139 := Tryz.isAgg125
  z139 := Tryz.sizeOf125
  v139 := Tryz.zeroValue125
  g3 := by kernel_rfl
  g4 := by kernel_rfl
def Tryz.lays104_ren : Go.Shelf.Ren := ⟨fun | 104 => 39 | 211 => 56 | 207 => 74 | n => n, fun | 9 => 9 | 4 => 4 | 24 => 67 | 3 => 3 | n => n, fun | n => n⟩
theorem Tryz.lays104 : Go.Proofs.Lays.n104 Tryz.prog Tryz.lays104_ren where
  mixed := by kernel_rfl
  f104 := Tryz.func39.trans (congrArg some (by kernel_rfl))
  f207 := Tryz.func74.trans (congrArg some (by kernel_rfl))
  f211 := Tryz.func56.trans (congrArg some (by kernel_rfl))
  t3 := Tryz.underlying3
  a3 := Tryz.isAgg3
  z3 := Tryz.sizeOf3
  v3 := Tryz.zeroValue3
  t4 := Tryz.underlying4
  a4 := Tryz.isAgg4
  z4 := Tryz.sizeOf4
  v4 := Tryz.zeroValue4
  t9 := Tryz.underlying9
  a9 := Tryz.isAgg9
  z9 := Tryz.sizeOf9
  v9 := Tryz.zeroValue9
  t24 := Tryz.underlying67
  a24 := Tryz.isAgg67
  z24 := Tryz.sizeOf67
  v24 := Tryz.zeroValue67
def Tryz.lays160_ren : Go.Shelf.Ren := ⟨fun | 160 => 57 | 232 => 52 | 231 => 75 | 227 => 53 | 234 => 54 | 233 => 76 | 236 => 55 | 235 => 77 | 228 => 71 | 271 => 72 | 151 => 73 | 197 => 51 | 120 => 89 | 152 => 90 | 260 => 70 | 137 => 103 | 119 => 104 | 224 => 61 | 225 => 60 | 217 => 59 | 266 => 80 | n => n, fun | 9 => 9 | 4 => 4 | 3 => 3 | 5 => 5 | 117 => 91 | 116 => 90 | 0 => 0 | 124 => 94 | 21 => 21 | 105 => 83 | 46 => 96 | 119 => 122 | 139 => 125 | 138 => 124 | n => n, fun | 3 => 1 | 4 => 2 | n => n⟩
theorem Tryz.lays160 : Go.Proofs.Lays.n160 Tryz.prog Tryz.lays160_ren where
  mixed := by kernel_rfl
  f119 := Tryz.func104.trans (congrArg some (by kernel_rfl))
  f120 := Tryz.func89.trans (congrArg some (by kernel_rfl))
  f137 := Tryz.func103.trans (congrArg some (by kernel_rfl))
  f151 := Tryz.func73.trans (congrArg some (by kernel_rfl))
  f152 := Tryz.func90.trans (congrArg some (by kernel_rfl))
  f160 := Tryz.func57.trans (congrArg some (by kernel_rfl))
  f197 := Tryz.func51.trans (congrArg some (by kernel_rfl))
  f217 := Tryz.func59.trans (congrArg some (by kernel_rfl))
  f224 := Tryz.func61.trans (congrArg some (by kernel_rfl))
  f225 := Tryz.func60.trans (congrArg some (by kernel_rfl))
  f227 := Tryz.func53.trans (congrArg some (by kernel_rfl))
  f228 := Tryz.func71.trans (congrArg some (by kernel_rfl))
  f231 := Tryz.func75.trans (congrArg some (by kernel_rfl))
  f232 := Tryz.func52.trans (congrArg some (by kernel_rfl))
  f233 := Tryz.func76.trans (congrArg some (by kernel_rfl))
  f234 := Tryz.func54.trans (congrArg some (by kernel_rfl))
  f235 := Tryz.func77.trans (congrArg some (by kernel_rfl))
  f236 := Tryz.func55.trans (congrArg some (by kernel_rfl))
  f260 := Tryz.func70.trans (congrArg some (by kernel_rfl))
  f266 := Tryz.func80.trans (congrArg some (by kernel_rfl))
  f271 := Tryz.func72.trans (congrArg some (by kernel_rfl))
  t0 := Tryz.underlying0
  a0 := Tryz.isAgg0
  z0 := Tryz.sizeOf0
  v0 := Tryz.zeroValue0
  t3 := Tryz.underlying3
  a3 := Tryz.isAgg3
  z3 := Tryz.sizeOf3
  v3 := Tryz.zeroValue3
  t4 := Tryz.underlying4
  a4 := Tryz.isAgg4
  z4 := Tryz.sizeOf4
  v4 := Tryz.zeroValue4
  t5 := Tryz.underlying5
  a5 := Tryz.isAgg5
  z5 := Tryz.sizeOf5
  v5 := Tryz.zeroValue5
  t9 := Tryz.underlying9
  a9 := Tryz.isAgg9
  z9 := Tryz.sizeOf9
  v9 := Tryz.zeroValue9
  t21 := Tryz.underlying21
  a21 := Tryz.isAgg21
  z21 := Tryz.sizeOf21
  v21 := Tryz.zeroValue21
  t46 := Tryz.underlying96
  a46 := Tryz.isAgg96
  z46 := Tryz.sizeOf96
  v46 := Tryz.zeroValue96
  t105 := Tryz.underlying83
  a105 := Tryz.isAgg83
  z105 := Tryz.sizeOf83
  v105 := Tryz.zeroValue83
  t116 := Tryz.underlying90
  a116 := Tryz.isAgg90
  z116 := Tryz.sizeOf90
  t117 := Tryz.underlying91
  a117 := Tryz.isAgg91
  z117 := Tryz.sizeOf91
  v117 := Tryz.zeroValue91
  t119 := Tryz.underlying122
  a119 := Tryz.isAgg122
  z119 := Tryz.sizeOf122
  t124 := Tryz.underlying94
  a124 := Tryz.isAgg94
  z124 := Tryz.sizeOf94
  v124 := Tryz.zeroValue94
  t138 := Tryz.underlying124
  a138 := Tryz.isAgg124
  z138 := Tryz.sizeOf124
  v138 := Tryz.zeroValue124
  t139 := Tryz.underlying125
  a139 := Tryz.isAgg125
  z139 := Tryz.sizeOf125
  v139 := Tryz.zeroValue125
  g3 := by kernel_rfl
  g4 := by kernel_rfl
def Tryz.lays172_ren : Go.Shelf.Ren := ⟨fun | 172 => 58 | 244 => 78 | 245 => 79 | 247 => 91 | 279 => 92 | 280 => 93 | 281 => 94 | 282 => 95 | 287 => 105 | 316 => 106 | 171 => 30 | 205 => 107 | 321 => 113 | 322 => 114 | 243 => 48 | 246 => 68 | 283 => 85 | 284 => 86 | 285 => 87 | 286 => 88 | 129 => 99 | 317 => 98 | 318 => 100 | 319 => 101 | 320 => 102 | 337 => 111 | 338 => 112 | n => n, fun | 9 => 9 | 3 => 3 | 75 => 56 | 76 => 57 | 4 => 4 | 5 => 5 | 167 => 127 | 37 => 38 | 0 => 0 | 85 => 128 | 2 => 2 | 168 => 130 | 53 => 117 | 175 => 139 | 46 => 96 | 210 => 143 | 127 => 81 | 145 => 151 | 143 => 149 | 21 => 21 | 171 => 116 | 173 => 120 | 212 => 135 | 51 => 113 | 20 => 20 | 213 => 136 | 232 => 155 | 233 => 156 | 80 => 60 | n => n, fun | 15 => 4 | 16 => 5 | 17 => 3 | 18 => 6 | 19 => 7 | n => n⟩
theorem Tryz.lays172 : Go.Proofs.Lays.n172 Tryz.prog Tryz.lays172_ren where
  mixed := by kernel_rfl
  f129 := Tryz.func99.trans (congrArg some (by kernel_rfl))
  f171 := Tryz.func30.trans (congrArg some (by kernel_rfl))
  f172 := Tryz.func58.trans (congrArg some (by kernel_rfl))
  f205 := Tryz.func107.trans (congrArg some (by kernel_rfl))
  f243 := Tryz.func48.trans (congrArg some (by kernel_rfl))
  f244 := Tryz.func78.trans (congrArg some (by kernel_rfl))
  f245 := Tryz.func79.trans (congrArg some (by kernel_rfl))
  f246 := Tryz.func68.trans (congrArg some (by kernel_rfl))
  f247 := Tryz.func91.trans (congrArg some (by kernel_rfl))
  f279 := Tryz.func92.trans (congrArg some (by kernel_rfl))
  f280 := Tryz.func93.trans (congrArg some (by kernel_rfl))
  f281 := Tryz.func94.trans (congrArg some (by kernel_rfl))
  f282 := Tryz.func95.trans (congrArg some (by kernel_rfl))
  f283 := Tryz.func85.trans (congrArg some (by kernel_rfl))
  f284 := Tryz.func86.trans (congrArg some (by kernel_rfl))
  f285 := Tryz.func87.trans (congrArg some (by kernel_rfl))
  f286 := Tryz.func88.trans (congrArg some (by kernel_rfl))
  f287 := Tryz.func105.trans (congrArg some (by kernel_rfl))
  f316 := Tryz.func106.trans (congrArg some (by kernel_rfl))
  f317 := Tryz.func98.trans (congrArg some (by kernel_rfl))
  f318 := Tryz.func100.trans (congrArg some (by kernel_rfl))
  f319 := Tryz.func101.trans (congrArg some (by kernel_rfl))
  f320 := Tryz.func102.trans (congrArg some (by kernel_rfl))
  f321 := Tryz.func113.trans (congrArg some (by kernel_rfl))
  f322 := Tryz.func114.trans (congrArg some (by kernel_rfl))
  f337 := Tryz.func111.trans (congrArg some (by kernel_rfl))
  f338 := Tryz.func112.trans (congrArg some (by kernel_rfl))
  t0 := Tryz.underlying0
  a0 := Tryz.isAgg0
  z0 := Tryz.sizeOf0
  v0 := Tryz.zeroValue0
  t2 := Tryz.underlying2
  a2 := Tryz.isAgg2
  z2 := Tryz.sizeOf2
  v2 := Tryz.zeroValue2
  t3 := Tryz.underlying3
  a3 := Tryz.isAgg3
  z3 := Tryz.sizeOf3
  v3 := Tryz.zeroValue3
  t4 := Tryz.underlying4
  a4 := Tryz.isAgg4
  z4 := Tryz.sizeOf4
  v4 := Tryz.zeroValue4
  t5 := Tryz.underlying5
  a5 := Tryz.isAgg5
  z5 := Tryz.sizeOf5
  v5 := Tryz.zeroValue5
  t9 := Tryz.underlying9
  a9 := Tryz.isAgg9
  z9 := Tryz.sizeOf9
  v9 := Tryz.zeroValue9
  t20 := Tryz.underlying20
  a20 := Tryz.isAgg20
  z20 := Tryz.sizeOf20
  v20 := Tryz.zeroValue20
  t21 := Tryz.underlying21
  a21 := Tryz.isAgg21
  z21 := Tryz.sizeOf21
  v21 := Tryz.zeroValue21
  t37 := Tryz.underlying38
  a37 := Tryz.isAgg38
  z37 := Tryz.sizeOf38
  v37 := Tryz.zeroValue38
  t46 := Tryz.underlying96
  a46 := Tryz.isAgg96
  z46 := Tryz.sizeOf96
  v46 := Tryz.zeroValue96
  t51 := Tryz.underlying113
  a51 := Tryz.isAgg113
  z51 := Tryz.sizeOf113
  v51 := Tryz.zeroValue113
  t53 := Tryz.underlying117
  a53 := Tryz.isAgg117
  z53 := Tryz.sizeOf117
  v53 := Tryz.zeroValue117
  t75 := Tryz.underlying56
  a75 := Tryz.isAgg56
  z75 := Tryz.sizeOf56
  v75 := Tryz.zeroValue56
  t76 := Tryz.underlying57
  a76 := Tryz.isAgg57
  z76 := Tryz.sizeOf57
  v76 := Tryz.zeroValue57
  t85 := Tryz.underlying128
  a85 := Tryz.isAgg128
  z85 := Tryz.sizeOf128
  v85 := Tryz.zeroValue128
  t127 := Tryz.underlying81
  a127 := Tryz.isAgg81
  z127 := Tryz.sizeOf81
  v127 := Tryz.zeroValue81
  t143 := Tryz.underlying149
  a143 := Tryz.isAgg149
  z143 := Tryz.sizeOf149
  v143 := Tryz.zeroValue149
  t145 := Tryz.underlying151
  a145 := Tryz.isAgg151
  z145 := Tryz.sizeOf151
  v145 := Tryz.zeroValue151
  t167 := Tryz.underlying127
  a167 := Tryz.isAgg127
  z167 := Tryz.sizeOf127
  v167 := Tryz.zeroValue127
  t168 := Tryz.underlying130
  a168 := Tryz.isAgg130
  z168 := Tryz.sizeOf130
  v168 := Tryz.zeroValue130
  t171 := Tryz.underlying116
  a171 := Tryz.isAgg116
  z171 := Tryz.sizeOf116
  v171 := Tryz.zeroValue116
  t173 := Tryz.underlying120
  a173 := Tryz.isAgg120
  z173 := Tryz.sizeOf120
  v173 := Tryz.zeroValue120
  t175 := Tryz.underlying139
  a175 := Tryz.isAgg139
  z175 := Tryz.sizeOf139
  v175 := Tryz.zeroValue139
  t210 := Tryz.underlying143
  a210 := Tryz.isAgg143
  z210 := Tryz.sizeOf143
  v210 := Tryz.zeroValue143
  t212 := Tryz.underlying135
  a212 := Tryz.isAgg135
  z212 := Tryz.sizeOf135
  v212 := Tryz.zeroValue135
  t213 := Tryz.underlying136
  a213 := Tryz.isAgg136
  z213 := Tryz.sizeOf136
  t232 := Tryz.underlying155
  a232 := Tryz.isAgg155
  z232 := Tryz.sizeOf155
  v232 := Tryz.zeroValue155
  t233 := Tryz.underlying156
  a233 := Tryz.isAgg156
  z233 := Tryz.sizeOf156
  v233 := Tryz.zeroValue156
  g15 := by kernel_rfl
  g16 := by kernel_rfl
  g17 := by kernel_rfl
  g18 := by kernel_rfl
  g19 := by kernel_rfl
def Tryz.lays138_ren : Go.Shelf.Ren := ⟨fun | 138 => 11 | 195 => 23 | 218 => 24 | 143 => 25 | 219 => 45 | 217 => 59 | 225 => 60 | 224 => 61 | 267 => 62 | 266 => 80 | 314 => 81 | n => n, fun | 9 => 9 | 3 => 3 | 4 => 4 | 5 => 5 | 0 => 0 | 46 => 96 | 146 => 114 | 51 => 113 | n => n, fun | 1 => 0 | n => n⟩
theorem Tryz.lays138 : Go.Proofs.Lays.n138 Tryz.prog Tryz.lays138_ren where
  mixed := by kernel_rfl
  f138 := Tryz.func11.trans (congrArg some (by kernel_rfl))
  f143 := Tryz.func25.trans (congrArg some (by kernel_rfl))
  f195 := Tryz.func23.trans (congrArg some (by kernel_rfl))
  f217 := Tryz.func59.trans (congrArg some (by kernel_rfl))
  f218 := Tryz.func24.trans (congrArg some (by kernel_rfl))
  f219 := Tryz.func45.trans (congrArg some (by kernel_rfl))
  f224 := Tryz.func61.trans (congrArg some (by kernel_rfl))
  f225 := Tryz.func60.trans (congrArg some (by kernel_rfl))
  f266 := Tryz.func80.trans (congrArg some (by kernel_rfl))
  f267 := Tryz.func62.trans (congrArg some (by kernel_rfl))
  f314 := Tryz.func81.trans (congrArg some (by kernel_rfl))
  t0 := Tryz.underlying0
  a0 := Tryz.isAgg0
  z0 := Tryz.sizeOf0
  v0 := Tryz.zeroValue0
  t3 := Tryz.underlying3
  a3 := Tryz.isAgg3
  z3 := Tryz.sizeOf3
  v3 := Tryz.zeroValue3
  t4 := Tryz.underlying4
  a4 := Tryz.isAgg4
  z4 := Tryz.sizeOf4
  v4 := Tryz.zeroValue4
  t5 := Tryz.underlying5
  a5 := Tryz.isAgg5
  z5 := Tryz.sizeOf5
  v5 := Tryz.zeroValue5
  t9 := Tryz.underlying9
  a9 := Tryz.isAgg9
  z9 := Tryz.sizeOf9
  v9 := Tryz.zeroValue9
  t46 := Tryz.underlying96
  a46 := Tryz.isAgg96
  z46 := Tryz.sizeOf96
  v46 := Tryz.zeroValue96
  t51 := Tryz.underlying113
  a51 := Tryz.isAgg113
  z51 := Tryz.sizeOf113
  v51 := Tryz.zeroValue113
  t146 := Tryz.underlying114
  a146 := Tryz.isAgg114
  z146 := Tryz.sizeOf114
  v146 := Tryz.zeroValue114
  g1 := by kernel_rfl
open Go.RowKit Go.Lib Nv Rul
theorem maxlen_of (g : Nat) (hg : g < Tryz.prog.globals.size) (hq : ∀ w0 : Go.World, w0.ShapedOpen Tryz.prog → ∃ m, w0.cell? ⟨g, 0, none⟩ = some (.int .i64 m)) {w : Go.World} {I : Nat → Prop} (hT : Tabs Tryz.prog I w) : ∃ m, w.cell? ⟨g, 0, none⟩ = some (.int .i64 m) :=
  hT.cell (g := g) hg (Q := fun v => ∃ m, v = some (.int .i64 m)) hq
theorem below_alloc (w : Go.World) (o : Go.Obj) : Below w.heap.size w (w.alloc o) := ⟨rfl, rfl, rfl, by rw [push_size]; omega, fun k hk => push_old w o k hk⟩
theorem split18 (s : List UInt8) (hs : s.length < 4294967281) : PCall Tryz.prog 18 [.d (.str s), .d (.str [10])] (.d (.list 1 (strsD (linesOf s)))) := by
  refine PCall.of_strings fun ρ σ w I vs hr hv => ?_
  rw [scs_inv (by rfl) hv]
  obtain ⟨m, hm⟩ := maxlen_of (Tryz.laysm146_ren.g 1) (of_decide_eq_true (by kernel_rfl)) (fun w0 h => Tryz.laysm146.s1_3 w0 h) hr.tabs
  refine (Any.strings_Split { Tryz.laysm146 with } Tryz.laysm146.i9 ⟨s.toArray⟩ ⟨#[10]⟩ m w (by simpa [ByteArray.size] using hs) hm (by decide)).mono ?_
  rintro e w' ⟨rfl, rfl⟩
  have hcount : Lib.countB ⟨s.toArray⟩ ⟨#[10]⟩ = s.count 10 := count_one 10 s
  have hdata : (Lib.splitB ⟨#[10]⟩ 0 (Lib.countB ⟨s.toArray⟩ ⟨#[10]⟩) ⟨s.toArray⟩).map (·.data.toList) = linesOf s := by
    rw [splitB_data, hcount]; exact split_lines s
  have hlen : Lib.countB ⟨s.toArray⟩ ⟨#[10]⟩ + 1 = (linesOf s).length := by rw [hcount, lines_count]
  refine ⟨w.heap.size, (linesOf s).length, by rw [hlen], Nat.le_refl _, Nat.le_refl _, by rw [push_size]; omega, fun j x hj => ?_, below_alloc _ _⟩
  rw [← hdata, List.getElem?_map, Option.map_eq_some_iff] at hj
  obtain ⟨b, hb, rfl⟩ := hj
  simp only [Go.World.cell?, push_new, Option.bind_some]
  simp [hb]
theorem cut19 (s : List UInt8) (q : UInt8) (hs : s.length < 4294967281) : PCall Tryz.prog 19 [.d (.str s), .d (.str [q])] (.tuple [.d (.str (cutAt q s).1), .d (.str (cutAt q s).2.1), .d (.bool (cutAt q s).2.2)]) := by
  refine PCall.of_callsV (by rfl) (tuple_V (vs := #[.string ⟨(cutAt q s).1.toArray⟩, .string ⟨(cutAt q s).2.1.toArray⟩, .bool (cutAt q s).2.2]) rfl fun j a hj ρ σ I w => ?_) fun w I hT => ?_
  · match j, hj with
    | 0, hj => simp at hj; subst hj; exact .d (.str _)
    | 1, hj => simp at hj; subst hj; exact .d (.str _)
    | 2, hj => simp at hj; subst hj; exact .d (.bool _)
  obtain ⟨m, hm⟩ := maxlen_of (Tryz.laysm145_ren.g 1) (of_decide_eq_true (by kernel_rfl)) (fun w0 h => Tryz.laysm145.s1_3 w0 h) hT
  refine (Any.strings_Cut { Tryz.laysm145 with } ⟨s.toArray⟩ ⟨#[q]⟩ m w (by simpa [ByteArray.size] using hs) hm).mono ?_
  rintro e w' ⟨rfl, n, rfl⟩
  have e := cut_eq q s
  refine ⟨?_, below_drew w n⟩
  show Go.Ending.returned _ = Go.Ending.returned _
  simp only [e]
theorem words37 (W : Go.World) (x : Nat) : Go.Calls Tryz.prog 37 (#[encR x] ++ #[]) W fun e w' => e = .returned (.bool (Rul.blank x)) ∧ ∃ q, w' = W.drewN q := by
  have hb : Rul.blank x = decide ((x : Int) = 32) := by unfold Rul.blank; rw [Bool.eq_iff_iff]; simp; omega
  show Go.Calls Tryz.prog 37 #[.int .i32 x] W _
  rw [hb]
  go_enter Tryz.func37, Tryz.ntmps37
  go_wp2
  all_goals
    go_ret
    exact ⟨rfl, 0, rfl⟩
theorem fields36 (s : List UInt8) (hs : s.length ≤ 4294967296) : PCall Tryz.prog 36 [.d (.str s), .d (.func (.func 37))] (.d (.list 1 (strsD (wordsOf s)))) := by
  refine PCall.of_strings fun ρ σ w I vs hr hv => ?_
  have hsz : vs.size = 2 := by have := hv.1; simpa using this.symm
  have hv0 := (hv.2 0 _ rfl).d_inv.str_inv
  have hv1 := (hv.2 1 _ rfl).d_inv
  obtain ⟨v0, v1, rfl⟩ : ∃ v0 v1, vs = #[v0, v1] := by
    obtain ⟨l⟩ := vs
    match l, hsz with
    | [a, b], _ => exact ⟨a, b, rfl⟩
  simp only [Array.getD_eq_getD_getElem?, List.size_toArray, List.length_cons, List.length_nil, List.getElem?_toArray, List.getElem?_cons_zero, List.getElem?_cons_succ, Option.getD_some] at hv0 hv1
  subst hv0
  obtain rfl : v1 = .func (.func 37) #[] #[] := by cases hv1; rfl
  have eg : ∀ args w, (Go.callFunc 37 args).run Tryz.prog w = .ok (.enter 37 args) w := enters_of Tryz.func37 (by kernel_rfl) rfl
  refine (Any.strings_FieldsFunc Tryz.lays229 37 #[] eg Rul.blank ⟨s.toArray⟩ w (by simpa [ByteArray.size] using hs) (fun W x _ => words37 W x) (by kernel_rfl) (by kernel_rfl)).mono ?_
  rintro e w' ⟨A, rfl, hA, ho, hb⟩
  have hdata := fields_words ⟨s.toArray⟩
  have hlen : (goFieldsP Rul.blank ⟨s.toArray⟩).length = (wordsOf s).length := by rw [← hdata, List.length_map]
  obtain ⟨h1, h2⟩ := ho
  rcases h2 with ⟨h2, _⟩ | ⟨g, cap, cur, h2, h3, h4, h5, h6, h7, h8⟩
  · cases h2
  simp only [Go.Value.slice.injEq, Option.some.injEq, Go.Addr.mk.injEq, true_and, and_true] at h2
  obtain ⟨rfl, rfl⟩ := h2
  refine ⟨A, (goFieldsP Rul.blank ⟨s.toArray⟩).length, by rw [hlen], by rw [hlen]; exact Nat.le_refl _, hA, (Array.getElem?_eq_some_iff.1 h4).1, fun j x hj => ?_, hb⟩
  rw [← hdata, List.getElem?_map, Option.map_eq_some_iff] at hj
  obtain ⟨b, hbj, rfl⟩ := hj
  simp only [Go.World.cell?, h4, Option.bind_some]
  have hjl : j < (goFieldsP Rul.blank ⟨s.toArray⟩).length := (List.getElem?_eq_some_iff.1 hbj).1
  have h9 : (cur.toList.take ((goFieldsP Rul.blank ⟨s.toArray⟩).length * 1))[j]? = some (.string b) := by rw [h8, List.getElem?_map, hbj]; rfl
  rw [List.getElem?_take, if_pos (by omega)] at h9
  simpa using h9
theorem trimR38 (s : List UInt8) (hs : s.length ≤ 9223372036854775807) : PCall Tryz.prog 38 [.d (.str s), .d (.str [32])] (.d (.str (trimR s))) :=
  .of_calls' rfl rfl fun w => Any.strings_TrimRight_one Tryz.lays162 ⟨s.toArray⟩ 32 (by decide) w (by simpa [ByteArray.size] using hs)
theorem cutSuf39 (s : List UInt8) (hs : s.length ≤ 9223372036854775807) : PCall Tryz.prog 39 [.d (.str s), .d (.str [34])] (.tuple [.d (.str (Lib.trimSuffix s [34])), .d (.bool (Lib.hasSuffix s [34]))]) := by
  refine PCall.of_callsV (by rfl) (tuple_V (vs := #[.string ⟨(Lib.trimSuffix s [34]).toArray⟩, .bool (Lib.hasSuffix s [34])]) rfl fun j a hj ρ σ I w => ?_) fun w I hT => ?_
  · match j, hj with
    | 0, hj => simp at hj; subst hj; exact .d (.str _)
    | 1, hj => simp at hj; subst hj; exact .d (.bool _)
  exact (Any.strings_CutSuffix Tryz.lays104 ⟨s.toArray⟩ ⟨#[34]⟩ w (by simpa [ByteArray.size] using hs)).mono fun e w' ⟨h1, h2⟩ => ⟨h1, h2 ▸ Below.refl _ _⟩
theorem trim57 (s : List UInt8) (hs : s.length ≤ 9223372036854775807) : PCall Tryz.prog 57 [.d (.str s), .d (.str numerals)] (.d (.str (Lib.trimS s numerals))) :=
  .of_callsT rfl rfl fun w I hT => Any.strings_Trim_laid Tryz.lays160 (by kernel_rfl) ⟨s.toArray⟩ ⟨numerals.toArray⟩ w (by simpa [ByteArray.size] using hs) (by decide) (by
    intro j b hj
    have hm : b ∈ numerals := List.mem_of_getElem? hj
    have hall : ∀ x, x ∈ numerals → x.toNat < 128 := by decide
    exact hall b hm)
theorem below_bytes (w : Go.World) (e : Nat) (t : ByteArray) : Below w.heap.size w (Lib.bytesWorld w e t) := by
  refine ⟨rfl, rfl, rfl, ?_, fun k hk => Lib.bytesWorld_at_old w e t k hk⟩
  rw [Lib.bytesWorld_size]; omega
theorem atoi58 (s : List UInt8) (h : numB s = true) : PCall Tryz.prog 58 [.d (.str s)] (.tuple [.d (.int .i64 (Rul.valOf s)), .d .niliface]) := by
  refine PCall.of_callsV (by rfl) (tuple_V (vs := #[.int .i64 (Rul.valOf s), .nilIface]) rfl fun j a hj ρ σ I w => ?_) fun w I hT => ?_
  · match j, hj with
    | 0, hj => simp at hj; subst hj; exact .d (.int _ _)
    | 1, hj => simp at hj; subst hj; exact .d .niliface
  have hl : s.length ≤ 9 := by simp only [numB, Bool.and_eq_true, decide_eq_true_eq] at h; exact h.1.1.2
  refine (Any.strconv_Atoi Tryz.lays172 ⟨s.toArray⟩ (Rul.valOf s) (by simp [ByteArray.size]; omega) (atoi_num h) w).mono ?_
  rintro e w' ⟨rfl, t, rfl⟩
  exact ⟨rfl, below_bytes _ _ _⟩
theorem count11 (s : List UInt8) : PCall Tryz.prog 11 [.d (.str s), .d (.str [10])] (.d (.int .i64 (s.count 10))) :=
  .of_calls' rfl rfl fun w => Any.strings_Count_one Tryz.lays138 ⟨s.toArray⟩ 10 w
end Go.Proofs.YtjgbdlaecpkmhaaGreatDoor
/- The prepared code of further functions. Written by a program of mine (gen.py) out of what the loaded dump prints. -/

set_option linter.unusedVariables false
set_option maxRecDepth 100000
namespace Go.Proofs.YtjgbdlaecpkmhaaGreatDoor
open Go Nv

/-- narrator.rulesyntax.Parse -/
theorem fn10 : FnIs Tryz.prog 10 1 [Go.ResultVar.tmp 2, Go.ResultVar.tmp 3, Go.ResultVar.tmp 4] (.seq (.region [⟨some 2, Go.Op.assign (Go.Operand.const (Go.Value.slice none 0 0)), 23, none⟩,
      ⟨some 3, Go.Op.assign (Go.Operand.const (Go.Value.int Go.IntKind.i64 0)), 3, none⟩,
      ⟨some 4, Go.Op.assign (Go.Operand.const (Go.Value.int Go.IntKind.i64 0)), 24, none⟩])
    (.seq (.region [⟨some 5, Go.Op.assign (Go.Operand.const (Go.Value.slice none 0 0)), 23, none⟩])
    (.seq (.seq (.region [⟨some 15, Go.Op.move (Go.Operand.tmp 0), 9, none⟩,
      ⟨some 16, Go.Op.call { callee := Go.Callee.value (Go.Operand.func 18), args := #[Go.Operand.tmp 15, Go.Operand.const (Go.Value.string { data := #[10] })], argTypes := #[9, 9] }, 37, none⟩,
      ⟨some 17, Go.Op.call { callee := Go.Callee.builtin Go.Builtin.len, args := #[Go.Operand.tmp 16], argTypes := #[37] }, 3, none⟩,
      ⟨some 18, Go.Op.move (Go.Operand.const (Go.Value.int Go.IntKind.i64 0)), 3, none⟩])
    (.block 0
      (.loop
        (.seq (.region [⟨some 19, Go.Op.binOp Go.BinOp.lss 3 (Go.Operand.tmp 18) (Go.Operand.tmp 17) 3, 0, none⟩])
        (.seq (.cond (Go.Operand.tmp 19)
          .skip
          (.exit 0))
        (.seq (.block 1
          (.seq (.region [⟨some 20, Go.Op.move (Go.Operand.tmp 18), 3, none⟩,
            ⟨some 21, Go.Op.indexAddr 37 (Go.Operand.tmp 16) (Go.Operand.tmp 18), 0, none⟩,
            ⟨some 22, Go.Op.load 9 (Go.Operand.tmp 21), 9, none⟩,
            ⟨some 6, Go.Op.assign (Go.Operand.tmp 20), 3, none⟩,
            ⟨some 7, Go.Op.assign (Go.Operand.tmp 22), 9, none⟩])
          (.seq (.region [⟨some 24, Go.Op.move (Go.Operand.tmp 7), 9, none⟩,
            ⟨some 25, Go.Op.call { callee := Go.Callee.value (Go.Operand.func 19), args := #[Go.Operand.tmp 24, Go.Operand.const (Go.Value.string { data := #[34] })], argTypes := #[9, 9] }, 42, none⟩,
            ⟨some 23, Go.Op.move (Go.Operand.tmp 25), 42, none⟩,
            ⟨some 26, Go.Op.extract (Go.Operand.tmp 23) 0, 9, none⟩,
            ⟨some 27, Go.Op.extract (Go.Operand.tmp 23) 1, 9, none⟩,
            ⟨some 28, Go.Op.extract (Go.Operand.tmp 23) 2, 4, none⟩,
            ⟨some 8, Go.Op.assign (Go.Operand.tmp 26), 9, none⟩,
            ⟨some 9, Go.Op.assign (Go.Operand.tmp 27), 9, none⟩,
            ⟨some 10, Go.Op.assign (Go.Operand.tmp 28), 4, none⟩])
          (.seq (.region [⟨some 29, Go.Op.move (Go.Operand.tmp 8), 9, none⟩,
            ⟨some 30, Go.Op.call { callee := Go.Callee.value (Go.Operand.func 21), args := #[Go.Operand.tmp 29], argTypes := #[9] }, 37, none⟩,
            ⟨some 11, Go.Op.assign (Go.Operand.tmp 30), 37, none⟩])
          (.seq (.seq (.region [⟨some 31, Go.Op.move (Go.Operand.tmp 11), 37, none⟩,
            ⟨some 32, Go.Op.call { callee := Go.Callee.builtin Go.Builtin.len, args := #[Go.Operand.tmp 31], argTypes := #[37] }, 3, none⟩,
            ⟨some 33, Go.Op.binOp Go.BinOp.eql 3 (Go.Operand.tmp 32) (Go.Operand.const (Go.Value.int Go.IntKind.i64 0)) 3, 4, none⟩,
            ⟨some 34, Go.Op.move (Go.Operand.tmp 33), 4, none⟩,
            ⟨some 35, Go.Op.move (Go.Operand.tmp 10), 4, (some (34, true))⟩,
            ⟨some 36, Go.Op.unOp Go.UnOp.not 4 (Go.Operand.tmp 35), 4, (some (34, true))⟩,
            ⟨some 37, Go.Op.pick (Go.Operand.tmp 34) (Go.Operand.tmp 36) (Go.Operand.const (Go.Value.bool false)), 4, none⟩,
            ⟨some 38, Go.Op.move (Go.Operand.tmp 37), 4, none⟩,
            ⟨some 39, Go.Op.move (Go.Operand.tmp 11), 37, (some (38, false))⟩,
            ⟨some 40, Go.Op.call { callee := Go.Callee.builtin Go.Builtin.len, args := #[Go.Operand.tmp 39], argTypes := #[37] }, 3, (some (38, false))⟩,
            ⟨some 41, Go.Op.binOp Go.BinOp.gtr 3 (Go.Operand.tmp 40) (Go.Operand.const (Go.Value.int Go.IntKind.i64 0)) 3, 4, (some (38, false))⟩,
            ⟨some 42, Go.Op.move (Go.Operand.tmp 41), 4, (some (38, false))⟩,
            ⟨some 43, Go.Op.move (Go.Operand.tmp 11), 37, (some (42, true))⟩,
            ⟨some 44, Go.Op.indexAddr 37 (Go.Operand.tmp 43) (Go.Operand.const (Go.Value.int Go.IntKind.i64 0)), 0, (some (42, true))⟩,
            ⟨some 45, Go.Op.load 9 (Go.Operand.tmp 44), 9, (some (42, true))⟩,
            ⟨some 46, Go.Op.index 9 (Go.Operand.tmp 45) (Go.Operand.const (Go.Value.int Go.IntKind.i64 0)), 5, (some (42, true))⟩,
            ⟨some 47, Go.Op.binOp Go.BinOp.eql 5 (Go.Operand.tmp 46) (Go.Operand.const (Go.Value.int Go.IntKind.u8 35)) 5, 4, (some (42, true))⟩,
            ⟨some 48, Go.Op.pick (Go.Operand.tmp 42) (Go.Operand.tmp 47) (Go.Operand.const (Go.Value.bool false)), 4, (some (38, false))⟩,
            ⟨some 49, Go.Op.pick (Go.Operand.tmp 38) (Go.Operand.const (Go.Value.bool true)) (Go.Operand.tmp 48), 4, none⟩])
          (.cond (Go.Operand.tmp 49)
            (.exit 1)
            .skip))
          (.seq (.region [⟨some 51, Go.Op.move (Go.Operand.tmp 11), 37, none⟩,
            ⟨some 52, Go.Op.move (Go.Operand.tmp 9), 9, none⟩,
            ⟨some 53, Go.Op.call { callee := Go.Callee.value (Go.Operand.func 22), args := #[Go.Operand.tmp 51, Go.Operand.tmp 52], argTypes := #[37, 9] }, 46, none⟩,
            ⟨some 50, Go.Op.move (Go.Operand.tmp 53), 46, none⟩,
            ⟨some 54, Go.Op.extract (Go.Operand.tmp 50) 0, 33, none⟩,
            ⟨some 55, Go.Op.extract (Go.Operand.tmp 50) 1, 4, none⟩,
            ⟨some 12, Go.Op.alloc 33, 0, none⟩,
            ⟨none, Go.Op.store 33 (Go.Operand.tmp 12) (Go.Operand.tmp 54), 0, none⟩,
            ⟨some 13, Go.Op.assign (Go.Operand.tmp 55), 4, none⟩])
          (.seq (.seq (.region [⟨some 56, Go.Op.move (Go.Operand.tmp 10), 4, none⟩,
            ⟨some 57, Go.Op.unOp Go.UnOp.not 4 (Go.Operand.tmp 56), 4, none⟩,
            ⟨some 58, Go.Op.move (Go.Operand.tmp 57), 4, none⟩,
            ⟨some 59, Go.Op.move (Go.Operand.tmp 13), 4, (some (58, false))⟩,
            ⟨some 60, Go.Op.unOp Go.UnOp.not 4 (Go.Operand.tmp 59), 4, (some (58, false))⟩,
            ⟨some 61, Go.Op.pick (Go.Operand.tmp 58) (Go.Operand.const (Go.Value.bool true)) (Go.Operand.tmp 60), 4, none⟩])
          (.cond (Go.Operand.tmp 61)
            (.seq (.region [⟨some 62, Go.Op.move (Go.Operand.tmp 6), 3, none⟩,
              ⟨some 63, Go.Op.binOp Go.BinOp.add 3 (Go.Operand.tmp 62) (Go.Operand.const (Go.Value.int Go.IntKind.i64 1)) 3, 3, none⟩,
              ⟨some 2, Go.Op.assign (Go.Operand.const (Go.Value.slice none 0 0)), 23, none⟩,
              ⟨some 3, Go.Op.assign (Go.Operand.tmp 63), 3, none⟩,
              ⟨some 4, Go.Op.assign (Go.Operand.const (Go.Value.int Go.IntKind.i64 3)), 24, none⟩])
            .ret)
            .skip))
          (.seq (.region [⟨some 64, Go.Op.move (Go.Operand.tmp 5), 23, none⟩,
            ⟨some 65, Go.Op.load 33 (Go.Operand.tmp 12), 33, none⟩,
            ⟨some 66, Go.Op.buildSlice 23 1 #[(0, Go.Operand.tmp 65)], 23, none⟩,
            ⟨some 67, Go.Op.call { callee := Go.Callee.builtin Go.Builtin.append, args := #[Go.Operand.tmp 64, Go.Operand.tmp 66], argTypes := #[23, 23] }, 23, none⟩,
            ⟨some 5, Go.Op.assign (Go.Operand.tmp 67), 23, none⟩])
          (.seq (.region [⟨some 68, Go.Op.move (Go.Operand.tmp 5), 23, none⟩,
            ⟨some 69, Go.Op.call { callee := Go.Callee.value (Go.Operand.func 12), args := #[Go.Operand.tmp 68], argTypes := #[23] }, 24, none⟩,
            ⟨some 14, Go.Op.assign (Go.Operand.tmp 69), 24, none⟩])
          (.seq (.region [⟨some 70, Go.Op.move (Go.Operand.tmp 14), 24, none⟩,
            ⟨some 71, Go.Op.binOp Go.BinOp.neq 24 (Go.Operand.tmp 70) (Go.Operand.const (Go.Value.int Go.IntKind.i64 0)) 24, 4, none⟩])
          (.cond (Go.Operand.tmp 71)
            (.seq (.region [⟨some 72, Go.Op.move (Go.Operand.tmp 6), 3, none⟩,
              ⟨some 73, Go.Op.binOp Go.BinOp.add 3 (Go.Operand.tmp 72) (Go.Operand.const (Go.Value.int Go.IntKind.i64 1)) 3, 3, none⟩,
              ⟨some 74, Go.Op.move (Go.Operand.tmp 14), 24, none⟩,
              ⟨some 2, Go.Op.assign (Go.Operand.const (Go.Value.slice none 0 0)), 23, none⟩,
              ⟨some 3, Go.Op.assign (Go.Operand.tmp 73), 3, none⟩,
              ⟨some 4, Go.Op.assign (Go.Operand.tmp 74), 24, none⟩])
            .ret)
            .skip)))))))))))
        (.region [⟨some 75, Go.Op.binOp Go.BinOp.add 3 (Go.Operand.tmp 18) (Go.Operand.const (Go.Value.int Go.IntKind.i64 1)) 3, 3, none⟩,
          ⟨some 18, Go.Op.move (Go.Operand.tmp 75), 3, none⟩])))))))
    (.seq (.region [⟨some 76, Go.Op.move (Go.Operand.tmp 5), 23, none⟩,
      ⟨some 2, Go.Op.assign (Go.Operand.tmp 76), 23, none⟩,
      ⟨some 3, Go.Op.assign (Go.Operand.const (Go.Value.int Go.IntKind.i64 0)), 3, none⟩,
      ⟨some 4, Go.Op.assign (Go.Operand.const (Go.Value.int Go.IntKind.i64 0)), 24, none⟩])
    .ret)))) :=
  ⟨foll, Tryz.f10, Tryz.func10, by kernel_rfl, by kernel_rfl, by kernel_rfl, by rw [Tryz.ntmps10]; decide⟩

/-- narrator.rulesyntax.words -/
theorem fn21 : FnIs Tryz.prog 21 1 [Go.ResultVar.tmp 2] (.seq (.region [⟨some 2, Go.Op.assign (Go.Operand.const (Go.Value.slice none 0 0)), 37, none⟩])
    (.seq (.region [⟨some 3, Go.Op.move (Go.Operand.tmp 0), 9, none⟩,
      ⟨some 4, Go.Op.call { callee := Go.Callee.value (Go.Operand.func 36), args := #[Go.Operand.tmp 3, Go.Operand.func 37], argTypes := #[9, 65] }, 37, none⟩,
      ⟨some 2, Go.Op.assign (Go.Operand.tmp 4), 37, none⟩])
    .ret)) :=
  ⟨foll, Tryz.f21, Tryz.func21, by kernel_rfl, by kernel_rfl, by kernel_rfl, by rw [Tryz.ntmps21]; decide⟩

/-- narrator.rulesyntax.line -/
theorem fn22 : FnIs Tryz.prog 22 2 [Go.ResultVar.cell 4 33, Go.ResultVar.tmp 5] (.seq (.region [⟨some 4, Go.Op.alloc 33, 0, none⟩,
      ⟨some 5, Go.Op.assign (Go.Operand.const (Go.Value.bool false)), 4, none⟩])
    (.seq (.region [⟨some 10, Go.Op.move (Go.Operand.tmp 1), 9, none⟩,
      ⟨some 11, Go.Op.call { callee := Go.Callee.value (Go.Operand.func 38), args := #[Go.Operand.tmp 10, Go.Operand.const (Go.Value.string { data := #[32] })], argTypes := #[9, 9] }, 9, none⟩,
      ⟨some 1, Go.Op.assign (Go.Operand.tmp 11), 9, none⟩])
    (.seq (.region [⟨some 13, Go.Op.move (Go.Operand.tmp 1), 9, none⟩,
      ⟨some 14, Go.Op.call { callee := Go.Callee.value (Go.Operand.func 39), args := #[Go.Operand.tmp 13, Go.Operand.const (Go.Value.string { data := #[34] })], argTypes := #[9, 9] }, 67, none⟩,
      ⟨some 12, Go.Op.move (Go.Operand.tmp 14), 67, none⟩,
      ⟨some 15, Go.Op.extract (Go.Operand.tmp 12) 0, 9, none⟩,
      ⟨some 16, Go.Op.extract (Go.Operand.tmp 12) 1, 4, none⟩,
      ⟨some 6, Go.Op.assign (Go.Operand.tmp 15), 9, none⟩,
      ⟨some 7, Go.Op.assign (Go.Operand.tmp 16), 4, none⟩])
    (.seq (.seq (.region [⟨some 17, Go.Op.move (Go.Operand.tmp 7), 4, none⟩,
      ⟨some 18, Go.Op.unOp Go.UnOp.not 4 (Go.Operand.tmp 17), 4, none⟩,
      ⟨some 19, Go.Op.move (Go.Operand.tmp 18), 4, none⟩,
      ⟨some 20, Go.Op.move (Go.Operand.tmp 0), 37, (some (19, false))⟩,
      ⟨some 21, Go.Op.call { callee := Go.Callee.builtin Go.Builtin.len, args := #[Go.Operand.tmp 20], argTypes := #[37] }, 3, (some (19, false))⟩,
      ⟨some 22, Go.Op.binOp Go.BinOp.lss 3 (Go.Operand.tmp 21) (Go.Operand.const (Go.Value.int Go.IntKind.i64 2)) 3, 4, (some (19, false))⟩,
      ⟨some 23, Go.Op.pick (Go.Operand.tmp 19) (Go.Operand.const (Go.Value.bool true)) (Go.Operand.tmp 22), 4, none⟩])
    (.cond (Go.Operand.tmp 23)
      (.seq (.region [⟨some 24, Go.Op.build 33 #[], 33, none⟩,
        ⟨none, Go.Op.store 33 (Go.Operand.tmp 4) (Go.Operand.tmp 24), 0, none⟩,
        ⟨some 5, Go.Op.assign (Go.Operand.const (Go.Value.bool false)), 4, none⟩])
      .ret)
      .skip))
    (.seq (.draw [⟨⟨some 25, Go.Op.move (Go.Operand.tmp 0), 37, none⟩, false, false, true⟩,
      ⟨⟨some 26, Go.Op.indexAddr 37 (Go.Operand.tmp 25) (Go.Operand.const (Go.Value.int Go.IntKind.i64 0)), 0, none⟩, false, false, true⟩,
      ⟨⟨some 27, Go.Op.load 9 (Go.Operand.tmp 26), 9, none⟩, false, false, true⟩,
      ⟨⟨some 28, Go.Op.move (Go.Operand.tmp 6), 9, none⟩, false, false, true⟩,
      ⟨⟨some 29, Go.Op.call { callee := Go.Callee.value (Go.Operand.func 40), args := #[], argTypes := #[] }, 69, none⟩, false, false, true⟩,
      ⟨⟨some 30, Go.Op.move (Go.Operand.tmp 0), 37, none⟩, false, false, true⟩,
      ⟨⟨some 31, Go.Op.indexAddr 37 (Go.Operand.tmp 30) (Go.Operand.const (Go.Value.int Go.IntKind.i64 1)), 0, none⟩, false, false, true⟩,
      ⟨⟨some 32, Go.Op.load 9 (Go.Operand.tmp 31), 9, none⟩, false, false, true⟩,
      ⟨⟨some 33, Go.Op.lookup 69 (Go.Operand.tmp 29) (Go.Operand.tmp 32) false, 3, none⟩, false, false, true⟩,
      ⟨⟨some 34, Go.Op.build 33 #[(0, Go.Operand.tmp 27), (1, Go.Operand.tmp 28), (3, Go.Operand.const (Go.Value.int Go.IntKind.i64 60)), (4, Go.Operand.tmp 33)], 33, none⟩, false, false, true⟩,
      ⟨⟨some 8, Go.Op.alloc 33, 0, none⟩, true, false, false⟩,
      ⟨⟨none, Go.Op.store 33 (Go.Operand.tmp 8) (Go.Operand.tmp 34), 0, none⟩, true, false, false⟩])
    (.seq (.region [⟨some 36, Go.Op.move (Go.Operand.tmp 0), 37, none⟩,
      ⟨some 37, Go.Op.slice 37 (Go.Operand.tmp 36) (some (Go.Operand.const (Go.Value.int Go.IntKind.i64 2))) none none, 37, none⟩,
      ⟨some 38, Go.Op.makeFunc (Go.Fn.func 42) #[] #[Go.Operand.tmp 8], 29, none⟩,
      ⟨some 39, Go.Op.call { callee := Go.Callee.value (Go.Operand.func 41), args := #[Go.Operand.tmp 37, Go.Operand.const (Go.Value.string { data := #[119, 97, 105, 116] }), Go.Operand.tmp 38], argTypes := #[37, 9, 29] }, 71, none⟩,
      ⟨some 35, Go.Op.move (Go.Operand.tmp 39), 71, none⟩,
      ⟨some 40, Go.Op.extract (Go.Operand.tmp 35) 0, 37, none⟩,
      ⟨some 41, Go.Op.extract (Go.Operand.tmp 35) 1, 4, none⟩,
      ⟨some 0, Go.Op.assign (Go.Operand.tmp 40), 37, none⟩,
      ⟨some 9, Go.Op.assign (Go.Operand.tmp 41), 4, none⟩])
    (.seq (.seq (.region [⟨some 42, Go.Op.move (Go.Operand.tmp 9), 4, none⟩,
      ⟨some 43, Go.Op.unOp Go.UnOp.not 4 (Go.Operand.tmp 42), 4, none⟩])
    (.cond (Go.Operand.tmp 43)
      (.seq (.region [⟨some 44, Go.Op.build 33 #[], 33, none⟩,
        ⟨none, Go.Op.store 33 (Go.Operand.tmp 4) (Go.Operand.tmp 44), 0, none⟩,
        ⟨some 5, Go.Op.assign (Go.Operand.const (Go.Value.bool false)), 4, none⟩])
      .ret)
      .skip))
    (.seq (.region [⟨some 46, Go.Op.move (Go.Operand.tmp 0), 37, none⟩,
      ⟨some 47, Go.Op.makeFunc (Go.Fn.func 44) #[] #[Go.Operand.tmp 8], 29, none⟩,
      ⟨some 48, Go.Op.call { callee := Go.Callee.value (Go.Operand.func 41), args := #[Go.Operand.tmp 46, Go.Operand.const (Go.Value.string { data := #[114, 111, 119, 115] }), Go.Operand.tmp 47], argTypes := #[37, 9, 29] }, 71, none⟩,
      ⟨some 45, Go.Op.move (Go.Operand.tmp 48), 71, none⟩,
      ⟨some 49, Go.Op.extract (Go.Operand.tmp 45) 0, 37, none⟩,
      ⟨some 50, Go.Op.extract (Go.Operand.tmp 45) 1, 4, none⟩,
      ⟨some 0, Go.Op.assign (Go.Operand.tmp 49), 37, none⟩,
      ⟨some 9, Go.Op.assign (Go.Operand.tmp 50), 4, none⟩])
    (.seq (.region [⟨some 51, Go.Op.load 33 (Go.Operand.tmp 8), 33, none⟩,
      ⟨some 52, Go.Op.move (Go.Operand.tmp 9), 4, none⟩,
      ⟨some 53, Go.Op.move (Go.Operand.tmp 52), 4, none⟩,
      ⟨some 54, Go.Op.move (Go.Operand.tmp 0), 37, (some (53, true))⟩,
      ⟨some 55, Go.Op.call { callee := Go.Callee.builtin Go.Builtin.len, args := #[Go.Operand.tmp 54], argTypes := #[37] }, 3, (some (53, true))⟩,
      ⟨some 56, Go.Op.binOp Go.BinOp.eql 3 (Go.Operand.tmp 55) (Go.Operand.const (Go.Value.int Go.IntKind.i64 0)) 3, 4, (some (53, true))⟩,
      ⟨some 57, Go.Op.pick (Go.Operand.tmp 53) (Go.Operand.tmp 56) (Go.Operand.const (Go.Value.bool false)), 4, none⟩,
      ⟨none, Go.Op.store 33 (Go.Operand.tmp 4) (Go.Operand.tmp 51), 0, none⟩,
      ⟨some 5, Go.Op.assign (Go.Operand.tmp 57), 4, none⟩])
    .ret))))))))) :=
  ⟨foll, Tryz.f22, Tryz.func22, by kernel_rfl, by kernel_rfl, by kernel_rfl, by rw [Tryz.ntmps22]; decide⟩

/-- narrator.rulesyntax.words$1 -/
theorem fn37 : FnIs Tryz.prog 37 1 [Go.ResultVar.tmp 2] (.seq (.region [⟨some 2, Go.Op.assign (Go.Operand.const (Go.Value.bool false)), 4, none⟩])
    (.seq (.region [⟨some 3, Go.Op.move (Go.Operand.tmp 0), 21, none⟩,
      ⟨some 4, Go.Op.binOp Go.BinOp.eql 21 (Go.Operand.tmp 3) (Go.Operand.const (Go.Value.int Go.IntKind.i32 32)) 21, 4, none⟩,
      ⟨some 2, Go.Op.assign (Go.Operand.tmp 4), 4, none⟩])
    .ret)) :=
  ⟨foll, Tryz.f37, Tryz.func37, by kernel_rfl, by kernel_rfl, by kernel_rfl, by rw [Tryz.ntmps37]; decide⟩

/-- narrator.rulesyntax.classes -/
theorem fn40 : FnIs Tryz.prog 40 0 [Go.ResultVar.tmp 0] (.seq (.region [⟨some 0, Go.Op.assign (Go.Operand.const (Go.Value.map none)), 69, none⟩])
    (.seq (.region [⟨some 1, Go.Op.makeMap 69 none, 69, none⟩,
      ⟨none, Go.Op.insert 69 (Go.Operand.tmp 1) (Go.Operand.const (Go.Value.string { data := #[117, 114, 103, 101, 110, 116] })) (Go.Operand.const (Go.Value.int Go.IntKind.i64 1)), 0, none⟩,
      ⟨none, Go.Op.insert 69 (Go.Operand.tmp 1) (Go.Operand.const (Go.Value.string { data := #[110, 111, 114, 109, 97, 108] })) (Go.Operand.const (Go.Value.int Go.IntKind.i64 2)), 0, none⟩,
      ⟨none, Go.Op.insert 69 (Go.Operand.tmp 1) (Go.Operand.const (Go.Value.string { data := #[108, 97, 116, 101, 114] })) (Go.Operand.const (Go.Value.int Go.IntKind.i64 3)), 0, none⟩,
      ⟨some 2, Go.Op.move (Go.Operand.tmp 1), 69, none⟩,
      ⟨some 0, Go.Op.assign (Go.Operand.tmp 2), 69, none⟩])
    .ret)) :=
  ⟨foll, Tryz.f40, Tryz.func40, by kernel_rfl, by kernel_rfl, by kernel_rfl, by rw [Tryz.ntmps40]; decide⟩

/-- narrator.rulesyntax.option -/
theorem fn41 : FnIs Tryz.prog 41 3 [Go.ResultVar.tmp 6, Go.ResultVar.tmp 7] (.seq (.region [⟨some 6, Go.Op.assign (Go.Operand.const (Go.Value.slice none 0 0)), 37, none⟩,
      ⟨some 7, Go.Op.assign (Go.Operand.const (Go.Value.bool false)), 4, none⟩])
    (.seq (.seq (.region [⟨some 8, Go.Op.move (Go.Operand.tmp 0), 37, none⟩,
      ⟨some 9, Go.Op.call { callee := Go.Callee.builtin Go.Builtin.len, args := #[Go.Operand.tmp 8], argTypes := #[37] }, 3, none⟩,
      ⟨some 10, Go.Op.binOp Go.BinOp.lss 3 (Go.Operand.tmp 9) (Go.Operand.const (Go.Value.int Go.IntKind.i64 2)) 3, 4, none⟩,
      ⟨some 11, Go.Op.move (Go.Operand.tmp 10), 4, none⟩,
      ⟨some 12, Go.Op.move (Go.Operand.tmp 0), 37, (some (11, false))⟩,
      ⟨some 13, Go.Op.indexAddr 37 (Go.Operand.tmp 12) (Go.Operand.const (Go.Value.int Go.IntKind.i64 0)), 0, (some (11, false))⟩,
      ⟨some 14, Go.Op.load 9 (Go.Operand.tmp 13), 9, (some (11, false))⟩,
      ⟨some 15, Go.Op.move (Go.Operand.tmp 1), 9, (some (11, false))⟩,
      ⟨some 16, Go.Op.binOp Go.BinOp.neq 9 (Go.Operand.tmp 14) (Go.Operand.tmp 15) 9, 4, (some (11, false))⟩,
      ⟨some 17, Go.Op.pick (Go.Operand.tmp 11) (Go.Operand.const (Go.Value.bool true)) (Go.Operand.tmp 16), 4, none⟩])
    (.cond (Go.Operand.tmp 17)
      (.seq (.region [⟨some 18, Go.Op.move (Go.Operand.tmp 0), 37, none⟩,
        ⟨some 6, Go.Op.assign (Go.Operand.tmp 18), 37, none⟩,
        ⟨some 7, Go.Op.assign (Go.Operand.const (Go.Value.bool true)), 4, none⟩])
      .ret)
      .skip))
    (.seq (.draw [⟨⟨some 19, Go.Op.move (Go.Operand.tmp 0), 37, none⟩, false, false, false⟩,
      ⟨⟨some 20, Go.Op.slice 37 (Go.Operand.tmp 19) (some (Go.Operand.const (Go.Value.int Go.IntKind.i64 2))) none none, 37, none⟩, false, false, false⟩,
      ⟨⟨some 21, Go.Op.move (Go.Operand.tmp 2), 29, none⟩, false, false, false⟩,
      ⟨⟨some 22, Go.Op.move (Go.Operand.tmp 0), 37, none⟩, false, false, false⟩,
      ⟨⟨some 23, Go.Op.indexAddr 37 (Go.Operand.tmp 22) (Go.Operand.const (Go.Value.int Go.IntKind.i64 1)), 0, none⟩, false, false, false⟩,
      ⟨⟨some 24, Go.Op.load 9 (Go.Operand.tmp 23), 9, none⟩, false, false, false⟩,
      ⟨⟨some 25, Go.Op.call { callee := Go.Callee.value (Go.Operand.tmp 21), args := #[Go.Operand.tmp 24], argTypes := #[9] }, 4, none⟩, false, false, false⟩,
      ⟨⟨some 6, Go.Op.assign (Go.Operand.tmp 20), 37, none⟩, false, false, false⟩,
      ⟨⟨some 7, Go.Op.assign (Go.Operand.tmp 25), 4, none⟩, false, false, false⟩])
    .ret))) :=
  ⟨foll, Tryz.f41, Tryz.func41, by kernel_rfl, by kernel_rfl, by kernel_rfl, by rw [Tryz.ntmps41]; decide⟩

/-- narrator.rulesyntax.line$1 -/
theorem fn42 : FnIs Tryz.prog 42 2 [Go.ResultVar.tmp 3] (.seq (.region [⟨some 3, Go.Op.assign (Go.Operand.const (Go.Value.bool false)), 4, none⟩])
    (.seq (.region [⟨some 7, Go.Op.move (Go.Operand.tmp 0), 9, none⟩,
      ⟨some 8, Go.Op.call { callee := Go.Callee.value (Go.Operand.func 43), args := #[Go.Operand.tmp 7], argTypes := #[9] }, 73, none⟩,
      ⟨some 6, Go.Op.move (Go.Operand.tmp 8), 73, none⟩,
      ⟨some 9, Go.Op.extract (Go.Operand.tmp 6) 0, 3, none⟩,
      ⟨some 10, Go.Op.extract (Go.Operand.tmp 6) 1, 4, none⟩,
      ⟨some 4, Go.Op.assign (Go.Operand.tmp 9), 3, none⟩,
      ⟨some 5, Go.Op.assign (Go.Operand.tmp 10), 4, none⟩])
    (.seq (.region [⟨some 11, Go.Op.move (Go.Operand.tmp 4), 3, none⟩,
      ⟨some 12, Go.Op.fieldAddr 33 (Go.Operand.tmp 1) 5, 0, none⟩,
      ⟨none, Go.Op.store 3 (Go.Operand.tmp 12) (Go.Operand.tmp 11), 0, none⟩])
    (.seq (.region [⟨some 13, Go.Op.move (Go.Operand.tmp 5), 4, none⟩,
      ⟨some 3, Go.Op.assign (Go.Operand.tmp 13), 4, none⟩])
    .ret)))) :=
  ⟨foll, Tryz.f42, Tryz.func42, by kernel_rfl, by kernel_rfl, by kernel_rfl, by rw [Tryz.ntmps42]; decide⟩

/-- narrator.rulesyntax.number -/
theorem fn43 : FnIs Tryz.prog 43 1 [Go.ResultVar.tmp 2, Go.ResultVar.tmp 3] (.seq (.region [⟨some 2, Go.Op.assign (Go.Operand.const (Go.Value.int Go.IntKind.i64 0)), 3, none⟩,
      ⟨some 3, Go.Op.assign (Go.Operand.const (Go.Value.bool false)), 4, none⟩])
    (.seq (.seq (.region [⟨some 6, Go.Op.move (Go.Operand.tmp 0), 9, none⟩,
      ⟨some 7, Go.Op.binOp Go.BinOp.eql 9 (Go.Operand.tmp 6) (Go.Operand.const (Go.Value.string { data := #[] })) 9, 4, none⟩,
      ⟨some 8, Go.Op.move (Go.Operand.tmp 7), 4, none⟩,
      ⟨some 9, Go.Op.move (Go.Operand.tmp 0), 9, (some (8, false))⟩,
      ⟨some 10, Go.Op.call { callee := Go.Callee.builtin Go.Builtin.len, args := #[Go.Operand.tmp 9], argTypes := #[9] }, 3, (some (8, false))⟩,
      ⟨some 11, Go.Op.binOp Go.BinOp.gtr 3 (Go.Operand.tmp 10) (Go.Operand.const (Go.Value.int Go.IntKind.i64 9)) 3, 4, (some (8, false))⟩,
      ⟨some 12, Go.Op.pick (Go.Operand.tmp 8) (Go.Operand.const (Go.Value.bool true)) (Go.Operand.tmp 11), 4, none⟩,
      ⟨some 13, Go.Op.move (Go.Operand.tmp 12), 4, none⟩,
      ⟨some 14, Go.Op.move (Go.Operand.tmp 0), 9, (some (13, false))⟩,
      ⟨some 15, Go.Op.call { callee := Go.Callee.builtin Go.Builtin.len, args := #[Go.Operand.tmp 14], argTypes := #[9] }, 3, (some (13, false))⟩,
      ⟨some 16, Go.Op.binOp Go.BinOp.gtr 3 (Go.Operand.tmp 15) (Go.Operand.const (Go.Value.int Go.IntKind.i64 1)) 3, 4, (some (13, false))⟩,
      ⟨some 17, Go.Op.move (Go.Operand.tmp 16), 4, (some (13, false))⟩,
      ⟨some 18, Go.Op.move (Go.Operand.tmp 0), 9, (some (17, true))⟩,
      ⟨some 19, Go.Op.index 9 (Go.Operand.tmp 18) (Go.Operand.const (Go.Value.int Go.IntKind.i64 0)), 5, (some (17, true))⟩,
      ⟨some 20, Go.Op.binOp Go.BinOp.eql 5 (Go.Operand.tmp 19) (Go.Operand.const (Go.Value.int Go.IntKind.u8 48)) 5, 4, (some (17, true))⟩,
      ⟨some 21, Go.Op.pick (Go.Operand.tmp 17) (Go.Operand.tmp 20) (Go.Operand.const (Go.Value.bool false)), 4, (some (13, false))⟩,
      ⟨some 22, Go.Op.pick (Go.Operand.tmp 13) (Go.Operand.const (Go.Value.bool true)) (Go.Operand.tmp 21), 4, none⟩,
      ⟨some 23, Go.Op.move (Go.Operand.tmp 22), 4, none⟩,
      ⟨some 24, Go.Op.move (Go.Operand.tmp 0), 9, (some (23, false))⟩,
      ⟨some 25, Go.Op.call { callee := Go.Callee.value (Go.Operand.func 57), args := #[Go.Operand.tmp 24, Go.Operand.const (Go.Value.string { data := #[48, 49, 50, 51, 52, 53, 54, 55, 56, 57] })], argTypes := #[9, 9] }, 9, (some (23, false))⟩,
      ⟨some 26, Go.Op.binOp Go.BinOp.neq 9 (Go.Operand.tmp 25) (Go.Operand.const (Go.Value.string { data := #[] })) 9, 4, (some (23, false))⟩,
      ⟨some 27, Go.Op.pick (Go.Operand.tmp 23) (Go.Operand.const (Go.Value.bool true)) (Go.Operand.tmp 26), 4, none⟩])
    (.cond (Go.Operand.tmp 27)
      (.seq (.region [⟨some 2, Go.Op.assign (Go.Operand.const (Go.Value.int Go.IntKind.i64 0)), 3, none⟩,
        ⟨some 3, Go.Op.assign (Go.Operand.const (Go.Value.bool false)), 4, none⟩])
      .ret)
      .skip))
    (.seq (.region [⟨some 29, Go.Op.move (Go.Operand.tmp 0), 9, none⟩,
      ⟨some 30, Go.Op.call { callee := Go.Callee.value (Go.Operand.func 58), args := #[Go.Operand.tmp 29], argTypes := #[9] }, 57, none⟩,
      ⟨some 28, Go.Op.move (Go.Operand.tmp 30), 57, none⟩,
      ⟨some 31, Go.Op.extract (Go.Operand.tmp 28) 0, 3, none⟩,
      ⟨some 32, Go.Op.extract (Go.Operand.tmp 28) 1, 56, none⟩,
      ⟨some 4, Go.Op.assign (Go.Operand.tmp 31), 3, none⟩,
      ⟨some 5, Go.Op.assign (Go.Operand.tmp 32), 56, none⟩])
    (.seq (.draw [⟨⟨some 33, Go.Op.move (Go.Operand.tmp 4), 3, none⟩, false, false, false⟩,
      ⟨⟨some 34, Go.Op.move (Go.Operand.tmp 5), 56, none⟩, false, false, false⟩,
      ⟨⟨some 35, Go.Op.binOp Go.BinOp.eql 56 (Go.Operand.tmp 34) (Go.Operand.const Go.Value.nilIface) 56, 4, none⟩, false, false, false⟩,
      ⟨⟨some 2, Go.Op.assign (Go.Operand.tmp 33), 3, none⟩, false, false, false⟩,
      ⟨⟨some 3, Go.Op.assign (Go.Operand.tmp 35), 4, none⟩, false, false, false⟩])
    .ret)))) :=
  ⟨foll, Tryz.f43, Tryz.func43, by kernel_rfl, by kernel_rfl, by kernel_rfl, by rw [Tryz.ntmps43]; decide⟩

/-- narrator.rulesyntax.line$2 -/
theorem fn44 : FnIs Tryz.prog 44 2 [Go.ResultVar.tmp 3] (.seq (.region [⟨some 3, Go.Op.assign (Go.Operand.const (Go.Value.bool false)), 4, none⟩])
    (.seq (.region [⟨some 12, Go.Op.move (Go.Operand.tmp 0), 9, none⟩,
      ⟨some 13, Go.Op.call { callee := Go.Callee.value (Go.Operand.func 19), args := #[Go.Operand.tmp 12, Go.Operand.const (Go.Value.string { data := #[45] })], argTypes := #[9, 9] }, 42, none⟩,
      ⟨some 11, Go.Op.move (Go.Operand.tmp 13), 42, none⟩,
      ⟨some 14, Go.Op.extract (Go.Operand.tmp 11) 0, 9, none⟩,
      ⟨some 15, Go.Op.extract (Go.Operand.tmp 11) 1, 9, none⟩,
      ⟨some 16, Go.Op.extract (Go.Operand.tmp 11) 2, 4, none⟩,
      ⟨some 4, Go.Op.assign (Go.Operand.tmp 14), 9, none⟩,
      ⟨some 5, Go.Op.assign (Go.Operand.tmp 15), 9, none⟩,
      ⟨some 6, Go.Op.assign (Go.Operand.tmp 16), 4, none⟩])
    (.seq (.region [⟨some 18, Go.Op.move (Go.Operand.tmp 4), 9, none⟩,
      ⟨some 19, Go.Op.call { callee := Go.Callee.value (Go.Operand.func 43), args := #[Go.Operand.tmp 18], argTypes := #[9] }, 73, none⟩,
      ⟨some 17, Go.Op.move (Go.Operand.tmp 19), 73, none⟩,
      ⟨some 20, Go.Op.extract (Go.Operand.tmp 17) 0, 3, none⟩,
      ⟨some 21, Go.Op.extract (Go.Operand.tmp 17) 1, 4, none⟩,
      ⟨some 7, Go.Op.assign (Go.Operand.tmp 20), 3, none⟩,
      ⟨some 8, Go.Op.assign (Go.Operand.tmp 21), 4, none⟩])
    (.seq (.region [⟨some 23, Go.Op.move (Go.Operand.tmp 5), 9, none⟩,
      ⟨some 24, Go.Op.call { callee := Go.Callee.value (Go.Operand.func 43), args := #[Go.Operand.tmp 23], argTypes := #[9] }, 73, none⟩,
      ⟨some 22, Go.Op.move (Go.Operand.tmp 24), 73, none⟩,
      ⟨some 25, Go.Op.extract (Go.Operand.tmp 22) 0, 3, none⟩,
      ⟨some 26, Go.Op.extract (Go.Operand.tmp 22) 1, 4, none⟩,
      ⟨some 9, Go.Op.assign (Go.Operand.tmp 25), 3, none⟩,
      ⟨some 10, Go.Op.assign (Go.Operand.tmp 26), 4, none⟩])
    (.seq (.region [⟨some 27, Go.Op.move (Go.Operand.tmp 7), 3, none⟩,
      ⟨some 28, Go.Op.binOp Go.BinOp.sub 3 (Go.Operand.tmp 27) (Go.Operand.const (Go.Value.int Go.IntKind.i64 1)) 3, 3, none⟩,
      ⟨some 29, Go.Op.move (Go.Operand.tmp 9), 3, none⟩,
      ⟨some 30, Go.Op.fieldAddr 33 (Go.Operand.tmp 1) 2, 0, none⟩,
      ⟨none, Go.Op.store 3 (Go.Operand.tmp 30) (Go.Operand.tmp 28), 0, none⟩,
      ⟨some 31, Go.Op.fieldAddr 33 (Go.Operand.tmp 1) 3, 0, none⟩,
      ⟨none, Go.Op.store 3 (Go.Operand.tmp 31) (Go.Operand.tmp 29), 0, none⟩])
    (.seq (.region [⟨some 32, Go.Op.move (Go.Operand.tmp 8), 4, none⟩,
      ⟨some 33, Go.Op.move (Go.Operand.tmp 32), 4, none⟩,
      ⟨some 34, Go.Op.move (Go.Operand.tmp 10), 4, (some (33, true))⟩,
      ⟨some 35, Go.Op.pick (Go.Operand.tmp 33) (Go.Operand.tmp 34) (Go.Operand.const (Go.Value.bool false)), 4, none⟩,
      ⟨some 3, Go.Op.assign (Go.Operand.tmp 35), 4, none⟩])
    .ret)))))) :=
  ⟨foll, Tryz.f44, Tryz.func44, by kernel_rfl, by kernel_rfl, by kernel_rfl, by rw [Tryz.ntmps44]; decide⟩

end Go.Proofs.YtjgbdlaecpkmhaaGreatDoor
