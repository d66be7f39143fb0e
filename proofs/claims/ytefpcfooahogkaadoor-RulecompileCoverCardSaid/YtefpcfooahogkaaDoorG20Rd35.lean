/- Part of a proof about the functions of this seat. -/
import Derived.Test.YtefpcfooahogkaaDoorG19NvY
import Derived.Shelf.Sort.Plain
import Derived.Shelf.Slices.CompactI
import Derived.Shelf.Lays2
import Derived.Shelf.LaysM
import Derived.KernelRfl
import Derived.Test.YtefpcfooahogkaaDoorProg
import Derived.Test.YtefpcfooahogkaaDoorG15Srt35
set_option linter.unusedVariables false
set_option linter.unusedSimpArgs false
set_option maxRecDepth 100000
namespace Go.Proofs.YtefpcfooahogkaaDoor
open Go Nv Rul

/- The program's check of rules. -/
def Sized (l : List Rule) : Prop := ∀ r, r ∈ l → r.name.length ≤ 9223372036854775807 ∧ r.pat.length ≤ 9223372036854775807
def rulesD (l : List Rule) : DV := .list 6 (l.map ruleD)
@[go_sem] theorem one_rulesD (l : List Rule) : (AV.d (rulesD l)).one = true := nrfl rfl
theorem ruleD_cells (r : Rule) : (ruleD r).cells = [.str r.name, .str r.pat, .int .i64 r.lo, .int .i64 r.hi, .int .i64 r.cls, .int .i64 r.wait] := rfl
theorem rule_get (l : List Rule) (j : Nat) (h : j < l.length) : (l.map ruleD).getD j default = ruleD (l.getD j default) := by
  simp [List.getD_eq_getElem?_getD, h]
theorem rule_mem {l : List Rule} {j : Nat} (h : j < l.length) : l.getD j default ∈ l := by
  rw [List.getD_eq_getElem?_getD, List.getElem?_eq_getElem h]; exact List.getElem_mem h
theorem rule_drop {l : List Rule} {j : Nat} (h : j < l.length) : l.drop j = l.getD j default :: l.drop (j + 1) := by
  rw [List.drop_eq_getElem_cons h]; simp [List.getD_eq_getElem?_getD, h]
theorem check6 (l : List Rule) (hs : Sized l) : PCall Tryd.prog 6 [.d (rulesD l)] (.d (.int .i64 (chkR peM l))) := by
  refine fn6.pure noHint (Nat.le_refl _) (by simp only [go_sem, rulesD]) (by simp only [go_sem]) ?_
  by_cases h16 : 16 < l.length
  · have h16' : (16 : Int) < l.length := by omega
    have e : chkR peM l = 5 := by rw [chkR, if_pos h16]
    simp (disch := omega) only [go_sem, reduceIte, reduceDIte, reduceCtorEq, Nat.reduceBEq, Nat.reduceEqDiff, Nat.reduceAdd, Nat.reduceSub, Nat.reduceMul, Nat.reduceLT, Nat.reduceLeDiff, Nat.reduceBNe, Int.reduceNeg, Int.reduceAdd, Int.reduceSub, Int.reduceMul, Int.reduceLT, Int.reduceLE, Int.reduceGT, Int.reduceGE, Int.reduceEq, Int.reduceNe, Int.reduceToNat, Int.reduceTMod, Int.reduceTDiv, rulesD, List.length_map, h16', e]
    done
  have h16' : ¬ (16 : Int) < l.length := by omega
  have e : chkR peM l = chkFrom peM [] l := by rw [chkR, if_neg h16]
  rw [e]
  simp (disch := omega) only [go_sem, reduceIte, reduceDIte, reduceCtorEq, Nat.reduceBEq, Nat.reduceEqDiff, Nat.reduceAdd, Nat.reduceSub, Nat.reduceMul, Nat.reduceLT, Nat.reduceLeDiff, Nat.reduceBNe, Int.reduceNeg, Int.reduceAdd, Int.reduceSub, Int.reduceMul, Int.reduceLT, Int.reduceLE, Int.reduceGT, Int.reduceGE, Int.reduceEq, Int.reduceNe, Int.reduceToNat, Int.reduceTMod, Int.reduceTDiv, rulesD, List.length_map, h16']
  refine wL_ind (fun (j : Nat) fr σ => j ≤ l.length ∧ fr 11 = .d (.list 6 (l.map ruleD)) ∧ fr 12 = .d (.int .i64 l.length) ∧ fr 13 = .d (.int .i64 j) ∧ fr 3 = .map 0 ∧
    ∃ used B, σ = .map (strSet used) :: B ∧ chkFrom peM [] l = chkFrom peM used (l.drop j)) (fun j => l.length - j) ?_ 0 ?_
  · rintro j fr σ ⟨hj, f11, f12, f13, f3, used, B, rfl, hc⟩ ih
    by_cases hlt : j < l.length
    · obtain ⟨r, hr⟩ : ∃ r, r = l.getD j default := ⟨_, rfl⟩
      have hm := hs r (by rw [hr]; exact rule_mem hlt)
      have hg := rule_get l j hlt
      rw [← hr] at hg
      rw [rule_drop hlt, ← hr] at hc
      simp (disch := omega) only [go_sem, reduceIte, reduceDIte, reduceCtorEq, Nat.reduceBEq, Nat.reduceEqDiff, Nat.reduceAdd, Nat.reduceSub, Nat.reduceMul, Nat.reduceLT, Nat.reduceLeDiff, Nat.reduceBNe, Int.reduceNeg, Int.reduceAdd, Int.reduceSub, Int.reduceMul, Int.reduceLT, Int.reduceLE, Int.reduceGT, Int.reduceGE, Int.reduceEq, Int.reduceNe, Int.reduceToNat, Int.reduceTMod, Int.reduceTDiv, f11, f12, f13, f3, List.length_map, hlt, hg, ruleD_cells, List.append_assoc, List.cons_append, List.nil_append, List.length_append, stGet_app, stGet_app0, stSet_app, stSet_app0]
      refine (name11 r.name hm.1).at ?_
      cases hn : nameB r.name
      · have e : chkFrom peM [] l = 6 := by rw [hc, chkFrom, if_pos hn]
        simp (disch := omega) only [go_sem, reduceIte, reduceDIte, reduceCtorEq, Nat.reduceBEq, Nat.reduceEqDiff, Nat.reduceAdd, Nat.reduceSub, Nat.reduceMul, Nat.reduceLT, Nat.reduceLeDiff, Nat.reduceBNe, Int.reduceNeg, Int.reduceAdd, Int.reduceSub, Int.reduceMul, Int.reduceLT, Int.reduceLE, Int.reduceGT, Int.reduceGE, Int.reduceEq, Int.reduceNe, Int.reduceToNat, Int.reduceTMod, Int.reduceTDiv, e]
      · by_cases hu : r.name ∈ used
        · obtain ⟨k, k1, k2⟩ := keyAt_in used 0 hu
          have e : chkFrom peM [] l = 7 := by rw [hc, chkFrom, if_neg (by rw [hn]; simp), if_pos hu]
          simp (disch := omega) only [go_sem, reduceIte, reduceDIte, reduceCtorEq, Nat.reduceBEq, Nat.reduceEqDiff, Nat.reduceAdd, Nat.reduceSub, Nat.reduceMul, Nat.reduceLT, Nat.reduceLeDiff, Nat.reduceBNe, Int.reduceNeg, Int.reduceAdd, Int.reduceSub, Int.reduceMul, Int.reduceLT, Int.reduceLE, Int.reduceGT, Int.reduceGE, Int.reduceEq, Int.reduceNe, Int.reduceToNat, Int.reduceTMod, Int.reduceTDiv, f3, k1, Nat.zero_add, k2, e, List.append_assoc, List.cons_append, List.nil_append, List.length_append, stGet_app, stGet_app0, stSet_app, stSet_app0]
        · have k1 := keyAt_out used 0 hu
          have hck := check12 r hm.2
          simp only [ruleA, ruleC] at hck
          simp (disch := omega) only [go_sem, reduceIte, reduceDIte, reduceCtorEq, Nat.reduceBEq, Nat.reduceEqDiff, Nat.reduceAdd, Nat.reduceSub, Nat.reduceMul, Nat.reduceLT, Nat.reduceLeDiff, Nat.reduceBNe, Int.reduceNeg, Int.reduceAdd, Int.reduceSub, Int.reduceMul, Int.reduceLT, Int.reduceLE, Int.reduceGT, Int.reduceGE, Int.reduceEq, Int.reduceNe, Int.reduceToNat, Int.reduceTMod, Int.reduceTDiv, f3, k1, List.append_assoc, List.cons_append, List.nil_append, List.length_append, stGet_app, stGet_app0, stSet_app, stSet_app0]
          refine hck.at ?_
          by_cases hz : ruleE peM r = 0
          · simp (disch := omega) only [go_sem, reduceIte, reduceDIte, reduceCtorEq, Nat.reduceBEq, Nat.reduceEqDiff, Nat.reduceAdd, Nat.reduceSub, Nat.reduceMul, Nat.reduceLT, Nat.reduceLeDiff, Nat.reduceBNe, Int.reduceNeg, Int.reduceAdd, Int.reduceSub, Int.reduceMul, Int.reduceLT, Int.reduceLE, Int.reduceGT, Int.reduceGE, Int.reduceEq, Int.reduceNe, Int.reduceToNat, Int.reduceTMod, Int.reduceTDiv, hz, f13]
            refine ih (j + 1) _ _ (by omega) ⟨by omega, ?_, ?_, ?_, ?_, used ++ [r.name], ?B1, ?r1, ?_⟩
            case r1 => rw [strSet_snoc]
            · simp (disch := omega) only [go_sem, reduceIte, reduceDIte, reduceCtorEq, Nat.reduceBEq, Nat.reduceEqDiff, Nat.reduceAdd, Nat.reduceSub, Nat.reduceMul, Nat.reduceLT, Nat.reduceLeDiff, Nat.reduceBNe, Int.reduceNeg, Int.reduceAdd, Int.reduceSub, Int.reduceMul, Int.reduceLT, Int.reduceLE, Int.reduceGT, Int.reduceGE, Int.reduceEq, Int.reduceNe, Int.reduceToNat, Int.reduceTMod, Int.reduceTDiv, f11]
            · simp (disch := omega) only [go_sem, reduceIte, reduceDIte, reduceCtorEq, Nat.reduceBEq, Nat.reduceEqDiff, Nat.reduceAdd, Nat.reduceSub, Nat.reduceMul, Nat.reduceLT, Nat.reduceLeDiff, Nat.reduceBNe, Int.reduceNeg, Int.reduceAdd, Int.reduceSub, Int.reduceMul, Int.reduceLT, Int.reduceLE, Int.reduceGT, Int.reduceGE, Int.reduceEq, Int.reduceNe, Int.reduceToNat, Int.reduceTMod, Int.reduceTDiv, f12]
            · simp (disch := omega) only [go_sem, reduceIte, reduceDIte, reduceCtorEq, Nat.reduceBEq, Nat.reduceEqDiff, Nat.reduceAdd, Nat.reduceSub, Nat.reduceMul, Nat.reduceLT, Nat.reduceLeDiff, Nat.reduceBNe, Int.reduceNeg, Int.reduceAdd, Int.reduceSub, Int.reduceMul, Int.reduceLT, Int.reduceLE, Int.reduceGT, Int.reduceGE, Int.reduceEq, Int.reduceNe, Int.reduceToNat, Int.reduceTMod, Int.reduceTDiv, f13]
            · simp (disch := omega) only [go_sem, reduceIte, reduceDIte, reduceCtorEq, Nat.reduceBEq, Nat.reduceEqDiff, Nat.reduceAdd, Nat.reduceSub, Nat.reduceMul, Nat.reduceLT, Nat.reduceLeDiff, Nat.reduceBNe, Int.reduceNeg, Int.reduceAdd, Int.reduceSub, Int.reduceMul, Int.reduceLT, Int.reduceLE, Int.reduceGT, Int.reduceGE, Int.reduceEq, Int.reduceNe, Int.reduceToNat, Int.reduceTMod, Int.reduceTDiv, f3]
            · rw [hc, chkFrom, if_neg (by rw [hn]; simp), if_neg hu, if_pos hz]
          · have e : chkFrom peM [] l = ruleE peM r := by rw [hc, chkFrom, if_neg (by rw [hn]; simp), if_neg hu, if_neg hz]
            simp (disch := omega) only [go_sem, reduceIte, reduceDIte, reduceCtorEq, Nat.reduceBEq, Nat.reduceEqDiff, Nat.reduceAdd, Nat.reduceSub, Nat.reduceMul, Nat.reduceLT, Nat.reduceLeDiff, Nat.reduceBNe, Int.reduceNeg, Int.reduceAdd, Int.reduceSub, Int.reduceMul, Int.reduceLT, Int.reduceLE, Int.reduceGT, Int.reduceGE, Int.reduceEq, Int.reduceNe, Int.reduceToNat, Int.reduceTMod, Int.reduceTDiv, hz, e]
    · have e : chkFrom peM [] l = 0 := by rw [hc, List.drop_eq_nil_of_le (by omega)]; rfl
      simp (disch := omega) only [go_sem, reduceIte, reduceDIte, reduceCtorEq, Nat.reduceBEq, Nat.reduceEqDiff, Nat.reduceAdd, Nat.reduceSub, Nat.reduceMul, Nat.reduceLT, Nat.reduceLeDiff, Nat.reduceBNe, Int.reduceNeg, Int.reduceAdd, Int.reduceSub, Int.reduceMul, Int.reduceLT, Int.reduceLE, Int.reduceGT, Int.reduceGE, Int.reduceEq, Int.reduceNe, Int.reduceToNat, Int.reduceTMod, Int.reduceTDiv, f12, f13, hlt, e]
  · refine ⟨by omega, ?_, ?_, ?_, ?_, [], [], rfl, rfl⟩ <;> simp (disch := omega) only [go_sem, reduceIte, reduceDIte, reduceCtorEq, Nat.reduceBEq, Nat.reduceEqDiff, Nat.reduceAdd, Nat.reduceSub, Nat.reduceMul, Nat.reduceLT, Nat.reduceLeDiff, Nat.reduceBNe, Int.reduceNeg, Int.reduceAdd, Int.reduceSub, Int.reduceMul, Int.reduceLT, Int.reduceLE, Int.reduceGT, Int.reduceGE, Int.reduceEq, Int.reduceNe, Int.reduceToNat, Int.reduceTMod, Int.reduceTDiv]
end Go.Proofs.YtefpcfooahogkaaDoor
/- The layings of slices.Sort and slices.Compact for numbers in this program. -/






set_option linter.unusedVariables false
set_option maxRecDepth 100000
namespace Go.Proofs.YtefpcfooahogkaaDoor
open Go.Shelf
def Tryd.lays189_ren : Go.Shelf.Ren := ⟨fun | 189 => 9 | 125 => 19 | 257 => 18 | 128 => 38 | 129 => 39 | 294 => 29 | 295 => 30 | 296 => 31 | 297 => 32 | 298 => 33 | 299 => 34 | 216 => 35 | 300 => 36 | 301 => 37 | 328 => 51 | 329 => 52 | 330 => 53 | 331 => 54 | 332 => 55 | 215 => 56 | 343 => 62 | n => n, fun | 28 => 35 | 3 => 3 | 46 => 53 | 0 => 0 | 51 => 80 | 53 => 82 | 4 => 4 | 183 => 72 | 182 => 71 | 131 => 77 | 5 => 5 | 9 => 9 | 218 => 95 | 222 => 99 | 228 => 109 | 229 => 110 | n => n, fun | n => n⟩
theorem Tryd.lays189 : Go.Proofs.Lays.n189 Tryd.prog Tryd.lays189_ren where
  mixed := by kernel_rfl
  f125 := Tryd.func19.trans (congrArg some (by kernel_rfl))
  f128 := Tryd.func38.trans (congrArg some (by kernel_rfl))
  f129 := Tryd.func39.trans (congrArg some (by kernel_rfl))
  f189 := Tryd.func9.trans (congrArg some (by kernel_rfl))
  f215 := Tryd.func56.trans (congrArg some (by kernel_rfl))
  f216 := Tryd.func35.trans (congrArg some (by kernel_rfl))
  f257 := Tryd.func18.trans (congrArg some (by kernel_rfl))
  f294 := Tryd.func29.trans (congrArg some (by kernel_rfl))
  f295 := Tryd.func30.trans (congrArg some (by kernel_rfl))
  f296 := Tryd.func31.trans (congrArg some (by kernel_rfl))
  f297 := Tryd.func32.trans (congrArg some (by kernel_rfl))
  f298 := Tryd.func33.trans (congrArg some (by kernel_rfl))
  f299 := Tryd.func34.trans (congrArg some (by kernel_rfl))
  f300 := Tryd.func36.trans (congrArg some (by kernel_rfl))
  f301 := Tryd.func37.trans (congrArg some (by kernel_rfl))
  f328 := Tryd.func51.trans (congrArg some (by kernel_rfl))
  f329 := Tryd.func52.trans (congrArg some (by kernel_rfl))
  f330 := Tryd.func53.trans (congrArg some (by kernel_rfl))
  f331 := Tryd.func54.trans (congrArg some (by kernel_rfl))
  f332 := Tryd.func55.trans (congrArg some (by kernel_rfl))
  f343 := Tryd.func62.trans (congrArg some (by kernel_rfl))
  t0 := Tryd.underlying0
  a0 := Tryd.isAgg0
  z0 := Tryd.sizeOf0
  v0 := Tryd.zeroValue0
  t3 := Tryd.underlying3
  a3 := Tryd.isAgg3
  z3 := Tryd.sizeOf3
  v3 := Tryd.zeroValue3
  t4 := Tryd.underlying4
  a4 := Tryd.isAgg4
  z4 := Tryd.sizeOf4
  v4 := Tryd.zeroValue4
  t5 := Tryd.underlying5
  a5 := Tryd.isAgg5
  z5 := Tryd.sizeOf5
  v5 := Tryd.zeroValue5
  t9 := Tryd.underlying9
  a9 := Tryd.isAgg9
  z9 := Tryd.sizeOf9
  v9 := Tryd.zeroValue9
  t28 := Tryd.underlying35
  a28 := Tryd.isAgg35
  z28 := Tryd.sizeOf35
  v28 := Tryd.zeroValue35
  t46 := Tryd.underlying53
  a46 := Tryd.isAgg53
  z46 := Tryd.sizeOf53
  v46 := Tryd.zeroValue53
  t51 := Tryd.underlying80
  a51 := Tryd.isAgg80
  z51 := Tryd.sizeOf80
  v51 := Tryd.zeroValue80
  t53 := Tryd.underlying82
  a53 := Tryd.isAgg82
  z53 := Tryd.sizeOf82
  v53 := Tryd.zeroValue82
  t131 := Tryd.underlying77
  a131 := Tryd.isAgg77
  z131 := Tryd.sizeOf77
  v131 := Tryd.zeroValue77
  t182 := Tryd.underlying71
  a182 := Tryd.isAgg71
  z182 := Tryd.sizeOf71
  v182 := Tryd.zeroValue71
  t183 := Tryd.underlying72
  a183 := Tryd.isAgg72
  z183 := Tryd.sizeOf72
  v183 := Tryd.zeroValue72
  t218 := Tryd.underlying95
  a218 := Tryd.isAgg95
  z218 := Tryd.sizeOf95
  v218 := Tryd.zeroValue95
  t222 := Tryd.underlying99
  a222 := Tryd.isAgg99
  z222 := Tryd.sizeOf99
  v222 := Tryd.zeroValue99
  t228 := Tryd.underlying109
  a228 := Tryd.isAgg109
  z228 := Tryd.sizeOf109
  v228 := Tryd.zeroValue109
  t229 := Tryd.underlying110
  a229 := Tryd.isAgg110
  z229 := Tryd.sizeOf110
  v229 := Tryd.zeroValue110
def Tryd.lays2n20_ren : Go.Shelf.Ren := ⟨fun | 20 => 10 | n => n, fun | 22 => 35 | 3 => 3 | 4 => 4 | 0 => 0 | n => n, fun | n => n⟩
theorem Tryd.lays2n20 : Go.Proofs.Lays2.n20 Tryd.prog Tryd.lays2n20_ren where
  mixed := by kernel_rfl
  f20 := Tryd.func10.trans (congrArg some (by kernel_rfl))
  t0 := Tryd.underlying0
  a0 := Tryd.isAgg0
  z0 := Tryd.sizeOf0
  v0 := Tryd.zeroValue0
  t3 := Tryd.underlying3
  a3 := Tryd.isAgg3
  z3 := Tryd.sizeOf3
  v3 := Tryd.zeroValue3
  t4 := Tryd.underlying4
  a4 := Tryd.isAgg4
  z4 := Tryd.sizeOf4
  v4 := Tryd.zeroValue4
  t22 := Tryd.underlying35
  a22 := Tryd.isAgg35
  z22 := Tryd.sizeOf35
  v22 := Tryd.zeroValue35
  i3 := by kernel_rfl
end Go.Proofs.YtefpcfooahogkaaDoor
/- Own slices of numbers, sorted or compacted in place by the library. -/



set_option linter.unusedVariables false
set_option linter.unusedSimpArgs false
namespace Nv
open Go Go.RowKit Go.Proofs Go.Sort

section
variable {P : Program} {ρ ρ' : RHO} {σ σ' : ST} {I I' : Nat → Prop} {w w' : World}

def numsD (l : List Int) : List DV := l.map (DV.int .i64)
theorem numsD_length (l : List Int) : (numsD l).length = l.length := by simp [numsD]
theorem flat_nums (l : List Int) : flat (numsD l) = numsD l := by
  induction l with
  | nil => rfl
  | cons x l ih => show [_] ++ flat (numsD l) = _; rw [ih]; rfl
theorem nums_get {l : List Int} {j : Nat} (h : j < l.length) : (numsD l)[j]? = some (.int .i64 (l.getD j 0)) := by
  simp [numsD, List.getD_eq_getElem?_getD, h]
theorem arr_get {d : Array Int} {l : List Int} (hd : d.toList = l) {j : Nat} (h : j < l.length) : d[j]! = l.getD j 0 := by
  subst hd
  have hlt : j < d.size := by simpa using h
  rw [getElem!_pos d _ hlt, List.getD_eq_getElem?_getD, Array.getElem?_toList, Array.getElem?_eq_getElem hlt]; rfl

/-- What lies at an own slice of numbers. -/
theorem nums_holds (hr : RS P ρ I w σ) {b g B t : Nat} {l : List Int} (hsb : σ[b]? = some (.arr g ⟨1, t⟩ (numsD l))) (hB : (ρ b).blk = some B) :
    Holds (Value.int .i64) w B (ρ b).base l.toArray ∧ B < w.heap.size := by
  obtain ⟨us, q1, q2, q3, q4, q5⟩ := hr.arr hsb hB
  have hBlt : B < w.heap.size := by
    rcases Nat.lt_or_ge B w.heap.size with h' | h'
    · exact h'
    · rw [Array.getElem?_eq_none h'] at q1; cases q1
  refine ⟨fun j hj => ?_, hBlt⟩
  have hj' : j < l.length := by simpa using hj
  have hc := (q5 j _ (by rw [flat_nums]; exact nums_get hj')).int_inv
  have hlt : (ρ b).base + j < us.size := by
    rw [numsD_length] at q3; simp only [Nat.mul_one] at q2; omega
  refine ⟨?_, by simp [World.frozen?, q1]⟩
  rw [arr_get (l := l) (by simp) hj']
  rw [Array.getD_eq_getD_getElem?, Array.getElem?_eq_getElem hlt, Option.getD_some] at hc
  simp [World.cell?, q1, Array.getElem?_eq_getElem hlt, hc]

/-- The slice written anew by the library. -/
theorem nums_anew (hr : RS P ρ I w σ) {b g B t : Nat} {l m : List Int} (hsb : σ[b]? = some (.arr g ⟨1, t⟩ (numsD l))) (hB : (ρ b).blk = some B) (hl : m.length = l.length) (d : Array Int) (hd : d.toList = m) (n : Nat) (os : Array Obj) :
    ∃ ρ', Step ρ I w σ ρ' I (grow (putRow (Value.int .i64) (Sort.ahead w n) B (ρ b).base d) os) (stSet σ b (.arr g ⟨1, t⟩ (numsD m))) ∧
      RS P ρ' I (grow (putRow (Value.int .i64) (Sort.ahead w n) B (ρ b).base d) os) (stSet σ b (.arr g ⟨1, t⟩ (numsD m))) := by
  obtain ⟨us, q1, q2, q3, q4, q5⟩ := hr.arr hsb hB
  have hBlt := (nums_holds hr hsb hB).2
  have hdz : d.size = m.length := by rw [← hd]; simp
  rw [numsD_length] at q3
  simp only [Nat.mul_one] at q2
  obtain ⟨us', hus'⟩ : ∃ us', us' = putCells (Value.int .i64) (ρ b).base d us := ⟨_, rfl⟩
  have husz : us'.size = us.size := by rw [hus']; simp [putCells]
  have hBl : B < (putRow (Value.int .i64) (Sort.ahead w n) B (ρ b).base d).heap.size := by simpa [Sort.ahead, putRow, mapBlock] using hBlt
  have hheapB : (grow (putRow (Value.int .i64) (Sort.ahead w n) B (ρ b).base d) os).heap[B]? = some (.cells us' t (0, 0)) := by
    simp only [grow]
    rw [Array.getElem?_append, if_pos hBl]
    simp [putRow, mapBlock, Sort.ahead, Array.getElem?_modify, q1, onCells, hus']
  refine own_anew (ys := numsD m) hr hsb hB (by rw [numsD_length, numsD_length, hl]) (fun y hy => ?_) (Ext.of (by simp [grow, putRow, mapBlock, Sort.ahead]) ⟨rfl, rfl, rfl⟩) (fun c hc hcB => ?_) hheapB (by rw [husz]; simpa using q2) (fun j c hj => ?_)
  · obtain ⟨r, _, rfl⟩ := List.mem_map.1 hy
    exact ⟨rfl, fun c hc => by simp only [DV.cells, List.mem_cons, List.not_mem_nil, or_false] at hc; subst hc; rfl⟩
  · have hcl : c < (putRow (Value.int .i64) (Sort.ahead w n) B (ρ b).base d).heap.size := by simpa [Sort.ahead, putRow, mapBlock] using hc
    simp only [grow]
    rw [Array.getElem?_append, if_pos hcl]
    simp [putRow, mapBlock, Sort.ahead, Array.getElem?_modify, show ¬ B = c from fun h => hcB h.symm]
  · have hjl : j < m.length := by
      rcases Nat.lt_or_ge j m.length with h | h
      · exact h
      · rw [flat_nums, List.getElem?_eq_none (by rw [numsD_length]; exact h)] at hj; cases hj
    rw [flat_nums, nums_get hjl] at hj
    cases hj
    have hlt : (ρ b).base + j < us.size := by omega
    have hval : us'.getD ((ρ b).base + j) undef = .int .i64 (m.getD j 0) := by
      rw [hus', putCells, Array.getD_eq_getD_getElem?, Array.getElem?_mapIdx, Array.getElem?_eq_getElem hlt]
      simp only [Option.map_some, Option.getD_some, hdz]
      rw [if_pos ⟨by omega, by omega⟩, show (ρ b).base + j - (ρ b).base = j by omega, arr_get hd hjl]
    rw [hval]
    exact .int _ _

theorem one_arg {a : AV} {vs : Array Value} (hv : VL ρ σ I w [a] vs) : ∃ v, vs = #[v] ∧ V ρ σ I w a v := by
  have hsz : vs.size = 1 := by have := hv.1; simpa using this.symm
  obtain ⟨l⟩ := vs
  match l, hsz with
  | [a], _ => exact ⟨a, rfl, hv.2 0 _ rfl⟩

/-- slices.Sort of an own slice of numbers. -/
theorem sort_nums {r : Shelf.Ren} (L : Proofs.Lays.n189 P r) (s : List Int) (b g t : Nat) (σ : ST) (hst : stGet σ b = .arr g ⟨1, t⟩ (numsD s)) (h0 : 0 < s.length) (hsz : s.length < 4611686018427387904) :
    RCall P (r.f 189) [.own b g 0 s.length] σ fun v σ' => v = .tuple [] ∧ σ' = stSet σ b (.arr g ⟨1, t⟩ (numsD (s.mergeSort fun x y => decide (x ≤ y)))) := by
  intro ρ I w vs hr hvs
  have hsb := stGet_some hst (by simp)
  obtain ⟨v, rfl, hv⟩ := one_arg hvs
  clear hvs
  generalize hn : s.length = n0 at hv
  cases hv with
  | ownNil k1 k2 => omega
  | ownOld k1 k2 => rw [hsb] at k1; cases k1; exact absurd (k2 _ _ _ rfl) (by omega)
  | own k1 k2 k3 k4 =>
    rw [hsb] at k1; cases k1
    subst hn
    rename_i B cap
    simp only [Nat.zero_mul, Nat.add_zero]
    obtain ⟨hH, hBlt⟩ := nums_holds hr hsb k2
    refine (Any.slices_Sort_int L B (ρ b).base cap s w hH hBlt hsz).mono ?_
    rintro e w' ⟨rfl, n, os, rfl⟩
    obtain ⟨ρ', h1, h2⟩ := nums_anew (m := s.mergeSort fun x y => decide (x ≤ y)) hr hsb k2 (by simp) _ rfl n os
    exact ⟨ρ', I, _, .ret (.tuple []), h1, h2, .tuple rfl (fun j c hj => by simp at hj), ⟨_, rfl, rfl, rfl⟩⟩

/-- slices.Compact of an own slice of numbers. -/
theorem compact_nums {r : Shelf.Ren} (L : Proofs.Lays2.n20 P r) (s : List Int) (b g t : Nat) (σ : ST) (hst : stGet σ b = .arr g ⟨1, t⟩ (numsD s)) (h0 : 0 < s.length) (hc : 0 < (Lib.compact s).length) (hsz : s.length ≤ 9223372036854775807) :
    RCall P (r.f 20) [.own b g 0 s.length] σ fun v σ' => v = .own b g 0 (Lib.compact s).length ∧ σ' = stSet σ b (.arr g ⟨1, t⟩ (numsD (Lib.compact s ++ List.replicate (s.length - (Lib.compact s).length) 0))) := by
  intro ρ I w vs hr hvs
  have hsb := stGet_some hst (by simp)
  obtain ⟨v, rfl, hv⟩ := one_arg hvs
  clear hvs
  generalize hn : s.length = n0 at hv
  have hle : (Lib.compact s).length ≤ s.length := by
    unfold Lib.compact Lib.compactUpTo
    rw [List.length_map]
    exact Nat.le_trans (List.length_filter_le _ _) (by simp)
  cases hv with
  | ownNil k1 k2 => omega
  | ownOld k1 k2 => rw [hsb] at k1; cases k1; exact absurd (k2 _ _ _ rfl) (by omega)
  | own k1 k2 k3 k4 =>
    rw [hsb] at k1; cases k1
    subst hn
    rename_i B cap
    simp only [Nat.zero_mul, Nat.add_zero]
    obtain ⟨hH, hBlt⟩ := nums_holds hr hsb k2
    refine (Any.slices_Compact_int L B (ρ b).base cap s w hH hsz k3).mono ?_
    rintro e w' ⟨rfl, n, rfl⟩
    obtain ⟨ρ', h1, h2⟩ := nums_anew (m := Lib.compact s ++ List.replicate (s.length - (Lib.compact s).length) 0) hr hsb k2 (by simp; omega) (Lib.compact s ++ List.replicate (s.length - (Lib.compact s).length) 0).toArray (by simp) n #[]
    have hg : ∀ W : World, grow W #[] = W := fun W => by cases W; simp only [grow, Array.append_empty]
    rw [hg] at h1 h2
    have hblt : b < σ.length := by rcases Nat.lt_or_ge b σ.length with h' | h'; exact h'; simp [List.getElem?_eq_none h'] at hsb
    obtain ⟨blk', h3, h4⟩ := h1.compat b _ hsb
    have h5 : (stSet σ b (.arr g ⟨1, t⟩ (numsD (Lib.compact s ++ List.replicate (s.length - (Lib.compact s).length) 0))))[b]? = some (.arr g ⟨1, t⟩ (numsD (Lib.compact s ++ List.replicate (s.length - (Lib.compact s).length) 0))) := by simp [stSet, hblt]
    rw [h5] at h3; cases h3
    have hρ : ρ' b = ρ b := by
      simp only [Compat] at h4
      rcases h4 with h4 | h4
      · exact h4.2.2.1
      · omega
    refine ⟨ρ', I, _, .ret (.own b g 0 (Lib.compact s).length), h1, h2, ?_, ⟨_, rfl, rfl, rfl⟩⟩
    have := V.own (ρ := ρ') (σ := stSet σ b (.arr g ⟨1, t⟩ (numsD (Lib.compact s ++ List.replicate (s.length - (Lib.compact s).length) 0)))) (I := I) (w := (putRow (Value.int .i64) (Sort.ahead w n) B (ρ b).base (Lib.compact s ++ List.replicate (s.length - (Lib.compact s).length) 0).toArray)) (off := 0) (n := (Lib.compact s).length) (cap := cap) h5 (by rw [hρ]; exact k2) (by omega) (by rw [hρ]; exact k4)
    simp only [Nat.zero_mul, Nat.add_zero, hρ] at this
    exact this
end
end Nv
set_option linter.unusedVariables false
set_option linter.unusedSimpArgs false
set_option maxRecDepth 100000
namespace Go.Proofs.YtefpcfooahogkaaDoor
open Go Nv Rul

/- The program's Bands. -/
def spanD (s : Int × Int) : DV := .agg [.int .i64 s.1, .int .i64 s.2]
def spansD (l : List (Int × Int)) : DV := .list 2 (l.map spanD)
def hints5 : Nat → Hint := fun i => if i = 49 then .freeze else .no
@[go_sem] theorem hints5_at (i : Nat) : hints5 i = if i = 49 then .freeze else .no := nrfl rfl
def bandsD (l : List Rule) : DV := if chkR peM l = 0 then spansD (spans (cuts l)) else .nilslice
theorem cuts_snoc (l : List Rule) (r : Rule) : cutsOf (l ++ [r]) = cutsOf l ++ [r.lo, r.hi] := by simp [cutsOf]
theorem cutsOf_len (l : List Rule) : (cutsOf l).length = 2 + 2 * l.length := by
  induction l with
  | nil => rfl
  | cons r l ih => simp only [cutsOf, List.flatMap_cons, List.length_append, List.length_cons, List.length_nil] at ih ⊢; omega
theorem take_rule {l : List Rule} {j : Nat} (h : j < l.length) : l.take (j + 1) = l.take j ++ [l.getD j default] := by
  rw [List.take_succ_eq_append_getElem h]; simp [List.getD_eq_getElem?_getD, h]
theorem take_all' {α : Type} (l : List α) (n : Nat) (h : l.length = n) : l.take n = l := List.take_of_length_le (by omega)
theorem few {pe : List UInt8 → Int} {l : List Rule} (h : chkR pe l = 0) : l.length ≤ 16 := by
  unfold chkR at h
  split at h
  · omega
  · omega
theorem spans_take : ∀ (l : List Int) (j : Nat), 1 ≤ j → j < l.length → spans (l.take (j + 1)) = spans (l.take j) ++ [(l.getD (j - 1) 0, l.getD j 0)]
  | [], j, _, h => by simp at h
  | [_], j, h1, h => by simp at h; omega
  | a :: b :: l, 1, _, _ => rfl
  | a :: b :: l, j + 2, _, h => by
    have := spans_take (b :: l) (j + 1) (by omega) (by simp at h ⊢; omega)
    rw [List.take_succ_cons, List.take_succ_cons, spans, ← List.take_succ_cons, this]
    rfl
theorem nums_at {l m : List Int} {i : Nat} (h : i < l.length) : (numsD (l ++ m)).getD i default = .int .i64 (l.getD i 0) := by
  have h' : i < (l.map (DV.int .i64)).length := by simpa using h
  simp only [numsD, List.map_append, List.getD_eq_getElem?_getD, List.getElem?_append_left h', List.getElem?_map, List.getElem?_eq_getElem h]; rfl
theorem bands5 (l : List Rule) (hs : Sized l) : PCall Tryd.prog 5 [.d (rulesD l)] (.d (bandsD l)) := by
  refine fn5.pure hints5 (Nat.le_refl _) (by simp only [go_sem, rulesD]) (by unfold bandsD; split <;> simp only [go_sem, spansD]) ?_
  have hc := check6 l hs
  simp only [rulesD] at hc
  simp (disch := omega) only [go_sem, reduceIte, reduceDIte, reduceCtorEq, Nat.reduceBEq, Nat.reduceEqDiff, Nat.reduceAdd, Nat.reduceSub, Nat.reduceMul, Nat.reduceLT, Nat.reduceLeDiff, Nat.reduceBNe, Int.reduceNeg, Int.reduceAdd, Int.reduceSub, Int.reduceMul, Int.reduceLT, Int.reduceLE, Int.reduceGT, Int.reduceGE, Int.reduceEq, Int.reduceNe, Int.reduceToNat, Int.reduceTMod, Int.reduceTDiv, rulesD]
  refine hc.at ?_
  by_cases h0 : chkR peM l = 0
  · have e : bandsD l = spansD (spans (cuts l)) := by rw [bandsD, if_pos h0]
    rw [e]
    simp (disch := omega) only [go_sem, reduceIte, reduceDIte, reduceCtorEq, Nat.reduceBEq, Nat.reduceEqDiff, Nat.reduceAdd, Nat.reduceSub, Nat.reduceMul, Nat.reduceLT, Nat.reduceLeDiff, Nat.reduceBNe, Int.reduceNeg, Int.reduceAdd, Int.reduceSub, Int.reduceMul, Int.reduceLT, Int.reduceLE, Int.reduceGT, Int.reduceGE, Int.reduceEq, Int.reduceNe, Int.reduceToNat, Int.reduceTMod, Int.reduceTDiv, h0, List.length_map]
    refine wL_ind (fun (j : Nat) fr σ => j ≤ l.length ∧ fr 12 = .d (.list 6 (l.map ruleD)) ∧ fr 13 = .d (.int .i64 l.length) ∧ fr 14 = .d (.int .i64 j) ∧
      ∃ g n B, fr 3 = .own 0 g 0 n ∧ n = (cutsOf (l.take j)).length ∧ σ = .arr g ⟨1, 3⟩ (numsD (cutsOf (l.take j))) :: B) (fun j => l.length - j) ?_ 0 ?_
    · rintro j fr σ ⟨hj, f12, f13, f14, g, n, B, f3, hn, rfl⟩ ih
      have hl16 := few h0
      by_cases hlt : j < l.length
      · obtain ⟨r, hr⟩ : ∃ r, r = l.getD j default := ⟨_, rfl⟩
        have hg := rule_get l j hlt
        rw [← hr] at hg
        have htk := take_rule hlt
        rw [← hr] at htk
        have hn2 := cutsOf_len (l.take j)
        rw [List.length_take] at hn2
        have hta := take_all' (numsD (cutsOf (l.take j))) n (by rw [numsD_length, hn])
        have hcap : (n + 2) * 8 ≤ 140737488355328 := by omega
        have hnd : numsD (cutsOf (l.take (j + 1))) = numsD (cutsOf (l.take j)) ++ [.int .i64 r.lo, .int .i64 r.hi] := by rw [htk, cuts_snoc]; simp [numsD]
        simp (disch := omega) only [go_sem, reduceIte, reduceDIte, reduceCtorEq, Nat.reduceBEq, Nat.reduceEqDiff, Nat.reduceAdd, Nat.reduceSub, Nat.reduceMul, Nat.reduceLT, Nat.reduceLeDiff, Nat.reduceBNe, Int.reduceNeg, Int.reduceAdd, Int.reduceSub, Int.reduceMul, Int.reduceLT, Int.reduceLE, Int.reduceGT, Int.reduceGE, Int.reduceEq, Int.reduceNe, Int.reduceToNat, Int.reduceTMod, Int.reduceTDiv, f12, f13, f14, f3, List.length_map, hlt, hg, ruleD_cells, hta, hcap, numsD_length, ← hn, Nat.zero_add, Nat.le_refl, List.append_assoc, List.cons_append, List.nil_append, List.length_append, stGet_app, stGet_app0, stSet_app, stSet_app0]
        refine ih (j + 1) _ _ (by omega) ⟨by omega, ?_, ?_, ?_, g + 1, n + 2, ?B1, ?_, ?_, ?r1⟩
        case r1 => rw [hnd]
        · simp (disch := omega) only [go_sem, reduceIte, reduceDIte, reduceCtorEq, Nat.reduceBEq, Nat.reduceEqDiff, Nat.reduceAdd, Nat.reduceSub, Nat.reduceMul, Nat.reduceLT, Nat.reduceLeDiff, Nat.reduceBNe, Int.reduceNeg, Int.reduceAdd, Int.reduceSub, Int.reduceMul, Int.reduceLT, Int.reduceLE, Int.reduceGT, Int.reduceGE, Int.reduceEq, Int.reduceNe, Int.reduceToNat, Int.reduceTMod, Int.reduceTDiv, f12]
        · simp (disch := omega) only [go_sem, reduceIte, reduceDIte, reduceCtorEq, Nat.reduceBEq, Nat.reduceEqDiff, Nat.reduceAdd, Nat.reduceSub, Nat.reduceMul, Nat.reduceLT, Nat.reduceLeDiff, Nat.reduceBNe, Int.reduceNeg, Int.reduceAdd, Int.reduceSub, Int.reduceMul, Int.reduceLT, Int.reduceLE, Int.reduceGT, Int.reduceGE, Int.reduceEq, Int.reduceNe, Int.reduceToNat, Int.reduceTMod, Int.reduceTDiv, f13]
        · simp (disch := omega) only [go_sem, reduceIte, reduceDIte, reduceCtorEq, Nat.reduceBEq, Nat.reduceEqDiff, Nat.reduceAdd, Nat.reduceSub, Nat.reduceMul, Nat.reduceLT, Nat.reduceLeDiff, Nat.reduceBNe, Int.reduceNeg, Int.reduceAdd, Int.reduceSub, Int.reduceMul, Int.reduceLT, Int.reduceLE, Int.reduceGT, Int.reduceGE, Int.reduceEq, Int.reduceNe, Int.reduceToNat, Int.reduceTMod, Int.reduceTDiv, f14]
        · simp (disch := omega) only [go_sem, reduceIte, reduceDIte, reduceCtorEq, Nat.reduceBEq, Nat.reduceEqDiff, Nat.reduceAdd, Nat.reduceSub, Nat.reduceMul, Nat.reduceLT, Nat.reduceLeDiff, Nat.reduceBNe, Int.reduceNeg, Int.reduceAdd, Int.reduceSub, Int.reduceMul, Int.reduceLT, Int.reduceLE, Int.reduceGT, Int.reduceGE, Int.reduceEq, Int.reduceNe, Int.reduceToNat, Int.reduceTMod, Int.reduceTDiv, f3]
        · rw [htk, cuts_snoc, List.length_append, ← hn]; rfl
      · rw [List.take_of_length_le (by omega)] at hn ⊢
        have hn2 := cutsOf_len l
        have hs9 := sort_nums Tryd.lays189 (cutsOf l) 0 g 3 (.arr g ⟨1, 3⟩ (numsD (cutsOf l)) :: B) rfl (by omega) (by omega)
        have hsl : (sortI (cutsOf l)).length = (cutsOf l).length := sortI_len _
        have h2c := cuts_two l
        simp (disch := omega) only [go_sem, reduceIte, reduceDIte, reduceCtorEq, Nat.reduceBEq, Nat.reduceEqDiff, Nat.reduceAdd, Nat.reduceSub, Nat.reduceMul, Nat.reduceLT, Nat.reduceLeDiff, Nat.reduceBNe, Int.reduceNeg, Int.reduceAdd, Int.reduceSub, Int.reduceMul, Int.reduceLT, Int.reduceLE, Int.reduceGT, Int.reduceGE, Int.reduceEq, Int.reduceNe, Int.reduceToNat, Int.reduceTMod, Int.reduceTDiv, f12, f13, f14, f3, hlt, List.append_assoc, List.cons_append, List.nil_append, List.length_append, stGet_app, stGet_app0, stSet_app, stSet_app0]
        rw [hn]
        refine hs9.at ?_
        rintro v σ' ⟨rfl, rfl⟩
        have hs10 := compact_nums Tryd.lays2n20 (sortI (cutsOf l)) 0 g 3 (.arr g ⟨1, 3⟩ (numsD (sortI (cutsOf l))) :: B) rfl (by omega) (show 0 < (cuts l).length by omega) (by omega)
        rw [hsl] at hs10
        simp (disch := omega) only [go_sem, reduceIte, reduceDIte, reduceCtorEq, Nat.reduceBEq, Nat.reduceEqDiff, Nat.reduceAdd, Nat.reduceSub, Nat.reduceMul, Nat.reduceLT, Nat.reduceLeDiff, Nat.reduceBNe, Int.reduceNeg, Int.reduceAdd, Int.reduceSub, Int.reduceMul, Int.reduceLT, Int.reduceLE, Int.reduceGT, Int.reduceGE, Int.reduceEq, Int.reduceNe, Int.reduceToNat, Int.reduceTMod, Int.reduceTDiv, f3, hn]
        refine hs10.at ?_
        rintro v σ' ⟨rfl, rfl⟩
        have ec : Lib.compact (sortI (cutsOf l)) = cuts l := rfl
        rw [ec]
        generalize List.replicate ((cutsOf l).length - (cuts l).length) (0 : Int) = zs
        simp (disch := omega) only [go_sem, reduceIte, reduceDIte, reduceCtorEq, Nat.reduceBEq, Nat.reduceEqDiff, Nat.reduceAdd, Nat.reduceSub, Nat.reduceMul, Nat.reduceLT, Nat.reduceLeDiff, Nat.reduceBNe, Int.reduceNeg, Int.reduceAdd, Int.reduceSub, Int.reduceMul, Int.reduceLT, Int.reduceLE, Int.reduceGT, Int.reduceGE, Int.reduceEq, Int.reduceNe, Int.reduceToNat, Int.reduceTMod, Int.reduceTDiv, f3]
        refine wL_ind (fun (j : Nat) fr σ => 1 ≤ j ∧ j ≤ (cuts l).length ∧ fr 3 = .own 0 g 0 (cuts l).length ∧ fr 7 = .d (.int .i64 j) ∧
          ((j = 1 ∧ fr 6 = .d .nilslice ∧ σ = .arr g ⟨1, 3⟩ (numsD (cuts l ++ zs)) :: B) ∨ (2 ≤ j ∧ ∃ D g' C, fr 6 = .own (D.length + 1) g' 0 (j - 1) ∧ σ = .arr g ⟨1, 3⟩ (numsD (cuts l ++ zs)) :: (D ++ .arr g' ⟨2, 29⟩ ((spans ((cuts l).take j)).map spanD) :: C)))) (fun j => (cuts l).length - j) ?_ 1 ?_
        · rintro j fr σ ⟨hj1, hj, f3, f7, hcase⟩ ih
          have hcl : (cuts l).length ≤ 34 := by
            have h1 : (Lib.compact (sortI (cutsOf l))).length ≤ (sortI (cutsOf l)).length := by
              unfold Lib.compact Lib.compactUpTo
              rw [List.length_map]
              exact Nat.le_trans (List.length_filter_le _ _) (by simp)
            rw [ec, hsl] at h1; omega
          by_cases hlt : j < (cuts l).length
          · have e1 := nums_at (m := zs) (show j - 1 < (cuts l).length by omega)
            have e2 := nums_at (m := zs) hlt
            have hlz : (numsD (cuts l ++ zs)).length = (cuts l).length + zs.length := by rw [numsD_length, List.length_append]
            have hj1' : (j : Int) - 1 = ((j - 1 : Nat) : Int) := by omega
            have hst := spans_take (cuts l) j hj1 hlt
            have b1 : j - 1 < (cuts l).length := by omega
            have b2 : j - 1 < (cuts l).length + zs.length := by omega
            have b3 : j < (cuts l).length + zs.length := by omega
            have hsl2 : (spans ((cuts l).take j)).length = j - 1 := by rw [spans_len, List.length_take]; omega
            have hta2 := take_all' ((spans ((cuts l).take j)).map spanD) (j - 1) (by rw [List.length_map, hsl2])
            have hcap : (j - 1 + 1) * 16 ≤ 140737488355328 := by omega
            have hnx : (spans ((cuts l).take (j + 1))).map spanD = (spans ((cuts l).take j)).map spanD ++ [spanD ((cuts l).getD (j - 1) 0, (cuts l).getD j 0)] := by rw [hst, List.map_append]; rfl
            rcases hcase with ⟨rfl, f6, rfl⟩ | ⟨hj2, D, g', C, f6, rfl⟩
            · simp (disch := omega) only [go_sem, reduceIte, reduceDIte, reduceCtorEq, Nat.reduceBEq, Nat.reduceEqDiff, Nat.reduceAdd, Nat.reduceSub, Nat.reduceMul, Nat.reduceLT, Nat.reduceLeDiff, Nat.reduceBNe, Int.reduceNeg, Int.reduceAdd, Int.reduceSub, Int.reduceMul, Int.reduceLT, Int.reduceLE, Int.reduceGT, Int.reduceGE, Int.reduceEq, Int.reduceNe, Int.reduceToNat, Int.reduceTMod, Int.reduceTDiv, f3, f6, f7, hlt, e1, e2, hlz, hj1', b1, b2, b3, Nat.zero_add, List.append_assoc, List.cons_append, List.nil_append, List.length_append, stGet_app, stGet_app0, stSet_app, stSet_app0]
              refine ⟨by omega, ?_⟩
              refine ih 2 _ _ (by omega) ⟨by omega, by omega, ?_, ?_, .inr ⟨by omega, B ++ [.arr 0 ⟨2, 29⟩ [spanD ((cuts l).getD 0 0, (cuts l).getD 1 0)]], 0, [], ?_, ?r1⟩⟩
              case r1 => rw [hnx, List.eq_nil_of_length_eq_zero (show (spans ((cuts l).take 1)).length = 0 by omega)]; simp (disch := omega) only [go_sem, reduceIte, reduceDIte, reduceCtorEq, Nat.reduceBEq, Nat.reduceEqDiff, Nat.reduceAdd, Nat.reduceSub, Nat.reduceMul, Nat.reduceLT, Nat.reduceLeDiff, Nat.reduceBNe, Int.reduceNeg, Int.reduceAdd, Int.reduceSub, Int.reduceMul, Int.reduceLT, Int.reduceLE, Int.reduceGT, Int.reduceGE, Int.reduceEq, Int.reduceNe, Int.reduceToNat, Int.reduceTMod, Int.reduceTDiv, List.append_assoc, List.cons_append, List.nil_append, List.length_append, stGet_app, stGet_app0, stSet_app, stSet_app0]; rfl
              · simp (disch := omega) only [go_sem, reduceIte, reduceDIte, reduceCtorEq, Nat.reduceBEq, Nat.reduceEqDiff, Nat.reduceAdd, Nat.reduceSub, Nat.reduceMul, Nat.reduceLT, Nat.reduceLeDiff, Nat.reduceBNe, Int.reduceNeg, Int.reduceAdd, Int.reduceSub, Int.reduceMul, Int.reduceLT, Int.reduceLE, Int.reduceGT, Int.reduceGE, Int.reduceEq, Int.reduceNe, Int.reduceToNat, Int.reduceTMod, Int.reduceTDiv, f3]
              · simp (disch := omega) only [go_sem, reduceIte, reduceDIte, reduceCtorEq, Nat.reduceBEq, Nat.reduceEqDiff, Nat.reduceAdd, Nat.reduceSub, Nat.reduceMul, Nat.reduceLT, Nat.reduceLeDiff, Nat.reduceBNe, Int.reduceNeg, Int.reduceAdd, Int.reduceSub, Int.reduceMul, Int.reduceLT, Int.reduceLE, Int.reduceGT, Int.reduceGE, Int.reduceEq, Int.reduceNe, Int.reduceToNat, Int.reduceTMod, Int.reduceTDiv, f7]
              · simp (disch := omega) only [go_sem, reduceIte, reduceDIte, reduceCtorEq, Nat.reduceBEq, Nat.reduceEqDiff, Nat.reduceAdd, Nat.reduceSub, Nat.reduceMul, Nat.reduceLT, Nat.reduceLeDiff, Nat.reduceBNe, Int.reduceNeg, Int.reduceAdd, Int.reduceSub, Int.reduceMul, Int.reduceLT, Int.reduceLE, Int.reduceGT, Int.reduceGE, Int.reduceEq, Int.reduceNe, Int.reduceToNat, Int.reduceTMod, Int.reduceTDiv, f6, List.append_assoc, List.cons_append, List.nil_append, List.length_append, stGet_app, stGet_app0, stSet_app, stSet_app0]
            · simp (disch := omega) only [go_sem, reduceIte, reduceDIte, reduceCtorEq, Nat.reduceBEq, Nat.reduceEqDiff, Nat.reduceAdd, Nat.reduceSub, Nat.reduceMul, Nat.reduceLT, Nat.reduceLeDiff, Nat.reduceBNe, Int.reduceNeg, Int.reduceAdd, Int.reduceSub, Int.reduceMul, Int.reduceLT, Int.reduceLE, Int.reduceGT, Int.reduceGE, Int.reduceEq, Int.reduceNe, Int.reduceToNat, Int.reduceTMod, Int.reduceTDiv, f3, f6, f7, hlt, e1, e2, hlz, hj1', b1, b2, b3, hsl2, hta2, hcap, Nat.le_refl, Nat.zero_add, List.append_assoc, List.cons_append, List.nil_append, List.length_append, stGet_app, stGet_app0, stSet_app, stSet_app0]
              refine ih (j + 1) _ _ (by omega) ⟨by omega, by omega, ?_, ?_, .inr ⟨by omega, D, g' + 1, ?C2, ?_, ?r2⟩⟩
              case r2 => rw [hnx]; rfl
              · simp (disch := omega) only [go_sem, reduceIte, reduceDIte, reduceCtorEq, Nat.reduceBEq, Nat.reduceEqDiff, Nat.reduceAdd, Nat.reduceSub, Nat.reduceMul, Nat.reduceLT, Nat.reduceLeDiff, Nat.reduceBNe, Int.reduceNeg, Int.reduceAdd, Int.reduceSub, Int.reduceMul, Int.reduceLT, Int.reduceLE, Int.reduceGT, Int.reduceGE, Int.reduceEq, Int.reduceNe, Int.reduceToNat, Int.reduceTMod, Int.reduceTDiv, f3]
              · simp (disch := omega) only [go_sem, reduceIte, reduceDIte, reduceCtorEq, Nat.reduceBEq, Nat.reduceEqDiff, Nat.reduceAdd, Nat.reduceSub, Nat.reduceMul, Nat.reduceLT, Nat.reduceLeDiff, Nat.reduceBNe, Int.reduceNeg, Int.reduceAdd, Int.reduceSub, Int.reduceMul, Int.reduceLT, Int.reduceLE, Int.reduceGT, Int.reduceGE, Int.reduceEq, Int.reduceNe, Int.reduceToNat, Int.reduceTMod, Int.reduceTDiv, f7]
              · simp (disch := omega) only [go_sem, reduceIte, reduceDIte, reduceCtorEq, Nat.reduceBEq, Nat.reduceEqDiff, Nat.reduceAdd, Nat.reduceSub, Nat.reduceMul, Nat.reduceLT, Nat.reduceLeDiff, Nat.reduceBNe, Int.reduceNeg, Int.reduceAdd, Int.reduceSub, Int.reduceMul, Int.reduceLT, Int.reduceLE, Int.reduceGT, Int.reduceGE, Int.reduceEq, Int.reduceNe, Int.reduceToNat, Int.reduceTMod, Int.reduceTDiv, f6, show j + 1 - 1 = j - 1 + 1 by omega, List.append_assoc, List.cons_append, List.nil_append, List.length_append, stGet_app, stGet_app0, stSet_app, stSet_app0]
          · have hje : j = (cuts l).length := by omega
            rcases hcase with ⟨rfl, f6, rfl⟩ | ⟨hj2, D, g', C, f6, rfl⟩
            · omega
            · rw [hje, List.take_length]
              have hta2 := take_all' ((spans (cuts l)).map spanD) (j - 1) (by rw [List.length_map, spans_len, hje])
              simp (disch := omega) only [go_sem, reduceIte, reduceDIte, reduceCtorEq, Nat.reduceBEq, Nat.reduceEqDiff, Nat.reduceAdd, Nat.reduceSub, Nat.reduceMul, Nat.reduceLT, Nat.reduceLeDiff, Nat.reduceBNe, Int.reduceNeg, Int.reduceAdd, Int.reduceSub, Int.reduceMul, Int.reduceLT, Int.reduceLE, Int.reduceGT, Int.reduceGE, Int.reduceEq, Int.reduceNe, Int.reduceToNat, Int.reduceTMod, Int.reduceTDiv, f3, f6, f7, hlt, hta2, spans_len, Nat.le_refl, Nat.zero_add, List.append_assoc, List.cons_append, List.nil_append, List.length_append, stGet_app, stGet_app0, stSet_app, stSet_app0]
              exact ⟨by omega, rfl⟩
        · refine ⟨by omega, by omega, ?_, ?_, .inl ⟨rfl, ?_, ?_⟩⟩ <;> first | (simp (disch := omega) only [go_sem, reduceIte, reduceDIte, reduceCtorEq, Nat.reduceBEq, Nat.reduceEqDiff, Nat.reduceAdd, Nat.reduceSub, Nat.reduceMul, Nat.reduceLT, Nat.reduceLeDiff, Nat.reduceBNe, Int.reduceNeg, Int.reduceAdd, Int.reduceSub, Int.reduceMul, Int.reduceLT, Int.reduceLE, Int.reduceGT, Int.reduceGE, Int.reduceEq, Int.reduceNe, Int.reduceToNat, Int.reduceTMod, Int.reduceTDiv]; done) | (simp (disch := omega) only [go_sem, reduceIte, reduceDIte, reduceCtorEq, Nat.reduceBEq, Nat.reduceEqDiff, Nat.reduceAdd, Nat.reduceSub, Nat.reduceMul, Nat.reduceLT, Nat.reduceLeDiff, Nat.reduceBNe, Int.reduceNeg, Int.reduceAdd, Int.reduceSub, Int.reduceMul, Int.reduceLT, Int.reduceLE, Int.reduceGT, Int.reduceGE, Int.reduceEq, Int.reduceNe, Int.reduceToNat, Int.reduceTMod, Int.reduceTDiv]; rfl)
    · refine ⟨by omega, ?_, ?_, ?_, 0, 2, [], ?_, rfl, rfl⟩ <;> simp (disch := omega) only [go_sem, reduceIte, reduceDIte, reduceCtorEq, Nat.reduceBEq, Nat.reduceEqDiff, Nat.reduceAdd, Nat.reduceSub, Nat.reduceMul, Nat.reduceLT, Nat.reduceLeDiff, Nat.reduceBNe, Int.reduceNeg, Int.reduceAdd, Int.reduceSub, Int.reduceMul, Int.reduceLT, Int.reduceLE, Int.reduceGT, Int.reduceGE, Int.reduceEq, Int.reduceNe, Int.reduceToNat, Int.reduceTMod, Int.reduceTDiv]
  · have e : bandsD l = .nilslice := by rw [bandsD, if_neg h0]
    simp (disch := omega) only [go_sem, reduceIte, reduceDIte, reduceCtorEq, Nat.reduceBEq, Nat.reduceEqDiff, Nat.reduceAdd, Nat.reduceSub, Nat.reduceMul, Nat.reduceLT, Nat.reduceLeDiff, Nat.reduceBNe, Int.reduceNeg, Int.reduceAdd, Int.reduceSub, Int.reduceMul, Int.reduceLT, Int.reduceLE, Int.reduceGT, Int.reduceGE, Int.reduceEq, Int.reduceNe, Int.reduceToNat, Int.reduceTMod, Int.reduceTDiv, h0, e]
end Go.Proofs.YtefpcfooahogkaaDoor
