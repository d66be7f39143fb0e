/- Part of a proof about the functions of this seat. -/
import Derived.Shelf.Sort.Plain
import Derived.Shelf.Slices.CompactI
import Derived.Shelf.Lays2
import Derived.Shelf.LaysM
import Derived.KernelRfl
import Derived.Test.YtefpcfooahogkaaGreatDoorProg
import Derived.Test.YtefpcfooahogkaaGreatDoorG21Con3z
import Derived.Test.YtefpcfooahogkaaGreatDoorG24Rc3z
/- The layings of slices.Sort and slices.Compact for numbers in this program. -/






set_option linter.unusedVariables false
set_option maxRecDepth 100000
namespace Go.Proofs.YtefpcfooahogkaaGreatDoor
open Go.Shelf
def Tryz.lays189_ren : Go.Shelf.Ren := ⟨fun | 189 => 16 | 125 => 32 | 257 => 31 | 128 => 55 | 129 => 56 | 294 => 46 | 295 => 47 | 296 => 48 | 297 => 49 | 298 => 50 | 299 => 51 | 216 => 52 | 300 => 53 | 301 => 54 | 328 => 68 | 329 => 69 | 330 => 70 | 331 => 71 | 332 => 72 | 215 => 73 | 343 => 79 | n => n, fun | 28 => 27 | 3 => 3 | 46 => 74 | 0 => 0 | 51 => 103 | 53 => 105 | 4 => 4 | 183 => 95 | 182 => 94 | 131 => 100 | 5 => 5 | 9 => 9 | 218 => 115 | 222 => 119 | 228 => 128 | 229 => 129 | n => n, fun | n => n⟩
theorem Tryz.lays189 : Go.Proofs.Lays.n189 Tryz.prog Tryz.lays189_ren where
  mixed := by kernel_rfl
  f125 := Tryz.func32.trans (congrArg some (by kernel_rfl))
  f128 := Tryz.func55.trans (congrArg some (by kernel_rfl))
  f129 := Tryz.func56.trans (congrArg some (by kernel_rfl))
  f189 := Tryz.func16.trans (congrArg some (by kernel_rfl))
  f215 := Tryz.func73.trans (congrArg some (by kernel_rfl))
  f216 := Tryz.func52.trans (congrArg some (by kernel_rfl))
  f257 := Tryz.func31.trans (congrArg some (by kernel_rfl))
  f294 := Tryz.func46.trans (congrArg some (by kernel_rfl))
  f295 := Tryz.func47.trans (congrArg some (by kernel_rfl))
  f296 := Tryz.func48.trans (congrArg some (by kernel_rfl))
  f297 := Tryz.func49.trans (congrArg some (by kernel_rfl))
  f298 := Tryz.func50.trans (congrArg some (by kernel_rfl))
  f299 := Tryz.func51.trans (congrArg some (by kernel_rfl))
  f300 := Tryz.func53.trans (congrArg some (by kernel_rfl))
  f301 := Tryz.func54.trans (congrArg some (by kernel_rfl))
  f328 := Tryz.func68.trans (congrArg some (by kernel_rfl))
  f329 := Tryz.func69.trans (congrArg some (by kernel_rfl))
  f330 := Tryz.func70.trans (congrArg some (by kernel_rfl))
  f331 := Tryz.func71.trans (congrArg some (by kernel_rfl))
  f332 := Tryz.func72.trans (congrArg some (by kernel_rfl))
  f343 := Tryz.func79.trans (congrArg some (by kernel_rfl))
  t0 := Tryz.underlying0
  a0 := Tryz.isAgg0
  z0 := Tryz.sizeOf0
  v0 := Tryz.zeroValue0
  t3 := Tryz.underlying3
  a3 := Tryz.isAgg3
  z3 := Tryz.sizeOf3
  v3 := Tryz.zeroValue3
  t4 := Tryz.underlying4
  a4 := Tryz.isAgg4
  z4 := Tryz.sizeOf4
  v4 := Tryz.zeroValue4
  t5 := Tryz.underlying5
  a5 := Tryz.isAgg5
  z5 := Tryz.sizeOf5
  v5 := Tryz.zeroValue5
  t9 := Tryz.underlying9
  a9 := Tryz.isAgg9
  z9 := Tryz.sizeOf9
  v9 := Tryz.zeroValue9
  t28 := Tryz.underlying27
  a28 := Tryz.isAgg27
  z28 := Tryz.sizeOf27
  v28 := Tryz.zeroValue27
  t46 := Tryz.underlying74
  a46 := Tryz.isAgg74
  z46 := Tryz.sizeOf74
  v46 := Tryz.zeroValue74
  t51 := Tryz.underlying103
  a51 := Tryz.isAgg103
  z51 := Tryz.sizeOf103
  v51 := Tryz.zeroValue103
  t53 := Tryz.underlying105
  a53 := Tryz.isAgg105
  z53 := Tryz.sizeOf105
  v53 := Tryz.zeroValue105
  t131 := Tryz.underlying100
  a131 := Tryz.isAgg100
  z131 := Tryz.sizeOf100
  v131 := Tryz.zeroValue100
  t182 := Tryz.underlying94
  a182 := Tryz.isAgg94
  z182 := Tryz.sizeOf94
  v182 := Tryz.zeroValue94
  t183 := Tryz.underlying95
  a183 := Tryz.isAgg95
  z183 := Tryz.sizeOf95
  v183 := Tryz.zeroValue95
  t218 := Tryz.underlying115
  a218 := Tryz.isAgg115
  z218 := Tryz.sizeOf115
  v218 := Tryz.zeroValue115
  t222 := Tryz.underlying119
  a222 := Tryz.isAgg119
  z222 := Tryz.sizeOf119
  v222 := Tryz.zeroValue119
  t228 := Tryz.underlying128
  a228 := Tryz.isAgg128
  z228 := Tryz.sizeOf128
  v228 := Tryz.zeroValue128
  t229 := Tryz.underlying129
  a229 := Tryz.isAgg129
  z229 := Tryz.sizeOf129
  v229 := Tryz.zeroValue129
def Tryz.lays2n20_ren : Go.Shelf.Ren := ⟨fun | 20 => 17 | n => n, fun | 22 => 27 | 3 => 3 | 4 => 4 | 0 => 0 | n => n, fun | n => n⟩
theorem Tryz.lays2n20 : Go.Proofs.Lays2.n20 Tryz.prog Tryz.lays2n20_ren where
  mixed := by kernel_rfl
  f20 := Tryz.func17.trans (congrArg some (by kernel_rfl))
  t0 := Tryz.underlying0
  a0 := Tryz.isAgg0
  z0 := Tryz.sizeOf0
  v0 := Tryz.zeroValue0
  t3 := Tryz.underlying3
  a3 := Tryz.isAgg3
  z3 := Tryz.sizeOf3
  v3 := Tryz.zeroValue3
  t4 := Tryz.underlying4
  a4 := Tryz.isAgg4
  z4 := Tryz.sizeOf4
  v4 := Tryz.zeroValue4
  t22 := Tryz.underlying27
  a22 := Tryz.isAgg27
  z22 := Tryz.sizeOf27
  v22 := Tryz.zeroValue27
  i3 := by kernel_rfl
end Go.Proofs.YtefpcfooahogkaaGreatDoor
/- Own slices of numbers, sorted or compacted in place by the library. -/



set_option linter.unusedVariables false
set_option linter.unusedSimpArgs false
namespace Nv
open Go Go.RowKit Go.Proofs Go.Sort

section
variable {P : Program} {ρ ρ' : RHO} {σ σ' : ST} {I I' : Nat → Prop} {w w' : World}

def numsD (l : List Int) : List DV := l.map (DV.int .i64)
theorem numsD_length (l : List Int) : (numsD l).length = l.length := by simp [numsD]
theorem flat_nums (l : List Int) : flat (numsD l) = numsD l := by
  induction l with
  | nil => rfl
  | cons x l ih => show [_] ++ flat (numsD l) = _; rw [ih]; rfl
theorem nums_get {l : List Int} {j : Nat} (h : j < l.length) : (numsD l)[j]? = some (.int .i64 (l.getD j 0)) := by
  simp [numsD, List.getD_eq_getElem?_getD, h]
theorem arr_get {d : Array Int} {l : List Int} (hd : d.toList = l) {j : Nat} (h : j < l.length) : d[j]! = l.getD j 0 := by
  subst hd
  have hlt : j < d.size := by simpa using h
  rw [getElem!_pos d _ hlt, List.getD_eq_getElem?_getD, Array.getElem?_toList, Array.getElem?_eq_getElem hlt]; rfl

/-- What lies at an own slice of numbers. -/
theorem nums_holds (hr : RS P ρ I w σ) {b g B t : Nat} {l : List Int} (hsb : σ[b]? = some (.arr g ⟨1, t⟩ (numsD l))) (hB : (ρ b).blk = some B) :
    Holds (Value.int .i64) w B (ρ b).base l.toArray ∧ B < w.heap.size := by
  obtain ⟨us, q1, q2, q3, q4, q5⟩ := hr.arr hsb hB
  have hBlt : B < w.heap.size := by
    rcases Nat.lt_or_ge B w.heap.size with h' | h'
    · exact h'
    · rw [Array.getElem?_eq_none h'] at q1; cases q1
  refine ⟨fun j hj => ?_, hBlt⟩
  have hj' : j < l.length := by simpa using hj
  have hc := (q5 j _ (by rw [flat_nums]; exact nums_get hj')).int_inv
  have hlt : (ρ b).base + j < us.size := by
    rw [numsD_length] at q3; simp only [Nat.mul_one] at q2; omega
  refine ⟨?_, by simp [World.frozen?, q1]⟩
  rw [arr_get (l := l) (by simp) hj']
  rw [Array.getD_eq_getD_getElem?, Array.getElem?_eq_getElem hlt, Option.getD_some] at hc
  simp [World.cell?, q1, Array.getElem?_eq_getElem hlt, hc]

/-- The slice written anew by the library. -/
theorem nums_anew (hr : RS P ρ I w σ) {b g B t : Nat} {l m : List Int} (hsb : σ[b]? = some (.arr g ⟨1, t⟩ (numsD l))) (hB : (ρ b).blk = some B) (hl : m.length = l.length) (d : Array Int) (hd : d.toList = m) (n : Nat) (os : Array Obj) :
    ∃ ρ', Step ρ I w σ ρ' I (grow (putRow (Value.int .i64) (Sort.ahead w n) B (ρ b).base d) os) (stSet σ b (.arr g ⟨1, t⟩ (numsD m))) ∧
      RS P ρ' I (grow (putRow (Value.int .i64) (Sort.ahead w n) B (ρ b).base d) os) (stSet σ b (.arr g ⟨1, t⟩ (numsD m))) := by
  obtain ⟨us, q1, q2, q3, q4, q5⟩ := hr.arr hsb hB
  have hBlt := (nums_holds hr hsb hB).2
  have hdz : d.size = m.length := by rw [← hd]; simp
  rw [numsD_length] at q3
  simp only [Nat.mul_one] at q2
  obtain ⟨us', hus'⟩ : ∃ us', us' = putCells (Value.int .i64) (ρ b).base d us := ⟨_, rfl⟩
  have husz : us'.size = us.size := by rw [hus']; simp [putCells]
  have hBl : B < (putRow (Value.int .i64) (Sort.ahead w n) B (ρ b).base d).heap.size := by simpa [Sort.ahead, putRow, mapBlock] using hBlt
  have hheapB : (grow (putRow (Value.int .i64) (Sort.ahead w n) B (ρ b).base d) os).heap[B]? = some (.cells us' t (0, 0)) := by
    simp only [grow]
    rw [Array.getElem?_append, if_pos hBl]
    simp [putRow, mapBlock, Sort.ahead, Array.getElem?_modify, q1, onCells, hus']
  refine own_anew (ys := numsD m) hr hsb hB (by rw [numsD_length, numsD_length, hl]) (fun y hy => ?_) (Ext.of (by simp [grow, putRow, mapBlock, Sort.ahead]) ⟨rfl, rfl, rfl⟩) (fun c hc hcB => ?_) hheapB (by rw [husz]; simpa using q2) (fun j c hj => ?_)
  · obtain ⟨r, _, rfl⟩ := List.mem_map.1 hy
    exact ⟨rfl, fun c hc => by simp only [DV.cells, List.mem_cons, List.not_mem_nil, or_false] at hc; subst hc; rfl⟩
  · have hcl : c < (putRow (Value.int .i64) (Sort.ahead w n) B (ρ b).base d).heap.size := by simpa [Sort.ahead, putRow, mapBlock] using hc
    simp only [grow]
    rw [Array.getElem?_append, if_pos hcl]
    simp [putRow, mapBlock, Sort.ahead, Array.getElem?_modify, show ¬ B = c from fun h => hcB h.symm]
  · have hjl : j < m.length := by
      rcases Nat.lt_or_ge j m.length with h | h
      · exact h
      · rw [flat_nums, List.getElem?_eq_none (by rw [numsD_length]; exact h)] at hj; cases hj
    rw [flat_nums, nums_get hjl] at hj
    cases hj
    have hlt : (ρ b).base + j < us.size := by omega
    have hval : us'.getD ((ρ b).base + j) undef = .int .i64 (m.getD j 0) := by
      rw [hus', putCells, Array.getD_eq_getD_getElem?, Array.getElem?_mapIdx, Array.getElem?_eq_getElem hlt]
      simp only [Option.map_some, Option.getD_some, hdz]
      rw [if_pos ⟨by omega, by omega⟩, show (ρ b).base + j - (ρ b).base = j by omega, arr_get hd hjl]
    rw [hval]
    exact .int _ _

theorem one_arg {a : AV} {vs : Array Value} (hv : VL ρ σ I w [a] vs) : ∃ v, vs = #[v] ∧ V ρ σ I w a v := by
  have hsz : vs.size = 1 := by have := hv.1; simpa using this.symm
  obtain ⟨l⟩ := vs
  match l, hsz with
  | [a], _ => exact ⟨a, rfl, hv.2 0 _ rfl⟩

/-- slices.Sort of an own slice of numbers. -/
theorem sort_nums {r : Shelf.Ren} (L : Proofs.Lays.n189 P r) (s : List Int) (b g t : Nat) (σ : ST) (hst : stGet σ b = .arr g ⟨1, t⟩ (numsD s)) (h0 : 0 < s.length) (hsz : s.length < 4611686018427387904) :
    RCall P (r.f 189) [.own b g 0 s.length] σ fun v σ' => v = .tuple [] ∧ σ' = stSet σ b (.arr g ⟨1, t⟩ (numsD (s.mergeSort fun x y => decide (x ≤ y)))) := by
  intro ρ I w vs hr hvs
  have hsb := stGet_some hst (by simp)
  obtain ⟨v, rfl, hv⟩ := one_arg hvs
  clear hvs
  generalize hn : s.length = n0 at hv
  cases hv with
  | ownNil k1 k2 => omega
  | ownOld k1 k2 => rw [hsb] at k1; cases k1; exact absurd (k2 _ _ _ rfl) (by omega)
  | own k1 k2 k3 k4 =>
    rw [hsb] at k1; cases k1
    subst hn
    rename_i B cap
    simp only [Nat.zero_mul, Nat.add_zero]
    obtain ⟨hH, hBlt⟩ := nums_holds hr hsb k2
    refine (Any.slices_Sort_int L B (ρ b).base cap s w hH hBlt hsz).mono ?_
    rintro e w' ⟨rfl, n, os, rfl⟩
    obtain ⟨ρ', h1, h2⟩ := nums_anew (m := s.mergeSort fun x y => decide (x ≤ y)) hr hsb k2 (by simp) _ rfl n os
    exact ⟨ρ', I, _, .ret (.tuple []), h1, h2, .tuple rfl (fun j c hj => by simp at hj), ⟨_, rfl, rfl, rfl⟩⟩

/-- slices.Compact of an own slice of numbers. -/
theorem compact_nums {r : Shelf.Ren} (L : Proofs.Lays2.n20 P r) (s : List Int) (b g t : Nat) (σ : ST) (hst : stGet σ b = .arr g ⟨1, t⟩ (numsD s)) (h0 : 0 < s.length) (hc : 0 < (Lib.compact s).length) (hsz : s.length ≤ 9223372036854775807) :
    RCall P (r.f 20) [.own b g 0 s.length] σ fun v σ' => v = .own b g 0 (Lib.compact s).length ∧ σ' = stSet σ b (.arr g ⟨1, t⟩ (numsD (Lib.compact s ++ List.replicate (s.length - (Lib.compact s).length) 0))) := by
  intro ρ I w vs hr hvs
  have hsb := stGet_some hst (by simp)
  obtain ⟨v, rfl, hv⟩ := one_arg hvs
  clear hvs
  generalize hn : s.length = n0 at hv
  have hle : (Lib.compact s).length ≤ s.length := by
    unfold Lib.compact Lib.compactUpTo
    rw [List.length_map]
    exact Nat.le_trans (List.length_filter_le _ _) (by simp)
  cases hv with
  | ownNil k1 k2 => omega
  | ownOld k1 k2 => rw [hsb] at k1; cases k1; exact absurd (k2 _ _ _ rfl) (by omega)
  | own k1 k2 k3 k4 =>
    rw [hsb] at k1; cases k1
    subst hn
    rename_i B cap
    simp only [Nat.zero_mul, Nat.add_zero]
    obtain ⟨hH, hBlt⟩ := nums_holds hr hsb k2
    refine (Any.slices_Compact_int L B (ρ b).base cap s w hH hsz k3).mono ?_
    rintro e w' ⟨rfl, n, rfl⟩
    obtain ⟨ρ', h1, h2⟩ := nums_anew (m := Lib.compact s ++ List.replicate (s.length - (Lib.compact s).length) 0) hr hsb k2 (by simp; omega) (Lib.compact s ++ List.replicate (s.length - (Lib.compact s).length) 0).toArray (by simp) n #[]
    have hg : ∀ W : World, grow W #[] = W := fun W => by cases W; simp only [grow, Array.append_empty]
    rw [hg] at h1 h2
    have hblt : b < σ.length := by rcases Nat.lt_or_ge b σ.length with h' | h'; exact h'; simp [List.getElem?_eq_none h'] at hsb
    obtain ⟨blk', h3, h4⟩ := h1.compat b _ hsb
    have h5 : (stSet σ b (.arr g ⟨1, t⟩ (numsD (Lib.compact s ++ List.replicate (s.length - (Lib.compact s).length) 0))))[b]? = some (.arr g ⟨1, t⟩ (numsD (Lib.compact s ++ List.replicate (s.length - (Lib.compact s).length) 0))) := by simp [stSet, hblt]
    rw [h5] at h3; cases h3
    have hρ : ρ' b = ρ b := by
      simp only [Compat] at h4
      rcases h4 with h4 | h4
      · exact h4.2.2.1
      · omega
    refine ⟨ρ', I, _, .ret (.own b g 0 (Lib.compact s).length), h1, h2, ?_, ⟨_, rfl, rfl, rfl⟩⟩
    have := V.own (ρ := ρ') (σ := stSet σ b (.arr g ⟨1, t⟩ (numsD (Lib.compact s ++ List.replicate (s.length - (Lib.compact s).length) 0)))) (I := I) (w := (putRow (Value.int .i64) (Sort.ahead w n) B (ρ b).base (Lib.compact s ++ List.replicate (s.length - (Lib.compact s).length) 0).toArray)) (off := 0) (n := (Lib.compact s).length) (cap := cap) h5 (by rw [hρ]; exact k2) (by omega) (by rw [hρ]; exact k4)
    simp only [Nat.zero_mul, Nat.add_zero, hρ] at this
    exact this
end
end Nv
set_option linter.unusedVariables false
set_option linter.unusedSimpArgs false
set_option maxRecDepth 100000
namespace Go.Proofs.YtefpcfooahogkaaGreatDoor
open Go Nv Rul

/- The program's Bands. -/
def spanD (s : Int × Int) : DV := .agg [.int .i64 s.1, .int .i64 s.2]
def spansD (l : List (Int × Int)) : DV := .list 2 (l.map spanD)
def hints5 : Nat → Hint := fun i => if i = 49 then .freeze else .no
@[go_sem] theorem hints5_at (i : Nat) : hints5 i = if i = 49 then .freeze else .no := nrfl rfl
def bandsD (l : List Rule) : DV := if chkR peM l = 0 then spansD (spans (cuts l)) else .nilslice
theorem cuts_snoc (l : List Rule) (r : Rule) : cutsOf (l ++ [r]) = cutsOf l ++ [r.lo, r.hi] := by simp [cutsOf]
theorem cutsOf_len (l : List Rule) : (cutsOf l).length = 2 + 2 * l.length := by
  induction l with
  | nil => rfl
  | cons r l ih => simp only [cutsOf, List.flatMap_cons, List.length_append, List.length_cons, List.length_nil] at ih ⊢; omega
theorem take_rule {l : List Rule} {j : Nat} (h : j < l.length) : l.take (j + 1) = l.take j ++ [l.getD j default] := by
  rw [List.take_succ_eq_append_getElem h]; simp [List.getD_eq_getElem?_getD, h]
theorem take_all' {α : Type} (l : List α) (n : Nat) (h : l.length = n) : l.take n = l := List.take_of_length_le (by omega)
theorem few {pe : List UInt8 → Int} {l : List Rule} (h : chkR pe l = 0) : l.length ≤ 16 := by
  unfold chkR at h
  split at h
  · omega
  · omega
theorem spans_take : ∀ (l : List Int) (j : Nat), 1 ≤ j → j < l.length → spans (l.take (j + 1)) = spans (l.take j) ++ [(l.getD (j - 1) 0, l.getD j 0)]
  | [], j, _, h => by simp at h
  | [_], j, h1, h => by simp at h; omega
  | a :: b :: l, 1, _, _ => rfl
  | a :: b :: l, j + 2, _, h => by
    have := spans_take (b :: l) (j + 1) (by omega) (by simp at h ⊢; omega)
    rw [List.take_succ_cons, List.take_succ_cons, spans, ← List.take_succ_cons, this]
    rfl
theorem nums_at {l m : List Int} {i : Nat} (h : i < l.length) : (numsD (l ++ m)).getD i default = .int .i64 (l.getD i 0) := by
  have h' : i < (l.map (DV.int .i64)).length := by simpa using h
  simp only [numsD, List.map_append, List.getD_eq_getElem?_getD, List.getElem?_append_left h', List.getElem?_map, List.getElem?_eq_getElem h]; rfl
theorem bands5 (l : List Rule) (hs : Sized l) : PCall Tryz.prog 8 [.d (rulesD l)] (.d (bandsD l)) := by
  refine fn8.pure hints5 (Nat.le_refl _) (by simp only [go_sem, rulesD]) (by unfold bandsD; split <;> simp only [go_sem, spansD]) ?_
  have hc := check6 l hs
  simp only [rulesD] at hc
  simp (disch := omega) only [go_sem, reduceIte, reduceDIte, reduceCtorEq, Nat.reduceBEq, Nat.reduceEqDiff, Nat.reduceAdd, Nat.reduceSub, Nat.reduceMul, Nat.reduceLT, Nat.reduceLeDiff, Nat.reduceBNe, Int.reduceNeg, Int.reduceAdd, Int.reduceSub, Int.reduceMul, Int.reduceLT, Int.reduceLE, Int.reduceGT, Int.reduceGE, Int.reduceEq, Int.reduceNe, Int.reduceToNat, Int.reduceTMod, Int.reduceTDiv, rulesD]
  refine hc.at ?_
  by_cases h0 : chkR peM l = 0
  · have e : bandsD l = spansD (spans (cuts l)) := by rw [bandsD, if_pos h0]
    rw [e]
    simp (disch := omega) only [go_sem, reduceIte, reduceDIte, reduceCtorEq, Nat.reduceBEq, Nat.reduceEqDiff, Nat.reduceAdd, Nat.reduceSub, Nat.reduceMul, Nat.reduceLT, Nat.reduceLeDiff, Nat.reduceBNe, Int.reduceNeg, Int.reduceAdd, Int.reduceSub, Int.reduceMul, Int.reduceLT, Int.reduceLE, Int.reduceGT, Int.reduceGE, Int.reduceEq, Int.reduceNe, Int.reduceToNat, Int.reduceTMod, Int.reduceTDiv, h0, List.length_map]
    refine wL_ind (fun (j : Nat) fr σ => j ≤ l.length ∧ fr 12 = .d (.list 6 (l.map ruleD)) ∧ fr 13 = .d (.int .i64 l.length) ∧ fr 14 = .d (.int .i64 j) ∧
      ∃ g n B, fr 3 = .own 0 g 0 n ∧ n = (cutsOf (l.take j)).length ∧ σ = .arr g ⟨1, 3⟩ (numsD (cutsOf (l.take j))) :: B) (fun j => l.length - j) ?_ 0 ?_
    · rintro j fr σ ⟨hj, f12, f13, f14, g, n, B, f3, hn, rfl⟩ ih
      have hl16 := few h0
      by_cases hlt : j < l.length
      · obtain ⟨r, hr⟩ : ∃ r, r = l.getD j default := ⟨_, rfl⟩
        have hg := rule_get l j hlt
        rw [← hr] at hg
        have htk := take_rule hlt
        rw [← hr] at htk
        have hn2 := cutsOf_len (l.take j)
        rw [List.length_take] at hn2
        have hta := take_all' (numsD (cutsOf (l.take j))) n (by rw [numsD_length, hn])
        have hcap : (n + 2) * 8 ≤ 140737488355328 := by omega
        have hnd : numsD (cutsOf (l.take (j + 1))) = numsD (cutsOf (l.take j)) ++ [.int .i64 r.lo, .int .i64 r.hi] := by rw [htk, cuts_snoc]; simp [numsD]
        simp (disch := omega) only [go_sem, reduceIte, reduceDIte, reduceCtorEq, Nat.reduceBEq, Nat.reduceEqDiff, Nat.reduceAdd, Nat.reduceSub, Nat.reduceMul, Nat.reduceLT, Nat.reduceLeDiff, Nat.reduceBNe, Int.reduceNeg, Int.reduceAdd, Int.reduceSub, Int.reduceMul, Int.reduceLT, Int.reduceLE, Int.reduceGT, Int.reduceGE, Int.reduceEq, Int.reduceNe, Int.reduceToNat, Int.reduceTMod, Int.reduceTDiv, f12, f13, f14, f3, List.length_map, hlt, hg, ruleD_cells, hta, hcap, numsD_length, ← hn, Nat.zero_add, Nat.le_refl, List.append_assoc, List.cons_append, List.nil_append, List.length_append, stGet_app, stGet_app0, stSet_app, stSet_app0]
        refine ih (j + 1) _ _ (by omega) ⟨by omega, ?_, ?_, ?_, g + 1, n + 2, ?B1, ?_, ?_, ?r1⟩
        case r1 => rw [hnd]
        · simp (disch := omega) only [go_sem, reduceIte, reduceDIte, reduceCtorEq, Nat.reduceBEq, Nat.reduceEqDiff, Nat.reduceAdd, Nat.reduceSub, Nat.reduceMul, Nat.reduceLT, Nat.reduceLeDiff, Nat.reduceBNe, Int.reduceNeg, Int.reduceAdd, Int.reduceSub, Int.reduceMul, Int.reduceLT, Int.reduceLE, Int.reduceGT, Int.reduceGE, Int.reduceEq, Int.reduceNe, Int.reduceToNat, Int.reduceTMod, Int.reduceTDiv, f12]
        · simp (disch := omega) only [go_sem, reduceIte, reduceDIte, reduceCtorEq, Nat.reduceBEq, Nat.reduceEqDiff, Nat.reduceAdd, Nat.reduceSub, Nat.reduceMul, Nat.reduceLT, Nat.reduceLeDiff, Nat.reduceBNe, Int.reduceNeg, Int.reduceAdd, Int.reduceSub, Int.reduceMul, Int.reduceLT, Int.reduceLE, Int.reduceGT, Int.reduceGE, Int.reduceEq, Int.reduceNe, Int.reduceToNat, Int.reduceTMod, Int.reduceTDiv, f13]
        · simp (disch := omega) only [go_sem, reduceIte, reduceDIte, reduceCtorEq, Nat.reduceBEq, Nat.reduceEqDiff, Nat.reduceAdd, Nat.reduceSub, Nat.reduceMul, Nat.reduceLT, Nat.reduceLeDiff, Nat.reduceBNe, Int.reduceNeg, Int.reduceAdd, Int.reduceSub, Int.reduceMul, Int.reduceLT, Int.reduceLE, Int.reduceGT, Int.reduceGE, Int.reduceEq, Int.reduceNe, Int.reduceToNat, Int.reduceTMod, Int.reduceTDiv, f14]
        · simp (disch := omega) only [go_sem, reduceIte, reduceDIte, reduceCtorEq, Nat.reduceBEq, Nat.reduceEqDiff, Nat.reduceAdd, Nat.reduceSub, Nat.reduceMul, Nat.reduceLT, Nat.reduceLeDiff, Nat.reduceBNe, Int.reduceNeg, Int.reduceAdd, Int.reduceSub, Int.reduceMul, Int.reduceLT, Int.reduceLE, Int.reduceGT, Int.reduceGE, Int.reduceEq, Int.reduceNe, Int.reduceToNat, Int.reduceTMod, Int.reduceTDiv, f3]
        · rw [htk, cuts_snoc, List.length_append, ← hn]; rfl
      · rw [List.take_of_length_le (by omega)] at hn ⊢
        have hn2 := cutsOf_len l
        have hs9 := sort_nums Tryz.lays189 (cutsOf l) 0 g 3 (.arr g ⟨1, 3⟩ (numsD (cutsOf l)) :: B) rfl (by omega) (by omega)
        have hsl : (sortI (cutsOf l)).length = (cutsOf l).length := sortI_len _
        have h2c := cuts_two l
        simp (disch := omega) only [go_sem, reduceIte, reduceDIte, reduceCtorEq, Nat.reduceBEq, Nat.reduceEqDiff, Nat.reduceAdd, Nat.reduceSub, Nat.reduceMul, Nat.reduceLT, Nat.reduceLeDiff, Nat.reduceBNe, Int.reduceNeg, Int.reduceAdd, Int.reduceSub, Int.reduceMul, Int.reduceLT, Int.reduceLE, Int.reduceGT, Int.reduceGE, Int.reduceEq, Int.reduceNe, Int.reduceToNat, Int.reduceTMod, Int.reduceTDiv, f12, f13, f14, f3, hlt, List.append_assoc, List.cons_append, List.nil_append, List.length_append, stGet_app, stGet_app0, stSet_app, stSet_app0]
        rw [hn]
        refine hs9.at ?_
        rintro v σ' ⟨rfl, rfl⟩
        have hs10 := compact_nums Tryz.lays2n20 (sortI (cutsOf l)) 0 g 3 (.arr g ⟨1, 3⟩ (numsD (sortI (cutsOf l))) :: B) rfl (by omega) (show 0 < (cuts l).length by omega) (by omega)
        rw [hsl] at hs10
        simp (disch := omega) only [go_sem, reduceIte, reduceDIte, reduceCtorEq, Nat.reduceBEq, Nat.reduceEqDiff, Nat.reduceAdd, Nat.reduceSub, Nat.reduceMul, Nat.reduceLT, Nat.reduceLeDiff, Nat.reduceBNe, Int.reduceNeg, Int.reduceAdd, Int.reduceSub, Int.reduceMul, Int.reduceLT, Int.reduceLE, Int.reduceGT, Int.reduceGE, Int.reduceEq, Int.reduceNe, Int.reduceToNat, Int.reduceTMod, Int.reduceTDiv, f3, hn]
        refine hs10.at ?_
        rintro v σ' ⟨rfl, rfl⟩
        have ec : Lib.compact (sortI (cutsOf l)) = cuts l := rfl
        rw [ec]
        generalize List.replicate ((cutsOf l).length - (cuts l).length) (0 : Int) = zs
        simp (disch := omega) only [go_sem, reduceIte, reduceDIte, reduceCtorEq, Nat.reduceBEq, Nat.reduceEqDiff, Nat.reduceAdd, Nat.reduceSub, Nat.reduceMul, Nat.reduceLT, Nat.reduceLeDiff, Nat.reduceBNe, Int.reduceNeg, Int.reduceAdd, Int.reduceSub, Int.reduceMul, Int.reduceLT, Int.reduceLE, Int.reduceGT, Int.reduceGE, Int.reduceEq, Int.reduceNe, Int.reduceToNat, Int.reduceTMod, Int.reduceTDiv, f3]
        refine wL_ind (fun (j : Nat) fr σ => 1 ≤ j ∧ j ≤ (cuts l).length ∧ fr 3 = .own 0 g 0 (cuts l).length ∧ fr 7 = .d (.int .i64 j) ∧
          ((j = 1 ∧ fr 6 = .d .nilslice ∧ σ = .arr g ⟨1, 3⟩ (numsD (cuts l ++ zs)) :: B) ∨ (2 ≤ j ∧ ∃ D g' C, fr 6 = .own (D.length + 1) g' 0 (j - 1) ∧ σ = .arr g ⟨1, 3⟩ (numsD (cuts l ++ zs)) :: (D ++ .arr g' ⟨2, 38⟩ ((spans ((cuts l).take j)).map spanD) :: C)))) (fun j => (cuts l).length - j) ?_ 1 ?_
        · rintro j fr σ ⟨hj1, hj, f3, f7, hcase⟩ ih
          have hcl : (cuts l).length ≤ 34 := by
            have h1 : (Lib.compact (sortI (cutsOf l))).length ≤ (sortI (cutsOf l)).length := by
              unfold Lib.compact Lib.compactUpTo
              rw [List.length_map]
              exact Nat.le_trans (List.length_filter_le _ _) (by simp)
            rw [ec, hsl] at h1; omega
          by_cases hlt : j < (cuts l).length
          · have e1 := nums_at (m := zs) (show j - 1 < (cuts l).length by omega)
            have e2 := nums_at (m := zs) hlt
            have hlz : (numsD (cuts l ++ zs)).length = (cuts l).length + zs.length := by rw [numsD_length, List.length_append]
            have hj1' : (j : Int) - 1 = ((j - 1 : Nat) : Int) := by omega
            have hst := spans_take (cuts l) j hj1 hlt
            have b1 : j - 1 < (cuts l).length := by omega
            have b2 : j - 1 < (cuts l).length + zs.length := by omega
            have b3 : j < (cuts l).length + zs.length := by omega
            have hsl2 : (spans ((cuts l).take j)).length = j - 1 := by rw [spans_len, List.length_take]; omega
            have hta2 := take_all' ((spans ((cuts l).take j)).map spanD) (j - 1) (by rw [List.length_map, hsl2])
            have hcap : (j - 1 + 1) * 16 ≤ 140737488355328 := by omega
            have hnx : (spans ((cuts l).take (j + 1))).map spanD = (spans ((cuts l).take j)).map spanD ++ [spanD ((cuts l).getD (j - 1) 0, (cuts l).getD j 0)] := by rw [hst, List.map_append]; rfl
            rcases hcase with ⟨rfl, f6, rfl⟩ | ⟨hj2, D, g', C, f6, rfl⟩
            · simp (disch := omega) only [go_sem, reduceIte, reduceDIte, reduceCtorEq, Nat.reduceBEq, Nat.reduceEqDiff, Nat.reduceAdd, Nat.reduceSub, Nat.reduceMul, Nat.reduceLT, Nat.reduceLeDiff, Nat.reduceBNe, Int.reduceNeg, Int.reduceAdd, Int.reduceSub, Int.reduceMul, Int.reduceLT, Int.reduceLE, Int.reduceGT, Int.reduceGE, Int.reduceEq, Int.reduceNe, Int.reduceToNat, Int.reduceTMod, Int.reduceTDiv, f3, f6, f7, hlt, e1, e2, hlz, hj1', b1, b2, b3, Nat.zero_add, List.append_assoc, List.cons_append, List.nil_append, List.length_append, stGet_app, stGet_app0, stSet_app, stSet_app0]
              refine ⟨by omega, ?_⟩
              refine ih 2 _ _ (by omega) ⟨by omega, by omega, ?_, ?_, .inr ⟨by omega, B ++ [.arr 0 ⟨2, 38⟩ [spanD ((cuts l).getD 0 0, (cuts l).getD 1 0)]], 0, [], ?_, ?r1⟩⟩
              case r1 => rw [hnx, List.eq_nil_of_length_eq_zero (show (spans ((cuts l).take 1)).length = 0 by omega)]; simp (disch := omega) only [go_sem, reduceIte, reduceDIte, reduceCtorEq, Nat.reduceBEq, Nat.reduceEqDiff, Nat.reduceAdd, Nat.reduceSub, Nat.reduceMul, Nat.reduceLT, Nat.reduceLeDiff, Nat.reduceBNe, Int.reduceNeg, Int.reduceAdd, Int.reduceSub, Int.reduceMul, Int.reduceLT, Int.reduceLE, Int.reduceGT, Int.reduceGE, Int.reduceEq, Int.reduceNe, Int.reduceToNat, Int.reduceTMod, Int.reduceTDiv, List.append_assoc, List.cons_append, List.nil_append, List.length_append, stGet_app, stGet_app0, stSet_app, stSet_app0]; rfl
              · simp (disch := omega) only [go_sem, reduceIte, reduceDIte, reduceCtorEq, Nat.reduceBEq, Nat.reduceEqDiff, Nat.reduceAdd, Nat.reduceSub, Nat.reduceMul, Nat.reduceLT, Nat.reduceLeDiff, Nat.reduceBNe, Int.reduceNeg, Int.reduceAdd, Int.reduceSub, Int.reduceMul, Int.reduceLT, Int.reduceLE, Int.reduceGT, Int.reduceGE, Int.reduceEq, Int.reduceNe, Int.reduceToNat, Int.reduceTMod, Int.reduceTDiv, f3]
              · simp (disch := omega) only [go_sem, reduceIte, reduceDIte, reduceCtorEq, Nat.reduceBEq, Nat.reduceEqDiff, Nat.reduceAdd, Nat.reduceSub, Nat.reduceMul, Nat.reduceLT, Nat.reduceLeDiff, Nat.reduceBNe, Int.reduceNeg, Int.reduceAdd, Int.reduceSub, Int.reduceMul, Int.reduceLT, Int.reduceLE, Int.reduceGT, Int.reduceGE, Int.reduceEq, Int.reduceNe, Int.reduceToNat, Int.reduceTMod, Int.reduceTDiv, f7]
              · simp (disch := omega) only [go_sem, reduceIte, reduceDIte, reduceCtorEq, Nat.reduceBEq, Nat.reduceEqDiff, Nat.reduceAdd, Nat.reduceSub, Nat.reduceMul, Nat.reduceLT, Nat.reduceLeDiff, Nat.reduceBNe, Int.reduceNeg, Int.reduceAdd, Int.reduceSub, Int.reduceMul, Int.reduceLT, Int.reduceLE, Int.reduceGT, Int.reduceGE, Int.reduceEq, Int.reduceNe, Int.reduceToNat, Int.reduceTMod, Int.reduceTDiv, f6, List.append_assoc, List.cons_append, List.nil_append, List.length_append, stGet_app, stGet_app0, stSet_app, stSet_app0]
            · simp (disch := omega) only [go_sem, reduceIte, reduceDIte, reduceCtorEq, Nat.reduceBEq, Nat.reduceEqDiff, Nat.reduceAdd, Nat.reduceSub, Nat.reduceMul, Nat.reduceLT, Nat.reduceLeDiff, Nat.reduceBNe, Int.reduceNeg, Int.reduceAdd, Int.reduceSub, Int.reduceMul, Int.reduceLT, Int.reduceLE, Int.reduceGT, Int.reduceGE, Int.reduceEq, Int.reduceNe, Int.reduceToNat, Int.reduceTMod, Int.reduceTDiv, f3, f6, f7, hlt, e1, e2, hlz, hj1', b1, b2, b3, hsl2, hta2, hcap, Nat.le_refl, Nat.zero_add, List.append_assoc, List.cons_append, List.nil_append, List.length_append, stGet_app, stGet_app0, stSet_app, stSet_app0]
              refine ih (j + 1) _ _ (by omega) ⟨by omega, by omega, ?_, ?_, .inr ⟨by omega, D, g' + 1, ?C2, ?_, ?r2⟩⟩
              case r2 => rw [hnx]; rfl
              · simp (disch := omega) only [go_sem, reduceIte, reduceDIte, reduceCtorEq, Nat.reduceBEq, Nat.reduceEqDiff, Nat.reduceAdd, Nat.reduceSub, Nat.reduceMul, Nat.reduceLT, Nat.reduceLeDiff, Nat.reduceBNe, Int.reduceNeg, Int.reduceAdd, Int.reduceSub, Int.reduceMul, Int.reduceLT, Int.reduceLE, Int.reduceGT, Int.reduceGE, Int.reduceEq, Int.reduceNe, Int.reduceToNat, Int.reduceTMod, Int.reduceTDiv, f3]
              · simp (disch := omega) only [go_sem, reduceIte, reduceDIte, reduceCtorEq, Nat.reduceBEq, Nat.reduceEqDiff, Nat.reduceAdd, Nat.reduceSub, Nat.reduceMul, Nat.reduceLT, Nat.reduceLeDiff, Nat.reduceBNe, Int.reduceNeg, Int.reduceAdd, Int.reduceSub, Int.reduceMul, Int.reduceLT, Int.reduceLE, Int.reduceGT, Int.reduceGE, Int.reduceEq, Int.reduceNe, Int.reduceToNat, Int.reduceTMod, Int.reduceTDiv, f7]
              · simp (disch := omega) only [go_sem, reduceIte, reduceDIte, reduceCtorEq, Nat.reduceBEq, Nat.reduceEqDiff, Nat.reduceAdd, Nat.reduceSub, Nat.reduceMul, Nat.reduceLT, Nat.reduceLeDiff, Nat.reduceBNe, Int.reduceNeg, Int.reduceAdd, Int.reduceSub, Int.reduceMul, Int.reduceLT, Int.reduceLE, Int.reduceGT, Int.reduceGE, Int.reduceEq, Int.reduceNe, Int.reduceToNat, Int.reduceTMod, Int.reduceTDiv, f6, show j + 1 - 1 = j - 1 + 1 by omega, List.append_assoc, List.cons_append, List.nil_append, List.length_append, stGet_app, stGet_app0, stSet_app, stSet_app0]
          · have hje : j = (cuts l).length := by omega
            rcases hcase with ⟨rfl, f6, rfl⟩ | ⟨hj2, D, g', C, f6, rfl⟩
            · omega
            · rw [hje, List.take_length]
              have hta2 := take_all' ((spans (cuts l)).map spanD) (j - 1) (by rw [List.length_map, spans_len, hje])
              simp (disch := omega) only [go_sem, reduceIte, reduceDIte, reduceCtorEq, Nat.reduceBEq, Nat.reduceEqDiff, Nat.reduceAdd, Nat.reduceSub, Nat.reduceMul, Nat.reduceLT, Nat.reduceLeDiff, Nat.reduceBNe, Int.reduceNeg, Int.reduceAdd, Int.reduceSub, Int.reduceMul, Int.reduceLT, Int.reduceLE, Int.reduceGT, Int.reduceGE, Int.reduceEq, Int.reduceNe, Int.reduceToNat, Int.reduceTMod, Int.reduceTDiv, f3, f6, f7, hlt, hta2, spans_len, Nat.le_refl, Nat.zero_add, List.append_assoc, List.cons_append, List.nil_append, List.length_append, stGet_app, stGet_app0, stSet_app, stSet_app0]
              exact ⟨by omega, rfl⟩
        · refine ⟨by omega, by omega, ?_, ?_, .inl ⟨rfl, ?_, ?_⟩⟩ <;> first | (simp (disch := omega) only [go_sem, reduceIte, reduceDIte, reduceCtorEq, Nat.reduceBEq, Nat.reduceEqDiff, Nat.reduceAdd, Nat.reduceSub, Nat.reduceMul, Nat.reduceLT, Nat.reduceLeDiff, Nat.reduceBNe, Int.reduceNeg, Int.reduceAdd, Int.reduceSub, Int.reduceMul, Int.reduceLT, Int.reduceLE, Int.reduceGT, Int.reduceGE, Int.reduceEq, Int.reduceNe, Int.reduceToNat, Int.reduceTMod, Int.reduceTDiv]; done) | (simp (disch := omega) only [go_sem, reduceIte, reduceDIte, reduceCtorEq, Nat.reduceBEq, Nat.reduceEqDiff, Nat.reduceAdd, Nat.reduceSub, Nat.reduceMul, Nat.reduceLT, Nat.reduceLeDiff, Nat.reduceBNe, Int.reduceNeg, Int.reduceAdd, Int.reduceSub, Int.reduceMul, Int.reduceLT, Int.reduceLE, Int.reduceGT, Int.reduceGE, Int.reduceEq, Int.reduceNe, Int.reduceToNat, Int.reduceTMod, Int.reduceTDiv]; rfl)
    · refine ⟨by omega, ?_, ?_, ?_, 0, 2, [], ?_, rfl, rfl⟩ <;> simp (disch := omega) only [go_sem, reduceIte, reduceDIte, reduceCtorEq, Nat.reduceBEq, Nat.reduceEqDiff, Nat.reduceAdd, Nat.reduceSub, Nat.reduceMul, Nat.reduceLT, Nat.reduceLeDiff, Nat.reduceBNe, Int.reduceNeg, Int.reduceAdd, Int.reduceSub, Int.reduceMul, Int.reduceLT, Int.reduceLE, Int.reduceGT, Int.reduceGE, Int.reduceEq, Int.reduceNe, Int.reduceToNat, Int.reduceTMod, Int.reduceTDiv]
  · have e : bandsD l = .nilslice := by rw [bandsD, if_neg h0]
    simp (disch := omega) only [go_sem, reduceIte, reduceDIte, reduceCtorEq, Nat.reduceBEq, Nat.reduceEqDiff, Nat.reduceAdd, Nat.reduceSub, Nat.reduceMul, Nat.reduceLT, Nat.reduceLeDiff, Nat.reduceBNe, Int.reduceNeg, Int.reduceAdd, Int.reduceSub, Int.reduceMul, Int.reduceLT, Int.reduceLE, Int.reduceGT, Int.reduceGE, Int.reduceEq, Int.reduceNe, Int.reduceToNat, Int.reduceTMod, Int.reduceTDiv, h0, e]
end Go.Proofs.YtefpcfooahogkaaGreatDoor
set_option linter.unusedVariables false
set_option linter.unusedSimpArgs false
set_option maxRecDepth 100000
namespace Go.Proofs.YtefpcfooahogkaaGreatDoor
open Go Nv Rul

/- The law RulecompileCover. -/
theorem span_get (c : List Int) (i : Nat) (h : i + 1 < c.length) : ((spans c).map spanD).getD i default = spanD (c.getD i 0, c.getD (i + 1) 0) := by
  have h1 : i < (spans c).length := by rw [spans_len]; omega
  have : ((spans c).map spanD).getD i default = spanD ((spans c).getD i default) := by
    simp only [List.getD_eq_getElem?_getD, List.getElem?_map, List.getElem?_eq_getElem h1]; rfl
  rw [this, spans_get c i h]
theorem spanD_cells (a b : Int) : (spanD (a, b)).cells = [.int .i64 a, .int .i64 b] := rfl
theorem cuts_small (l : List Rule) : (cuts l).length ≤ 2 + 2 * l.length := by
  have h1 : (Lib.compact (sortI (cutsOf l))).length ≤ (sortI (cutsOf l)).length := by
    unfold Lib.compact Lib.compactUpTo
    rw [List.length_map]
    exact Nat.le_trans (List.length_filter_le _ _) (by simp)
  rw [sortI_len, cutsOf_len] at h1
  exact h1
end Go.Proofs.YtefpcfooahogkaaGreatDoor
