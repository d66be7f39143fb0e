/- Part of a proof about the functions of this seat. -/
import Derived.Shelf.SlSortCmp.WholeK
import Derived.WalkKit
import Derived.KernelRfl
import Derived.Test.YtebejiilpedlmaaGreatDoorProg
import Derived.Test.YtebejiilpedlmaaGreatDoorNvPQ
set_option linter.unusedVariables false
set_option maxRecDepth 100000
namespace Go.Proofs.YtebejiilpedlmaaGreatDoor
open Go.Shelf
def Tryz.sortR_ren : Go.Shelf.Ren := ⟨fun | 6 => 104 | 15 => 112 | 14 => 111 | 28 => 122 | 29 => 100 | 20 => 114 | 21 => 115 | 22 => 116 | 23 => 117 | 24 => 118 | 25 => 119 | 26 => 120 | 27 => 121 | 46 => 123 | 47 => 124 | 48 => 125 | 49 => 126 | 50 => 127 | 57 => 128 | n => n, fun | 22 => 22 | 24 => 44 | 25 => 130 | 3 => 3 | 39 => 73 | 0 => 0 | 53 => 86 | 55 => 101 | 4 => 4 | 46 => 139 | 45 => 138 | 50 => 143 | 5 => 5 | 9 => 9 | 66 => 145 | 70 => 149 | 76 => 151 | 77 => 152 | n => n, fun | n => n⟩
theorem Tryz.sortR : Go.Proofs.SlLaysF0.n6 Tryz.prog Tryz.sortR_ren where
  mixed := by kernel_rfl
  f6 := ⟨Tryz.f104.name, by kernel_rfl, Tryz.func104.trans (congrArg some (by kernel_rfl))⟩
  f14 := ⟨Tryz.f111.name, by kernel_rfl, Tryz.func111.trans (congrArg some (by kernel_rfl))⟩
  f15 := Tryz.func112.trans (congrArg some (by kernel_rfl))
  f20 := ⟨Tryz.f114.name, by kernel_rfl, Tryz.func114.trans (congrArg some (by kernel_rfl))⟩
  f21 := ⟨Tryz.f115.name, by kernel_rfl, Tryz.func115.trans (congrArg some (by kernel_rfl))⟩
  f22 := ⟨Tryz.f116.name, by kernel_rfl, Tryz.func116.trans (congrArg some (by kernel_rfl))⟩
  f23 := ⟨Tryz.f117.name, by kernel_rfl, Tryz.func117.trans (congrArg some (by kernel_rfl))⟩
  f24 := ⟨Tryz.f118.name, by kernel_rfl, Tryz.func118.trans (congrArg some (by kernel_rfl))⟩
  f25 := ⟨Tryz.f119.name, by kernel_rfl, Tryz.func119.trans (congrArg some (by kernel_rfl))⟩
  f26 := ⟨Tryz.f120.name, by kernel_rfl, Tryz.func120.trans (congrArg some (by kernel_rfl))⟩
  f27 := ⟨Tryz.f121.name, by kernel_rfl, Tryz.func121.trans (congrArg some (by kernel_rfl))⟩
  f28 := Tryz.func122.trans (congrArg some (by kernel_rfl))
  f29 := Tryz.func100.trans (congrArg some (by kernel_rfl))
  f46 := ⟨Tryz.f123.name, by kernel_rfl, Tryz.func123.trans (congrArg some (by kernel_rfl))⟩
  f47 := Tryz.func124.trans (congrArg some (by kernel_rfl))
  f48 := Tryz.func125.trans (congrArg some (by kernel_rfl))
  f49 := ⟨Tryz.f126.name, by kernel_rfl, Tryz.func126.trans (congrArg some (by kernel_rfl))⟩
  f50 := ⟨Tryz.f127.name, by kernel_rfl, Tryz.func127.trans (congrArg some (by kernel_rfl))⟩
  f57 := ⟨Tryz.f128.name, by kernel_rfl, Tryz.func128.trans (congrArg some (by kernel_rfl))⟩
  t0 := Tryz.underlying0
  a0 := Tryz.isAgg0
  z0 := Tryz.sizeOf0
  v0 := Tryz.zeroValue0
  t3 := Tryz.underlying3
  a3 := Tryz.isAgg3
  z3 := Tryz.sizeOf3
  v3 := Tryz.zeroValue3
  t4 := Tryz.underlying4
  a4 := Tryz.isAgg4
  z4 := Tryz.sizeOf4
  v4 := Tryz.zeroValue4
  t5 := Tryz.underlying5
  a5 := Tryz.isAgg5
  z5 := Tryz.sizeOf5
  v5 := Tryz.zeroValue5
  t9 := Tryz.underlying9
  a9 := Tryz.isAgg9
  z9 := Tryz.sizeOf9
  v9 := Tryz.zeroValue9
  t22 := Tryz.underlying22
  a22 := Tryz.isAgg22
  z22 := Tryz.sizeOf22
  v22 := Tryz.zeroValue22
  t25 := Tryz.underlying130
  a25 := Tryz.isAgg130
  z25 := Tryz.sizeOf130
  v25 := Tryz.zeroValue130
  t39 := Tryz.underlying73
  a39 := Tryz.isAgg73
  z39 := Tryz.sizeOf73
  v39 := Tryz.zeroValue73
  t45 := Tryz.underlying138
  a45 := Tryz.isAgg138
  z45 := Tryz.sizeOf138
  v45 := Tryz.zeroValue138
  t46 := Tryz.underlying139
  a46 := Tryz.isAgg139
  z46 := Tryz.sizeOf139
  v46 := Tryz.zeroValue139
  t50 := Tryz.underlying143
  a50 := Tryz.isAgg143
  z50 := Tryz.sizeOf143
  v50 := Tryz.zeroValue143
  t53 := Tryz.underlying86
  a53 := Tryz.isAgg86
  z53 := Tryz.sizeOf86
  v53 := Tryz.zeroValue86
  t55 := Tryz.underlying101
  a55 := Tryz.isAgg101
  z55 := Tryz.sizeOf101
  v55 := Tryz.zeroValue101
  t66 := Tryz.underlying145
  a66 := Tryz.isAgg145
  z66 := Tryz.sizeOf145
  v66 := Tryz.zeroValue145
  t70 := Tryz.underlying149
  a70 := Tryz.isAgg149
  z70 := Tryz.sizeOf149
  v70 := Tryz.zeroValue149
  t76 := Tryz.underlying151
  a76 := Tryz.isAgg151
  z76 := Tryz.sizeOf151
  v76 := Tryz.zeroValue151
  t77 := Tryz.underlying152
  a77 := Tryz.isAgg152
  z77 := Tryz.sizeOf152
  v77 := Tryz.zeroValue152

open Go.RowKit Go.Lib Go.Sort
def cfR (x y : Int × Int) : Int := if x.1 < y.1 then -1 else if y.1 < x.1 then 1 else 0
def encR (x : Int × Int) : List Go.Value := [.int .i32 x.1, .int .i32 x.2]
set_option maxHeartbeats 1000000 in
theorem closure105 (x y : Int × Int) (W : Go.World) : Go.Calls Tryz.prog 105 #[.agg #[.int .i32 x.1, .int .i32 x.2], .agg #[.int .i32 y.1, .int .i32 y.2]] W fun e w' => e = .returned (.int .i64 (cfR x y)) ∧ ∃ q os', w' = grow (W.drewN q) os' := by
  go_enter Tryz.func105, Tryz.ntmps105
  go_wp2
  all_goals
    go_ret
    refine ⟨?_, 0, _, by rw [alloc_eq_grow, alloc_eq_grow, grow_grow]; rfl⟩
    unfold cfR
    split <;> (try split) <;> first | rfl | (exfalso; omega)
theorem cmpLays105 (blk off size : Nat) (w : Go.World) : CmpLays Tryz.prog 105 #[] encR 2 cfR blk off size w := fun _ _ _ _ x y => closure105 x y _
theorem ltR (x y : Int × Int) : ltOf cfR x y = decide (x.1 < y.1) := by
  unfold ltOf cfR
  by_cases h1 : x.1 < y.1
  · simp [h1]
  · by_cases h2 : y.1 < x.1 <;> simp [h1, h2]
theorem swoR : SWO (ltOf cfR) where
  irrefl x := by rw [ltR]; simp
  trans x y z h1 h2 := by rw [ltR] at *; simp at *; omega
  ntrans x y z h1 h2 := by rw [ltR] at *; simp at *; omega
/-- The ranges in the order in which the library's sort leaves them. -/
def sortR (s : List (Int × Int)) : List (Int × Int) := (pdq (ltOf cfR) s.toArray 0 s.length (Go.Lib.bitLen s.length) true true).toList
theorem sort_facts (s : List (Int × Int)) : PermIn 0 s.length s.toArray (pdq (ltOf cfR) s.toArray 0 s.length (Go.Lib.bitLen s.length) true true) ∧ SortedIn (ltOf cfR) 0 s.length (pdq (ltOf cfR) s.toArray 0 s.length (Go.Lib.bitLen s.length) true true) :=
  pdq_sorts (ltOf cfR) swoR s.toArray 0 s.length (Go.Lib.bitLen s.length) true true (Nat.zero_le _) (by simp) (Or.inl rfl)
theorem sort_perm (s : List (Int × Int)) : (sortR s).Perm s := by
  obtain ⟨⟨h1, _, h2⟩, _⟩ := sort_facts s
  unfold sortR
  generalize pdq (ltOf cfR) s.toArray 0 s.length (Go.Lib.bitLen s.length) true true = d at h1 h2 ⊢
  have hd : d.size = s.length := by simpa using h1
  have e : d.extract 0 s.length = d := by rw [← hd]; simp
  rw [e] at h2
  have e2 : (s.toArray.extract 0 s.length).toList = s := by simp
  rw [e2] at h2
  exact h2
theorem sort_sorted (s : List (Int × Int)) : List.Pairwise (fun p q : Int × Int => p.1 ≤ q.1) (sortR s) := by
  obtain ⟨⟨h1, _, _⟩, h2⟩ := sort_facts s
  unfold sortR
  generalize pdq (ltOf cfR) s.toArray 0 s.length (Go.Lib.bitLen s.length) true true = d at h1 h2 ⊢
  have hd : d.size = s.length := by simpa using h1
  rw [List.pairwise_iff_getElem]
  intro i j hi hj hij
  have := h2 i j (Nat.zero_le _) hij (by simpa [hd] using hj)
  rw [ltR, decide_eq_false_iff_not] at this
  have ei : d[i]! = d[i]'(by simpa using hi) := getElem!_pos d i (by simpa using hi)
  have ej : d[j]! = d[j]'(by simpa using hj) := getElem!_pos d j (by simpa using hj)
  rw [ei, ej] at this
  simp only [Array.getElem_toList]
  omega
theorem sort_len (s : List (Int × Int)) : (sortR s).length = s.length := (sort_perm s).length_eq
theorem sort_mem (s : List (Int × Int)) (r : Int × Int) : r ∈ sortR s ↔ r ∈ s := (sort_perm s).mem_iff
/-- What ascends stays. -/
theorem sort_same (s : List (Int × Int)) (h : List.Pairwise (fun p q : Int × Int => p.1 < q.1) s) : sortR s = s := by
  have hp := sort_perm s
  have hs := sort_sorted s
  have key : ∀ (l m : List (Int × Int)), l.Perm m → List.Pairwise (fun p q : Int × Int => p.1 ≤ q.1) l → List.Pairwise (fun p q : Int × Int => p.1 < q.1) m → l = m := by
    intro l
    induction l with
    | nil => intro m hp _ _; exact (List.nil_perm.1 hp).symm
    | cons x l ih =>
      intro m hp hl hm
      cases m with
      | nil => exact absurd hp.length_eq (by simp)
      | cons y m =>
        have exy : x = y := by
          rcases List.mem_cons.1 (hp.mem_iff.1 (List.mem_cons_self)) with e | hx
          · exact e
          · have h1 := (List.pairwise_cons.1 hm).1 x hx
            rcases List.mem_cons.1 (hp.mem_iff.2 (List.mem_cons_self)) with e | hy
            · exact e.symm
            · have h2 := (List.pairwise_cons.1 hl).1 y hy
              omega
        subst exy
        rw [ih m ((List.perm_cons x).1 hp) (List.pairwise_cons.1 hl).2 (List.pairwise_cons.1 hm).2]
  exact key _ _ hp hs h
end Go.Proofs.YtebejiilpedlmaaGreatDoor
