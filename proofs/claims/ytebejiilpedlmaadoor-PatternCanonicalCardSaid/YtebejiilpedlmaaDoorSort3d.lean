/- Part of a proof about the functions of this seat. -/
import Derived.Shelf.SlSortCmp.WholeK
import Derived.WalkKit
import Derived.KernelRfl
import Derived.Test.YtebejiilpedlmaaDoorProg
import Derived.Test.YtebejiilpedlmaaDoorNvPQ
set_option linter.unusedVariables false
set_option maxRecDepth 100000
namespace Go.Proofs.YtebejiilpedlmaaDoor
open Go.Shelf
def Tryd.sortR_ren : Go.Shelf.Ren := ⟨fun | 6 => 67 | 15 => 80 | 14 => 79 | 28 => 94 | 29 => 75 | 20 => 86 | 21 => 87 | 22 => 88 | 23 => 89 | 24 => 90 | 25 => 91 | 26 => 92 | 27 => 93 | 46 => 95 | 47 => 96 | 48 => 97 | 49 => 98 | 50 => 99 | 57 => 100 | n => n, fun | 22 => 23 | 24 => 48 | 25 => 108 | 3 => 3 | 39 => 63 | 0 => 0 | 53 => 113 | 55 => 89 | 4 => 4 | 46 => 123 | 45 => 122 | 50 => 127 | 5 => 5 | 9 => 9 | 66 => 131 | 70 => 135 | 76 => 137 | 77 => 138 | n => n, fun | n => n⟩
theorem Tryd.sortR : Go.Proofs.SlLaysF0.n6 Tryd.prog Tryd.sortR_ren where
  mixed := by kernel_rfl
  f6 := ⟨Tryd.f67.name, by kernel_rfl, Tryd.func67.trans (congrArg some (by kernel_rfl))⟩
  f14 := ⟨Tryd.f79.name, by kernel_rfl, Tryd.func79.trans (congrArg some (by kernel_rfl))⟩
  f15 := Tryd.func80.trans (congrArg some (by kernel_rfl))
  f20 := ⟨Tryd.f86.name, by kernel_rfl, Tryd.func86.trans (congrArg some (by kernel_rfl))⟩
  f21 := ⟨Tryd.f87.name, by kernel_rfl, Tryd.func87.trans (congrArg some (by kernel_rfl))⟩
  f22 := ⟨Tryd.f88.name, by kernel_rfl, Tryd.func88.trans (congrArg some (by kernel_rfl))⟩
  f23 := ⟨Tryd.f89.name, by kernel_rfl, Tryd.func89.trans (congrArg some (by kernel_rfl))⟩
  f24 := ⟨Tryd.f90.name, by kernel_rfl, Tryd.func90.trans (congrArg some (by kernel_rfl))⟩
  f25 := ⟨Tryd.f91.name, by kernel_rfl, Tryd.func91.trans (congrArg some (by kernel_rfl))⟩
  f26 := ⟨Tryd.f92.name, by kernel_rfl, Tryd.func92.trans (congrArg some (by kernel_rfl))⟩
  f27 := ⟨Tryd.f93.name, by kernel_rfl, Tryd.func93.trans (congrArg some (by kernel_rfl))⟩
  f28 := Tryd.func94.trans (congrArg some (by kernel_rfl))
  f29 := Tryd.func75.trans (congrArg some (by kernel_rfl))
  f46 := ⟨Tryd.f95.name, by kernel_rfl, Tryd.func95.trans (congrArg some (by kernel_rfl))⟩
  f47 := Tryd.func96.trans (congrArg some (by kernel_rfl))
  f48 := Tryd.func97.trans (congrArg some (by kernel_rfl))
  f49 := ⟨Tryd.f98.name, by kernel_rfl, Tryd.func98.trans (congrArg some (by kernel_rfl))⟩
  f50 := ⟨Tryd.f99.name, by kernel_rfl, Tryd.func99.trans (congrArg some (by kernel_rfl))⟩
  f57 := ⟨Tryd.f100.name, by kernel_rfl, Tryd.func100.trans (congrArg some (by kernel_rfl))⟩
  t0 := Tryd.underlying0
  a0 := Tryd.isAgg0
  z0 := Tryd.sizeOf0
  v0 := Tryd.zeroValue0
  t3 := Tryd.underlying3
  a3 := Tryd.isAgg3
  z3 := Tryd.sizeOf3
  v3 := Tryd.zeroValue3
  t4 := Tryd.underlying4
  a4 := Tryd.isAgg4
  z4 := Tryd.sizeOf4
  v4 := Tryd.zeroValue4
  t5 := Tryd.underlying5
  a5 := Tryd.isAgg5
  z5 := Tryd.sizeOf5
  v5 := Tryd.zeroValue5
  t9 := Tryd.underlying9
  a9 := Tryd.isAgg9
  z9 := Tryd.sizeOf9
  v9 := Tryd.zeroValue9
  t22 := Tryd.underlying23
  a22 := Tryd.isAgg23
  z22 := Tryd.sizeOf23
  v22 := Tryd.zeroValue23
  t25 := Tryd.underlying108
  a25 := Tryd.isAgg108
  z25 := Tryd.sizeOf108
  v25 := Tryd.zeroValue108
  t39 := Tryd.underlying63
  a39 := Tryd.isAgg63
  z39 := Tryd.sizeOf63
  v39 := Tryd.zeroValue63
  t45 := Tryd.underlying122
  a45 := Tryd.isAgg122
  z45 := Tryd.sizeOf122
  v45 := Tryd.zeroValue122
  t46 := Tryd.underlying123
  a46 := Tryd.isAgg123
  z46 := Tryd.sizeOf123
  v46 := Tryd.zeroValue123
  t50 := Tryd.underlying127
  a50 := Tryd.isAgg127
  z50 := Tryd.sizeOf127
  v50 := Tryd.zeroValue127
  t53 := Tryd.underlying113
  a53 := Tryd.isAgg113
  z53 := Tryd.sizeOf113
  v53 := Tryd.zeroValue113
  t55 := Tryd.underlying89
  a55 := Tryd.isAgg89
  z55 := Tryd.sizeOf89
  v55 := Tryd.zeroValue89
  t66 := Tryd.underlying131
  a66 := Tryd.isAgg131
  z66 := Tryd.sizeOf131
  v66 := Tryd.zeroValue131
  t70 := Tryd.underlying135
  a70 := Tryd.isAgg135
  z70 := Tryd.sizeOf135
  v70 := Tryd.zeroValue135
  t76 := Tryd.underlying137
  a76 := Tryd.isAgg137
  z76 := Tryd.sizeOf137
  v76 := Tryd.zeroValue137
  t77 := Tryd.underlying138
  a77 := Tryd.isAgg138
  z77 := Tryd.sizeOf138
  v77 := Tryd.zeroValue138

open Go.RowKit Go.Lib Go.Sort
def cfR (x y : Int × Int) : Int := if x.1 < y.1 then -1 else if y.1 < x.1 then 1 else 0
def encR (x : Int × Int) : List Go.Value := [.int .i32 x.1, .int .i32 x.2]
set_option maxHeartbeats 1000000 in
theorem closure105 (x y : Int × Int) (W : Go.World) : Go.Calls Tryd.prog 68 #[.agg #[.int .i32 x.1, .int .i32 x.2], .agg #[.int .i32 y.1, .int .i32 y.2]] W fun e w' => e = .returned (.int .i64 (cfR x y)) ∧ ∃ q os', w' = grow (W.drewN q) os' := by
  go_enter Tryd.func68, Tryd.ntmps68
  go_wp2
  all_goals
    go_ret
    refine ⟨?_, 0, _, by rw [alloc_eq_grow, alloc_eq_grow, grow_grow]; rfl⟩
    unfold cfR
    split <;> (try split) <;> first | rfl | (exfalso; omega)
theorem cmpLays105 (blk off size : Nat) (w : Go.World) : CmpLays Tryd.prog 68 #[] encR 2 cfR blk off size w := fun _ _ _ _ x y => closure105 x y _
theorem ltR (x y : Int × Int) : ltOf cfR x y = decide (x.1 < y.1) := by
  unfold ltOf cfR
  by_cases h1 : x.1 < y.1
  · simp [h1]
  · by_cases h2 : y.1 < x.1 <;> simp [h1, h2]
theorem swoR : SWO (ltOf cfR) where
  irrefl x := by rw [ltR]; simp
  trans x y z h1 h2 := by rw [ltR] at *; simp at *; omega
  ntrans x y z h1 h2 := by rw [ltR] at *; simp at *; omega
/-- The ranges in the order in which the library's sort leaves them. -/
def sortR (s : List (Int × Int)) : List (Int × Int) := (pdq (ltOf cfR) s.toArray 0 s.length (Go.Lib.bitLen s.length) true true).toList
theorem sort_facts (s : List (Int × Int)) : PermIn 0 s.length s.toArray (pdq (ltOf cfR) s.toArray 0 s.length (Go.Lib.bitLen s.length) true true) ∧ SortedIn (ltOf cfR) 0 s.length (pdq (ltOf cfR) s.toArray 0 s.length (Go.Lib.bitLen s.length) true true) :=
  pdq_sorts (ltOf cfR) swoR s.toArray 0 s.length (Go.Lib.bitLen s.length) true true (Nat.zero_le _) (by simp) (Or.inl rfl)
theorem sort_perm (s : List (Int × Int)) : (sortR s).Perm s := by
  obtain ⟨⟨h1, _, h2⟩, _⟩ := sort_facts s
  unfold sortR
  generalize pdq (ltOf cfR) s.toArray 0 s.length (Go.Lib.bitLen s.length) true true = d at h1 h2 ⊢
  have hd : d.size = s.length := by simpa using h1
  have e : d.extract 0 s.length = d := by rw [← hd]; simp
  rw [e] at h2
  have e2 : (s.toArray.extract 0 s.length).toList = s := by simp
  rw [e2] at h2
  exact h2
theorem sort_sorted (s : List (Int × Int)) : List.Pairwise (fun p q : Int × Int => p.1 ≤ q.1) (sortR s) := by
  obtain ⟨⟨h1, _, _⟩, h2⟩ := sort_facts s
  unfold sortR
  generalize pdq (ltOf cfR) s.toArray 0 s.length (Go.Lib.bitLen s.length) true true = d at h1 h2 ⊢
  have hd : d.size = s.length := by simpa using h1
  rw [List.pairwise_iff_getElem]
  intro i j hi hj hij
  have := h2 i j (Nat.zero_le _) hij (by simpa [hd] using hj)
  rw [ltR, decide_eq_false_iff_not] at this
  have ei : d[i]! = d[i]'(by simpa using hi) := getElem!_pos d i (by simpa using hi)
  have ej : d[j]! = d[j]'(by simpa using hj) := getElem!_pos d j (by simpa using hj)
  rw [ei, ej] at this
  simp only [Array.getElem_toList]
  omega
theorem sort_len (s : List (Int × Int)) : (sortR s).length = s.length := (sort_perm s).length_eq
theorem sort_mem (s : List (Int × Int)) (r : Int × Int) : r ∈ sortR s ↔ r ∈ s := (sort_perm s).mem_iff
/-- What ascends stays. -/
theorem sort_same (s : List (Int × Int)) (h : List.Pairwise (fun p q : Int × Int => p.1 < q.1) s) : sortR s = s := by
  have hp := sort_perm s
  have hs := sort_sorted s
  have key : ∀ (l m : List (Int × Int)), l.Perm m → List.Pairwise (fun p q : Int × Int => p.1 ≤ q.1) l → List.Pairwise (fun p q : Int × Int => p.1 < q.1) m → l = m := by
    intro l
    induction l with
    | nil => intro m hp _ _; exact (List.nil_perm.1 hp).symm
    | cons x l ih =>
      intro m hp hl hm
      cases m with
      | nil => exact absurd hp.length_eq (by simp)
      | cons y m =>
        have exy : x = y := by
          rcases List.mem_cons.1 (hp.mem_iff.1 (List.mem_cons_self)) with e | hx
          · exact e
          · have h1 := (List.pairwise_cons.1 hm).1 x hx
            rcases List.mem_cons.1 (hp.mem_iff.2 (List.mem_cons_self)) with e | hy
            · exact e.symm
            · have h2 := (List.pairwise_cons.1 hl).1 y hy
              omega
        subst exy
        rw [ih m ((List.perm_cons x).1 hp) (List.pairwise_cons.1 hl).2 (List.pairwise_cons.1 hm).2]
  exact key _ _ hp hs h
end Go.Proofs.YtebejiilpedlmaaDoor
