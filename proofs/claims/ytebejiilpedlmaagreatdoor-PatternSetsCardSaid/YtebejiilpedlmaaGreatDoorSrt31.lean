/- Part of a proof about the functions of this seat. -/
import Derived.Test.YtebejiilpedlmaaGreatDoorPA31
import Derived.Test.YtebejiilpedlmaaGreatDoorSort31
import Derived.Test.YtebejiilpedlmaaGreatDoorNvVW
set_option linter.unusedVariables false
set_option linter.unusedSimpArgs false
set_option maxRecDepth 100000
namespace Go.Proofs.YtebejiilpedlmaaGreatDoor
open Go Nv Pat Go.Sort

theorem flat_rg (s : List (Int × Int)) : flat (s.map rgD) = s.flatMap fun r => [.int .i32 r.1, .int .i32 r.2] := by
  simp only [flat, List.flatMap_map, rgD, DV.cells]
theorem rg_cell : ∀ (s : List (Int × Int)) (j : Nat), j < s.length * 2 → (flat (s.map rgD))[j]? = some (if j % 2 = 0 then .int .i32 (s.getD (j / 2) default).1 else .int .i32 (s.getD (j / 2) default).2)
  | [], j, h => by simp at h
  | r :: s, j, h => by
    rw [flat_rg, List.flatMap_cons]
    match j, h with
    | 0, _ => rfl
    | 1, _ => rfl
    | j + 2, h =>
      have := rg_cell s j (by simp at h; omega)
      rw [flat_rg] at this
      rw [show [DV.int IntKind.i32 r.1, DV.int IntKind.i32 r.2] ++ (s.flatMap fun r => [.int .i32 r.1, .int .i32 r.2]) = DV.int IntKind.i32 r.1 :: DV.int IntKind.i32 r.2 :: (s.flatMap fun r => [.int .i32 r.1, .int .i32 r.2]) from rfl,
        List.getElem?_cons_succ, List.getElem?_cons_succ, this]
      simp only [show (j + 2) % 2 = j % 2 by omega, show (j + 2) / 2 = j / 2 + 1 by omega, List.getD_cons_succ]
def valR (s : List (Int × Int)) (j : Nat) : Value := if j % 2 = 0 then .int .i32 (s.getD (j / 2) default).1 else .int .i32 (s.getD (j / 2) default).2
theorem flatK_rg (d : Array (Int × Int)) (j : Nat) (h : j < d.size * 2) : (flatK encR 2 d)[j]! = valR d.toList j := by
  rw [get_flatK _ _ _ _ h, valR]
  have hd : d[j / 2]! = d.toList.getD (j / 2) default := by
    have hlt : j / 2 < d.size := by omega
    rw [getElem!_pos d _ hlt, List.getD_eq_getElem?_getD, Array.getElem?_toList, Array.getElem?_eq_getElem hlt]; rfl
  rw [hd]
  rcases (by omega : j % 2 = 0 ∨ j % 2 = 1) with h2 | h2 <;> simp [h2, encR]

theorem sort104 : SortC sortR := by
  intro s b g σ hb hst h0 hlen K hK ρ I w vs hr hv
  have hsb : σ[b]? = some (.arr g ⟨2, 44⟩ (s.map rgD)) := stGet_some hst (by simp)
  have hsz : vs.size = 2 := by have := hv.1; simpa using this.symm
  obtain ⟨v0, v1, rfl⟩ : ∃ v0 v1, vs = #[v0, v1] := by
    obtain ⟨l⟩ := vs
    match l, hsz with
    | [a, b], _ => exact ⟨a, b, rfl⟩
  have hv0 := hv.2 0 _ rfl
  have hv1 := (hv.2 1 _ rfl).d_inv
  simp only [Array.getD_eq_getD_getElem?, List.size_toArray, List.length_cons, List.length_nil, List.getElem?_toArray, List.getElem?_cons_zero, List.getElem?_cons_succ, Option.getD_some] at hv0 hv1
  obtain rfl : v1 = .func (.func 105) #[] #[] := by cases hv1; rfl
  generalize hn : s.length = n0 at hv0
  cases hv0 with
  | ownNil k1 k2 => omega
  | ownOld k1 k2 => rw [hsb] at k1; cases k1; exact absurd (k2 _ _ _ rfl) (by omega)
  | own k1 k2 k3 k4 =>
    rw [hsb] at k1; cases k1
    subst hn
    rename_i B cap
    obtain ⟨us, q1, q2, q3, q4, q5⟩ := hr.arr hsb k2
    dsimp only at q2
    simp only [Nat.zero_mul, Nat.add_zero]
    have hBlt : B < w.heap.size := by
      rcases Nat.lt_or_ge B w.heap.size with h' | h'
      · exact h'
      · rw [Array.getElem?_eq_none h'] at q1; cases q1
    have hul : (ρ b).base + s.length * 2 ≤ us.size := by
      have : s.length * 2 ≤ (ρ b).cap * 2 := Nat.mul_le_mul_right _ (by simpa using q3)
      omega
    have hH : HoldsK encR 2 w B (ρ b).base s.toArray := by
      intro j hj
      have hj' : j < s.length * 2 := by simpa using hj
      have hc := q5 j _ (rg_cell s j hj')
      have hlt : (ρ b).base + j < us.size := by omega
      refine ⟨?_, by simp [World.frozen?, q1]⟩
      rw [flatK_rg _ _ (by simpa using hj')]
      have hg : us.getD ((ρ b).base + j) undef = valR s j := by
        unfold valR
        by_cases h2 : j % 2 = 0
        · rw [if_pos h2] at hc ⊢; exact hc.int_inv
        · rw [if_neg h2] at hc ⊢; exact hc.int_inv
      simp only [World.cell?, q1, Option.bind_some]
      rw [Array.getD_eq_getD_getElem?, Array.getElem?_eq_getElem hlt, Option.getD_some] at hg
      simp [Array.getElem?_eq_getElem hlt, hg]
    have eg : ∀ args w, (callFunc 105 args).run Tryz.prog w = .ok (.enter 105 args) w := enters_of Tryz.func105 (by kernel_rfl) rfl
    have hcon := AnyQ.slices_SortFunc_eq Tryz.sortR 2 Tryz.isAgg44 Tryz.sizeOf44 encR (fun _ => rfl) (fun x v hv => by simp [encR] at hv; rcases hv with rfl | rfl <;> rfl) cfR swoR 105 #[] B (ρ b).base cap s.toArray w eg
      (cmpLays105 B (ρ b).base s.toArray.size w) hH hBlt (by simp; omega)
    simp only [List.size_toArray] at hcon
    refine hcon.mono ?_
    rintro e w' ⟨rfl, n, os, rfl⟩
    obtain ⟨d, hd⟩ : ∃ d, d = pdq (ltOf cfR) s.toArray 0 s.length (Lib.bitLen s.length) true true := ⟨_, rfl⟩
    have hds : d.toList = sortR s := by rw [hd, sortR]
    have hdz : d.size = s.length := by rw [← Array.length_toList, hds, sort_len]
    rw [← hd]
    obtain ⟨us', hus'⟩ : ∃ us', us' = putCells id (ρ b).base (flatK encR 2 d) us := ⟨_, rfl⟩
    have husz : us'.size = us.size := by rw [hus']; simp [putCells]
    have hheapB : (sortWorldK encR 2 w B (ρ b).base n d os).heap[B]? = some (.cells us' 44 (0, 0)) := by
      have hBl : B < (putRow id (Sort.ahead w n) B (ρ b).base (flatK encR 2 d)).heap.size := by simpa [Sort.ahead] using hBlt
      simp only [sortWorldK, putRowK, grow]
      rw [Array.getElem?_append, if_pos hBl]
      simp [putRow, mapBlock, Sort.ahead, Array.getElem?_modify, q1, onCells, hus']
    have hold : ∀ c, c < w.heap.size → c ≠ B → (sortWorldK encR 2 w B (ρ b).base n d os).heap[c]? = w.heap[c]? := by
      intro c hc hcB
      have hcl : c < (putRow id (Sort.ahead w n) B (ρ b).base (flatK encR 2 d)).heap.size := by simpa [Sort.ahead] using hc
      simp only [sortWorldK, putRowK, grow]
      rw [Array.getElem?_append, if_pos hcl]
      simp [putRow, mapBlock, Sort.ahead, Array.getElem?_modify, show ¬ B = c from fun h => hcB h.symm]
    have hE : Ext w (sortWorldK encR 2 w B (ρ b).base n d os) := Ext.of (by simp [sortWorldK, putRowK, Sort.ahead]) ⟨rfl, rfl, rfl⟩
    obtain ⟨ρ', h1, h2⟩ := own_anew (ys := (sortR s).map rgD) hr hsb k2 (by simp [sort_len]) (fun y hy => by
      obtain ⟨r, _, rfl⟩ := List.mem_map.1 hy
      refine ⟨rfl, fun c hc => ?_⟩
      simp only [rgD, DV.cells, List.mem_cons, List.not_mem_nil, or_false] at hc
      rcases hc with rfl | rfl <;> rfl) hE hold hheapB (by rw [husz]; exact q2) (fun j c hj => by
      have hjl : j < (sortR s).length * 2 := by
        rcases Nat.lt_or_ge j ((sortR s).length * 2) with h | h
        · exact h
        · have hfl : (flat ((sortR s).map rgD)).length = (sortR s).length * 2 := by
            rw [flat_rg]; generalize sortR s = t
            induction t with
            | nil => rfl
            | cons x t ih => simp only [List.flatMap_cons, List.length_append, List.length_cons, ih, List.length_nil]; omega
          rw [List.getElem?_eq_none (by omega)] at hj; cases hj
      rw [rg_cell _ _ hjl] at hj
      simp only [Option.some.injEq] at hj
      have hlt : (ρ b).base + j < us.size := by rw [sort_len] at hjl; omega
      have hval : us'.getD ((ρ b).base + j) undef = valR (sortR s) j := by
        rw [hus', putCells, Array.getD_eq_getD_getElem?, Array.getElem?_mapIdx, Array.getElem?_eq_getElem hlt]
        simp only [Option.map_some, Option.getD_some, size_flatK, hdz]
        rw [sort_len] at hjl
        rw [if_pos ⟨by omega, by omega⟩, show (ρ b).base + j - (ρ b).base = j by omega]
        show (flatK encR 2 d)[j]! = _
        rw [flatK_rg d j (by omega), hds]
      rw [hval, ← hj, valR]
      split <;> exact .int _ _)
    exact ⟨ρ', I, _, .ret (.tuple []), h1, h2, .tuple rfl (fun j c hj => by simp at hj), hK⟩
end Go.Proofs.YtebejiilpedlmaaGreatDoor
