/- Part of a proof about the functions of this seat. -/
import Derived.Test.YtebejiilpedlmaaGreatDoorQG31
import Derived.Test.YtebejiilpedlmaaGreatDoorPatA
set_option linter.unusedVariables false
set_option linter.unusedSimpArgs false
set_option maxRecDepth 100000
namespace Go.Proofs.YtebejiilpedlmaaGreatDoor
open Go Nv Pat

/- A tree's canonical pattern reads as the tree. -/

/-- What the sorting of ranges must keep: a list that ascends stays. -/
def SortOK (sort : List (Int × Int) → List (Int × Int)) : Prop := ∀ s, List.Pairwise (fun p q : Int × Int => p.1 < q.1) s → sort s = s

theorem rgB_ok {r : Int × Int} (h : rgB r = true) : charB r.1 = true ∧ charB r.2 = true ∧ r.1 ≤ r.2 ∧ (r.1 < 55296 ↔ r.2 < 55296) := by
  simp only [rgB, Bool.and_eq_true, decide_eq_true_eq, beq_iff_eq, decide_eq_decide] at h
  exact ⟨h.1.1.1, h.1.1.2, h.1.2, h.2⟩
theorem clip_rg {r : Int × Int} (h : rgB r = true) : clipS r.1 r.2 = [r] := by
  obtain ⟨h1, h2, h3, h4⟩ := rgB_ok h
  rw [charB_iff] at h1 h2
  unfold clipS clip1
  by_cases hl : r.1 < 55296
  · have hr := h4.1 hl
    rw [if_pos (by simp only; omega), if_neg (by simp only; omega)]
    simp only [List.append_nil, List.cons.injEq, and_true]
    rw [show max r.1 0 = r.1 by omega, show min r.2 55295 = r.2 by omega]
  · have hr : ¬ r.2 < 55296 := fun h => hl (h4.2 h)
    rw [if_neg (by simp only; omega), if_pos (by simp only; omega)]
    simp only [List.nil_append, List.cons.injEq, and_true]
    rw [show max r.1 57344 = r.1 by omega, show min r.2 1114111 = r.2 by omega]

/-- The ranges of a proper set ascend, with a gap between two. -/
theorem properFrom_ok : ∀ (s : List (Int × Int)) (q : Option Int), properFrom q s = true → (∀ r, r ∈ s → rgB r = true) ∧ List.Pairwise (fun p r : Int × Int => p.2 + 2 ≤ r.1) s ∧ ∀ z, q = some z → ∀ r, r ∈ s → z + 2 ≤ r.1
  | [], q, _ => ⟨by simp, .nil, by simp⟩
  | r :: l, q, h => by
    have key : rgB r = true ∧ properFrom (some r.2) l = true ∧ ∀ z, q = some z → z + 2 ≤ r.1 := by
      cases q with
      | none => simp only [properFrom, Bool.and_eq_true] at h; exact ⟨h.1, h.2, by simp⟩
      | some z => simp only [properFrom, Bool.and_eq_true, decide_eq_true_eq] at h; exact ⟨h.1.1, h.2, fun y hy => by cases hy; omega⟩
    obtain ⟨k1, k2, k3⟩ := key
    obtain ⟨h1, h2, h3⟩ := properFrom_ok l (some r.2) k2
    have hr := rgB_ok k1
    refine ⟨fun y hy => ?_, .cons (fun y hy => ?_) h2, fun z hz y hy => ?_⟩
    · rcases List.mem_cons.1 hy with rfl | hy
      · exact k1
      · exact h1 y hy
    · exact h3 r.2 rfl y hy
    · rcases List.mem_cons.1 hy with rfl | hy
      · exact k3 z hz
      · have := h3 r.2 rfl y hy
        have := k3 z hz
        omega
theorem proper_ok {s : List (Int × Int)} (h : properB s = true) : (∀ r, r ∈ s → rgB r = true) ∧ List.Pairwise (fun p r : Int × Int => p.2 + 2 ≤ r.1) s := by
  obtain ⟨h1, h2, _⟩ := properFrom_ok s none h
  exact ⟨h1, h2⟩
theorem getD_last {α : Type} [Inhabited α] (l : List α) (x : α) : (l ++ [x]).getD ((l ++ [x]).length - 1) default = x := by simp [List.getD_eq_getElem?_getD]
theorem joinR_snoc (l : List (Int × Int)) (q r : Int × Int) : joinR (l ++ [q]) r = if r.1 ≤ q.2 + 1 then l ++ [(q.1, max q.2 r.2)] else l ++ [q, r] := by
  unfold joinR
  rw [getD_last]
  by_cases h : r.1 ≤ q.2 + 1
  · rw [if_pos ⟨by simp, h⟩, if_pos h]
    simp [List.set_append_right]
  · rw [if_neg (by simp [h]), if_neg h]; simp
theorem joinR_nil (r : Int × Int) : joinR [] r = [r] := by simp [joinR]
theorem fold_apart : ∀ (s acc : List (Int × Int)), List.Pairwise (fun p r : Int × Int => p.2 + 2 ≤ r.1) (acc ++ s) → s.foldl joinR acc = acc ++ s
  | [], acc, _ => by simp
  | r :: s, acc, h => by
    have e : joinR acc r = acc ++ [r] := by
      rcases List.eq_nil_or_concat acc with rfl | ⟨l, q, rfl⟩
      · rw [joinR_nil]; rfl
      · rw [List.concat_eq_append] at h ⊢
        rw [joinR_snoc, if_neg]
        · simp
        · have : q.2 + 2 ≤ r.1 := by
            rw [List.append_assoc, List.pairwise_append] at h
            have h2 := h.2.1
            simp only [List.cons_append, List.nil_append, List.pairwise_cons] at h2
            exact h2.1 r (by simp)
          omega
    rw [List.foldl_cons, e, fold_apart s (acc ++ [r]) (by simpa using h)]
    simp
end Go.Proofs.YtebejiilpedlmaaGreatDoor
