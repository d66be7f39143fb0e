/- Part of a proof about the functions of this seat. -/
import Derived.Test.YtoenpoefcmikgaaL26
import Derived.Test.YtoenpoefcmikgaaNvS
set_option linter.unusedVariables false
set_option linter.unusedSimpArgs false
set_option maxRecDepth 100000
namespace Go.Proofs.Ytoenpoefcmikgaa
open Go Nv

theorem okRow_of {l : List Glyph} (h : ¬ greatRow l = true) : okRow l := by
  obtain ⟨h1, _, h3⟩ := small_of h
  exact ⟨by omega, by omega⟩

theorem small_view {v : View} (h : ¬ great v = true) : v.rows.length ≤ 12 ∧ ∀ l ∈ v.rows, ¬ greatRow l = true := by
  simp only [great, Bool.or_eq_true, not_or, decide_eq_true_eq] at h
  refine ⟨by omega, fun l hl hg => h.2 (List.any_eq_true.2 ⟨l, hl, hg⟩)⟩

theorem law8 (v : View) (r : Region) : PCall Try.prog 8 [v.av, r.av] (.d (.bool true)) := by
  refine fn8.pure noHint (Nat.le_refl _) (by simp only [go_sem, View.av, Region.av]) (by simp only [go_sem]) ?_
  simp (disch := omega) only [go_sem, reduceIte, reduceDIte, reduceCtorEq, Nat.reduceBEq, Nat.reduceEqDiff, Nat.reduceAdd, Nat.reduceSub, Nat.reduceMul, Nat.reduceLT, Nat.reduceLeDiff, Nat.reduceBNe, Int.reduceNeg, Int.reduceAdd, Int.reduceSub, Int.reduceMul, Int.reduceLT, Int.reduceLE, Int.reduceGT, Int.reduceGE, Int.reduceEq, Int.reduceNe, Int.reduceToNat, Int.reduceTMod, Int.reduceTDiv, View.av, Region.av]
  refine (great18 v).at ?_
  by_cases hg : great v = true
  · simp (disch := omega) only [go_sem, reduceIte, reduceDIte, reduceCtorEq, Nat.reduceBEq, Nat.reduceEqDiff, Nat.reduceAdd, Nat.reduceSub, Nat.reduceMul, Nat.reduceLT, Nat.reduceLeDiff, Nat.reduceBNe, Int.reduceNeg, Int.reduceAdd, Int.reduceSub, Int.reduceMul, Int.reduceLT, Int.reduceLE, Int.reduceGT, Int.reduceGE, Int.reduceEq, Int.reduceNe, Int.reduceToNat, Int.reduceTMod, Int.reduceTDiv, hg]
    refine awake12.at ?_
    simp (disch := omega) only [go_sem, reduceIte, reduceDIte, reduceCtorEq, Nat.reduceBEq, Nat.reduceEqDiff, Nat.reduceAdd, Nat.reduceSub, Nat.reduceMul, Nat.reduceLT, Nat.reduceLeDiff, Nat.reduceBNe, Int.reduceNeg, Int.reduceAdd, Int.reduceSub, Int.reduceMul, Int.reduceLT, Int.reduceLE, Int.reduceGT, Int.reduceGE, Int.reduceEq, Int.reduceNe, Int.reduceToNat, Int.reduceTMod, Int.reduceTDiv]
  obtain ⟨hl, hrows⟩ := small_view hg
  have hr : ∀ l ∈ v.rows, okRow l := fun l h => okRow_of (hrows l h)
  simp (disch := omega) only [go_sem, reduceIte, reduceDIte, reduceCtorEq, Nat.reduceBEq, Nat.reduceEqDiff, Nat.reduceAdd, Nat.reduceSub, Nat.reduceMul, Nat.reduceLT, Nat.reduceLeDiff, Nat.reduceBNe, Int.reduceNeg, Int.reduceAdd, Int.reduceSub, Int.reduceMul, Int.reduceLT, Int.reduceLE, Int.reduceGT, Int.reduceGE, Int.reduceEq, Int.reduceNe, Int.reduceToNat, Int.reduceTMod, Int.reduceTDiv, hg]
  refine (find19 v (by omega) hr).at ?_
  simp (disch := omega) only [go_sem, reduceIte, reduceDIte, reduceCtorEq, Nat.reduceBEq, Nat.reduceEqDiff, Nat.reduceAdd, Nat.reduceSub, Nat.reduceMul, Nat.reduceLT, Nat.reduceLeDiff, Nat.reduceBNe, Int.reduceNeg, Int.reduceAdd, Int.reduceSub, Int.reduceMul, Int.reduceLT, Int.reduceLE, Int.reduceGT, Int.reduceGE, Int.reduceEq, Int.reduceNe, Int.reduceToNat, Int.reduceTMod, Int.reduceTDiv, Region.av]
  refine (find20 v (by omega) hr).at ?_
  simp (disch := omega) only [go_sem, reduceIte, reduceDIte, reduceCtorEq, Nat.reduceBEq, Nat.reduceEqDiff, Nat.reduceAdd, Nat.reduceSub, Nat.reduceMul, Nat.reduceLT, Nat.reduceLeDiff, Nat.reduceBNe, Int.reduceNeg, Int.reduceAdd, Int.reduceSub, Int.reduceMul, Int.reduceLT, Int.reduceLE, Int.reduceGT, Int.reduceGE, Int.reduceEq, Int.reduceNe, Int.reduceToNat, Int.reduceTMod, Int.reduceTDiv, Region.av]
  refine (split15 v r (by omega) hr).at ?_
  simp (disch := omega) only [go_sem, reduceIte, reduceDIte, reduceCtorEq, Nat.reduceBEq, Nat.reduceEqDiff, Nat.reduceAdd, Nat.reduceSub, Nat.reduceMul, Nat.reduceLT, Nat.reduceLeDiff, Nat.reduceBNe, Int.reduceNeg, Int.reduceAdd, Int.reduceSub, Int.reduceMul, Int.reduceLT, Int.reduceLE, Int.reduceGT, Int.reduceGE, Int.reduceEq, Int.reduceNe, Int.reduceToNat, Int.reduceTMod, Int.reduceTDiv, Region.av]
  refine (split21 v r (by omega) hr).at ?_
  simp (disch := omega) only [go_sem, reduceIte, reduceDIte, reduceCtorEq, Nat.reduceBEq, Nat.reduceEqDiff, Nat.reduceAdd, Nat.reduceSub, Nat.reduceMul, Nat.reduceLT, Nat.reduceLeDiff, Nat.reduceBNe, Int.reduceNeg, Int.reduceAdd, Int.reduceSub, Int.reduceMul, Int.reduceLT, Int.reduceLE, Int.reduceGT, Int.reduceGE, Int.reduceEq, Int.reduceNe, Int.reduceToNat, Int.reduceTMod, Int.reduceTDiv, Region.av, beq_self_eq_true]
  refine awake12.at ?_
  simp (disch := omega) only [go_sem, reduceIte, reduceDIte, reduceCtorEq, Nat.reduceBEq, Nat.reduceEqDiff, Nat.reduceAdd, Nat.reduceSub, Nat.reduceMul, Nat.reduceLT, Nat.reduceLeDiff, Nat.reduceBNe, Int.reduceNeg, Int.reduceAdd, Int.reduceSub, Int.reduceMul, Int.reduceLT, Int.reduceLE, Int.reduceGT, Int.reduceGE, Int.reduceEq, Int.reduceNe, Int.reduceToNat, Int.reduceTMod, Int.reduceTDiv]

theorem label_ne (l : List Glyph) (h0 : 0 < ends l) : labelOf l ≠ [] ∧ (text (l.take (ends l)) = labelOf l ∨ text (l.take (ends l)) = labelOf l ++ [32]) := by
  rcases ends_cases l 0 with ⟨h1, _⟩ | ⟨h1, h2, h3, _⟩ | ⟨k, h1, h2, h3, h4, _⟩
  · exact absurd (show ends l = 0 from h1) (by omega)
  · have h2' : ends l = l.length := by have : ends l = 0 + l.length := h2; omega
    obtain ⟨m, hm⟩ : ∃ m, l.length = m + 1 := ⟨l.length - 1, by omega⟩
    rw [show l.length - 1 = m by omega] at h3
    have e4 : labelOf l = text (l.take (m + 1)) := by
      unfold labelOf
      rw [if_neg, h2', hm]
      rintro ⟨_, h⟩
      rw [h2', hm, Nat.add_sub_cancel, sign_not_blank h3] at h
      cases h
    obtain ⟨c, hc, _⟩ := sign_one h3
    rw [h2', hm, e4, take_succ_text l m (by omega), hc]
    exact ⟨by simp, .inl rfl⟩
  · have h2' : ends l = k + 2 := by have : ends l = 0 + k + 2 := h2; omega
    have e4 : labelOf l = text (l.take (k + 1)) := by
      unfold labelOf
      rw [if_pos ⟨h0, by rw [h2']; exact h4⟩, h2']; rfl
    obtain ⟨c, hc, _⟩ := sign_one h3
    have hb : (l.getD (k + 1) default).text = [32] := of_decide_eq_true h4
    rw [h2', take_succ_text l (k + 1) (by omega), hb, e4, take_succ_text l k (by omega), hc]
    exact ⟨by simp, .inr rfl⟩

theorem law9 (v : View) : PCall Try.prog 9 [v.av] (.d (.bool true)) := by
  refine fn9.pure noHint (Nat.le_refl _) (by simp only [go_sem, View.av, Region.av]) (by simp only [go_sem]) ?_
  simp (disch := omega) only [go_sem, reduceIte, reduceDIte, reduceCtorEq, Nat.reduceBEq, Nat.reduceEqDiff, Nat.reduceAdd, Nat.reduceSub, Nat.reduceMul, Nat.reduceLT, Nat.reduceLeDiff, Nat.reduceBNe, Int.reduceNeg, Int.reduceAdd, Int.reduceSub, Int.reduceMul, Int.reduceLT, Int.reduceLE, Int.reduceGT, Int.reduceGE, Int.reduceEq, Int.reduceNe, Int.reduceToNat, Int.reduceTMod, Int.reduceTDiv, View.av]
  refine (great18 v).at ?_
  by_cases hg : great v = true
  · simp (disch := omega) only [go_sem, reduceIte, reduceDIte, reduceCtorEq, Nat.reduceBEq, Nat.reduceEqDiff, Nat.reduceAdd, Nat.reduceSub, Nat.reduceMul, Nat.reduceLT, Nat.reduceLeDiff, Nat.reduceBNe, Int.reduceNeg, Int.reduceAdd, Int.reduceSub, Int.reduceMul, Int.reduceLT, Int.reduceLE, Int.reduceGT, Int.reduceGE, Int.reduceEq, Int.reduceNe, Int.reduceToNat, Int.reduceTMod, Int.reduceTDiv, hg]
    refine awake12.at ?_
    simp (disch := omega) only [go_sem, reduceIte, reduceDIte, reduceCtorEq, Nat.reduceBEq, Nat.reduceEqDiff, Nat.reduceAdd, Nat.reduceSub, Nat.reduceMul, Nat.reduceLT, Nat.reduceLeDiff, Nat.reduceBNe, Int.reduceNeg, Int.reduceAdd, Int.reduceSub, Int.reduceMul, Int.reduceLT, Int.reduceLE, Int.reduceGT, Int.reduceGE, Int.reduceEq, Int.reduceNe, Int.reduceToNat, Int.reduceTMod, Int.reduceTDiv]
  obtain ⟨hl, hrows⟩ := small_view hg
  have hr : ∀ l ∈ v.rows, okRow l := fun l h => okRow_of (hrows l h)
  simp (disch := omega) only [go_sem, reduceIte, reduceDIte, reduceCtorEq, Nat.reduceBEq, Nat.reduceEqDiff, Nat.reduceAdd, Nat.reduceSub, Nat.reduceMul, Nat.reduceLT, Nat.reduceLeDiff, Nat.reduceBNe, Int.reduceNeg, Int.reduceAdd, Int.reduceSub, Int.reduceMul, Int.reduceLT, Int.reduceLE, Int.reduceGT, Int.reduceGE, Int.reduceEq, Int.reduceNe, Int.reduceToNat, Int.reduceTMod, Int.reduceTDiv, hg]
  refine (find19 v (by omega) hr).at ?_
  by_cases hrow : 0 ≤ v.row ∧ v.row < v.rows.length
  · by_cases hf : isFound v
    · rw [find_yes hrow hf]
      obtain ⟨l, hll⟩ : ∃ l, l = v.rows.getD v.row.toNat default := ⟨_, rfl⟩
      have hok : okRow l := hr l (by rw [hll, List.getD_eq_getElem?_getD, List.getElem?_eq_getElem (by omega)]; exact List.getElem_mem _)
      have e1 : ¬ v.row < 0 := by omega
      have e2 : ¬ v.row ≥ v.rows.length := by omega
      have hf' := hf
      unfold isFound at hf'
      rw [← hll] at hf'
      have e3 : (0 : Int) < ends l := by omega
      obtain ⟨hne, hp⟩ := label_ne l hf'.1
      have hs := split15 v ⟨7, 0, -1, v.row, 0, v.row + 1, v.width, labelOf l⟩ (by omega) hr
      have es : split v ⟨7, 0, -1, v.row, 0, v.row + 1, v.width, labelOf l⟩ = (text (l.take (ends l)), text (l.drop (ends l))) := by simp [split, e1, e2, hll]
      rw [es] at hs
      simp (disch := omega) only [go_sem, reduceIte, reduceDIte, reduceCtorEq, Nat.reduceBEq, Nat.reduceEqDiff, Nat.reduceAdd, Nat.reduceSub, Nat.reduceMul, Nat.reduceLT, Nat.reduceLeDiff, Nat.reduceBNe, Int.reduceNeg, Int.reduceAdd, Int.reduceSub, Int.reduceMul, Int.reduceLT, Int.reduceLE, Int.reduceGT, Int.reduceGE, Int.reduceEq, Int.reduceNe, Int.reduceToNat, Int.reduceTMod, Int.reduceTDiv, Region.av, e1, e2, ← hll]
      refine hs.at ?_
      simp (disch := omega) only [go_sem, reduceIte, reduceDIte, reduceCtorEq, Nat.reduceBEq, Nat.reduceEqDiff, Nat.reduceAdd, Nat.reduceSub, Nat.reduceMul, Nat.reduceLT, Nat.reduceLeDiff, Nat.reduceBNe, Int.reduceNeg, Int.reduceAdd, Int.reduceSub, Int.reduceMul, Int.reduceLT, Int.reduceLE, Int.reduceGT, Int.reduceGE, Int.reduceEq, Int.reduceNe, Int.reduceToNat, Int.reduceTMod, Int.reduceTDiv, hrow, rowD, ← hll]
      refine (ends13 l hok.1).at ?_
      rcases hp with hp | hp
      · simp (disch := omega) only [go_sem, reduceIte, reduceDIte, reduceCtorEq, Nat.reduceBEq, Nat.reduceEqDiff, Nat.reduceAdd, Nat.reduceSub, Nat.reduceMul, Nat.reduceLT, Nat.reduceLeDiff, Nat.reduceBNe, Int.reduceNeg, Int.reduceAdd, Int.reduceSub, Int.reduceMul, Int.reduceLT, Int.reduceLE, Int.reduceGT, Int.reduceGE, Int.reduceEq, Int.reduceNe, Int.reduceToNat, Int.reduceTMod, Int.reduceTDiv, hp, e3, hne, hrow, rowD, ← hll]
        refine (index22 l hok.1 v.col).dat ?_
        simp (disch := omega) only [go_sem, reduceIte, reduceDIte, reduceCtorEq, Nat.reduceBEq, Nat.reduceEqDiff, Nat.reduceAdd, Nat.reduceSub, Nat.reduceMul, Nat.reduceLT, Nat.reduceLeDiff, Nat.reduceBNe, Int.reduceNeg, Int.reduceAdd, Int.reduceSub, Int.reduceMul, Int.reduceLT, Int.reduceLE, Int.reduceGT, Int.reduceGE, Int.reduceEq, Int.reduceNe, Int.reduceToNat, Int.reduceTMod, Int.reduceTDiv, hf'.2]
        refine awake12.dat ?_
        simp (disch := omega) only [go_sem, reduceIte, reduceDIte, reduceCtorEq, Nat.reduceBEq, Nat.reduceEqDiff, Nat.reduceAdd, Nat.reduceSub, Nat.reduceMul, Nat.reduceLT, Nat.reduceLeDiff, Nat.reduceBNe, Int.reduceNeg, Int.reduceAdd, Int.reduceSub, Int.reduceMul, Int.reduceLT, Int.reduceLE, Int.reduceGT, Int.reduceGE, Int.reduceEq, Int.reduceNe, Int.reduceToNat, Int.reduceTMod, Int.reduceTDiv]
      · have hp1 : ¬ labelOf l ++ [32] = labelOf l := by simp
        have hb := (text_take_le hok (ends l)).2
        rw [hp, List.length_append] at hb
        have hp2 : (labelOf l).length ≤ 9223372036854775806 := by omega
        simp (disch := omega) only [go_sem, reduceIte, reduceDIte, reduceCtorEq, Nat.reduceBEq, Nat.reduceEqDiff, Nat.reduceAdd, Nat.reduceSub, Nat.reduceMul, Nat.reduceLT, Nat.reduceLeDiff, Nat.reduceBNe, Int.reduceNeg, Int.reduceAdd, Int.reduceSub, Int.reduceMul, Int.reduceLT, Int.reduceLE, Int.reduceGT, Int.reduceGE, Int.reduceEq, Int.reduceNe, Int.reduceToNat, Int.reduceTMod, Int.reduceTDiv, hp, hp1, hp2, e3, hne, hrow, rowD, ← hll]
        refine (index22 l hok.1 v.col).dat ?_
        simp (disch := omega) only [go_sem, reduceIte, reduceDIte, reduceCtorEq, Nat.reduceBEq, Nat.reduceEqDiff, Nat.reduceAdd, Nat.reduceSub, Nat.reduceMul, Nat.reduceLT, Nat.reduceLeDiff, Nat.reduceBNe, Int.reduceNeg, Int.reduceAdd, Int.reduceSub, Int.reduceMul, Int.reduceLT, Int.reduceLE, Int.reduceGT, Int.reduceGE, Int.reduceEq, Int.reduceNe, Int.reduceToNat, Int.reduceTMod, Int.reduceTDiv, hf'.2]
        refine awake12.dat ?_
        simp (disch := omega) only [go_sem, reduceIte, reduceDIte, reduceCtorEq, Nat.reduceBEq, Nat.reduceEqDiff, Nat.reduceAdd, Nat.reduceSub, Nat.reduceMul, Nat.reduceLT, Nat.reduceLeDiff, Nat.reduceBNe, Int.reduceNeg, Int.reduceAdd, Int.reduceSub, Int.reduceMul, Int.reduceLT, Int.reduceLE, Int.reduceGT, Int.reduceGE, Int.reduceEq, Int.reduceNe, Int.reduceToNat, Int.reduceTMod, Int.reduceTDiv]
    · rw [find_no hf]
      simp (disch := omega) only [go_sem, reduceIte, reduceDIte, reduceCtorEq, Nat.reduceBEq, Nat.reduceEqDiff, Nat.reduceAdd, Nat.reduceSub, Nat.reduceMul, Nat.reduceLT, Nat.reduceLeDiff, Nat.reduceBNe, Int.reduceNeg, Int.reduceAdd, Int.reduceSub, Int.reduceMul, Int.reduceLT, Int.reduceLE, Int.reduceGT, Int.reduceGE, Int.reduceEq, Int.reduceNe, Int.reduceToNat, Int.reduceTMod, Int.reduceTDiv, Region.av, noR]
      refine awake12.at ?_
      simp (disch := omega) only [go_sem, reduceIte, reduceDIte, reduceCtorEq, Nat.reduceBEq, Nat.reduceEqDiff, Nat.reduceAdd, Nat.reduceSub, Nat.reduceMul, Nat.reduceLT, Nat.reduceLeDiff, Nat.reduceBNe, Int.reduceNeg, Int.reduceAdd, Int.reduceSub, Int.reduceMul, Int.reduceLT, Int.reduceLE, Int.reduceGT, Int.reduceGE, Int.reduceEq, Int.reduceNe, Int.reduceToNat, Int.reduceTMod, Int.reduceTDiv]
  · rw [find_out hrow]
    simp (disch := omega) only [go_sem, reduceIte, reduceDIte, reduceCtorEq, Nat.reduceBEq, Nat.reduceEqDiff, Nat.reduceAdd, Nat.reduceSub, Nat.reduceMul, Nat.reduceLT, Nat.reduceLeDiff, Nat.reduceBNe, Int.reduceNeg, Int.reduceAdd, Int.reduceSub, Int.reduceMul, Int.reduceLT, Int.reduceLE, Int.reduceGT, Int.reduceGE, Int.reduceEq, Int.reduceNe, Int.reduceToNat, Int.reduceTMod, Int.reduceTDiv, Region.av, noR]
    refine awake12.at ?_
    simp (disch := omega) only [go_sem, reduceIte, reduceDIte, reduceCtorEq, Nat.reduceBEq, Nat.reduceEqDiff, Nat.reduceAdd, Nat.reduceSub, Nat.reduceMul, Nat.reduceLT, Nat.reduceLeDiff, Nat.reduceBNe, Int.reduceNeg, Int.reduceAdd, Int.reduceSub, Int.reduceMul, Int.reduceLT, Int.reduceLE, Int.reduceGT, Int.reduceGE, Int.reduceEq, Int.reduceNe, Int.reduceToNat, Int.reduceTMod, Int.reduceTDiv]

def curA (l : List Glyph) (r q : Int) : AV := .agg [.d (.int .i64 132), .d (.int .i64 3), .d (.list 1 [.nilslice, .list 3 (l.map Glyph.dv), .nilslice]), .d (.int .i64 r), .d (.int .i64 q), .d (.bool false)]
theorem cur_wk (l : List Glyph) (r q : Int) {f : FuncId} {R : AV} (h : PCall Try.prog f [View.av ⟨132, 3, [[], l, []], r, q, false⟩] R) : PCall Try.prog f [curA l r q] R := by
  refine h.wk rfl (fun i hi => ?_)
  obtain rfl : i = 0 := by simp only [List.length_cons, List.length_nil] at hi; omega
  refine .agg rfl (fun j hj => ?_)
  match j, hj with
  | 0, _ => exact .refl _
  | 1, _ => exact .refl _
  | 2, _ =>
    refine .rows rfl (fun k hk => ?_)
    match k, hk with
    | 0, _ => exact .inr ⟨rfl, 3, rfl⟩
    | 1, _ => exact .inl rfl
    | 2, _ => exact .inr ⟨rfl, 3, rfl⟩
  | 3, _ => exact .refl _
  | 4, _ => exact .refl _
  | 5, _ => exact .refl _

theorem law10 (l : List Glyph) (z : Int) (hz : 0 ≤ z ∧ z < 256) : PCall Try.prog 10 [glyphs l, .d (.int .u8 z)] (.d (.bool true)) := by
  refine fn10.pure noHint (Nat.le_refl _) (by simp only [go_sem, glyphs]) (by simp only [go_sem]) ?_
  simp (disch := omega) only [go_sem, reduceIte, reduceDIte, reduceCtorEq, Nat.reduceBEq, Nat.reduceEqDiff, Nat.reduceAdd, Nat.reduceSub, Nat.reduceMul, Nat.reduceLT, Nat.reduceLeDiff, Nat.reduceBNe, Int.reduceNeg, Int.reduceAdd, Int.reduceSub, Int.reduceMul, Int.reduceLT, Int.reduceLE, Int.reduceGT, Int.reduceGE, Int.reduceEq, Int.reduceNe, Int.reduceToNat, Int.reduceTMod, Int.reduceTDiv, glyphs]
  refine (great11 l).at ?_
  by_cases hg : greatRow l = true
  · simp (disch := omega) only [go_sem, reduceIte, reduceDIte, reduceCtorEq, Nat.reduceBEq, Nat.reduceEqDiff, Nat.reduceAdd, Nat.reduceSub, Nat.reduceMul, Nat.reduceLT, Nat.reduceLeDiff, Nat.reduceBNe, Int.reduceNeg, Int.reduceAdd, Int.reduceSub, Int.reduceMul, Int.reduceLT, Int.reduceLE, Int.reduceGT, Int.reduceGE, Int.reduceEq, Int.reduceNe, Int.reduceToNat, Int.reduceTMod, Int.reduceTDiv, hg]
    refine awake12.at ?_
    simp (disch := omega) only [go_sem, reduceIte, reduceDIte, reduceCtorEq, Nat.reduceBEq, Nat.reduceEqDiff, Nat.reduceAdd, Nat.reduceSub, Nat.reduceMul, Nat.reduceLT, Nat.reduceLeDiff, Nat.reduceBNe, Int.reduceNeg, Int.reduceAdd, Int.reduceSub, Int.reduceMul, Int.reduceLT, Int.reduceLE, Int.reduceGT, Int.reduceGE, Int.reduceEq, Int.reduceNe, Int.reduceToNat, Int.reduceTMod, Int.reduceTDiv]
  by_cases h100 : 100 < l.length
  · have h100' : (100 : Int) < l.length := by omega
    simp (disch := omega) only [go_sem, reduceIte, reduceDIte, reduceCtorEq, Nat.reduceBEq, Nat.reduceEqDiff, Nat.reduceAdd, Nat.reduceSub, Nat.reduceMul, Nat.reduceLT, Nat.reduceLeDiff, Nat.reduceBNe, Int.reduceNeg, Int.reduceAdd, Int.reduceSub, Int.reduceMul, Int.reduceLT, Int.reduceLE, Int.reduceGT, Int.reduceGE, Int.reduceEq, Int.reduceNe, Int.reduceToNat, Int.reduceTMod, Int.reduceTDiv, hg, h100']
    refine awake12.at ?_
    simp (disch := omega) only [go_sem, reduceIte, reduceDIte, reduceCtorEq, Nat.reduceBEq, Nat.reduceEqDiff, Nat.reduceAdd, Nat.reduceSub, Nat.reduceMul, Nat.reduceLT, Nat.reduceLeDiff, Nat.reduceBNe, Int.reduceNeg, Int.reduceAdd, Int.reduceSub, Int.reduceMul, Int.reduceLT, Int.reduceLE, Int.reduceGT, Int.reduceGE, Int.reduceEq, Int.reduceNe, Int.reduceToNat, Int.reduceTMod, Int.reduceTDiv]
  have h100' : ¬ (100 : Int) < l.length := by omega
  have hok := okRow_of hg
  obtain ⟨q, hq, hzq⟩ : ∃ q : Nat, q < 132 ∧ z.tmod 132 = q := ⟨(z % 132).toNat, by omega, by rw [Int.tmod_eq_emod_of_nonneg hz.1]; omega⟩
  simp (disch := omega) only [go_sem, reduceIte, reduceDIte, reduceCtorEq, Nat.reduceBEq, Nat.reduceEqDiff, Nat.reduceAdd, Nat.reduceSub, Nat.reduceMul, Nat.reduceLT, Nat.reduceLeDiff, Nat.reduceBNe, Int.reduceNeg, Int.reduceAdd, Int.reduceSub, Int.reduceMul, Int.reduceLT, Int.reduceLE, Int.reduceGT, Int.reduceGE, Int.reduceEq, Int.reduceNe, Int.reduceToNat, Int.reduceTMod, Int.reduceTDiv, hg, h100', hzq]
  have hokr : ∀ m ∈ [[], l, []], okRow m := by
    intro m hm
    simp only [List.mem_cons, List.not_mem_nil, or_false] at hm
    rcases hm with rfl | rfl | rfl
    · simp [okRow, text]
    · exact hok
    · simp [okRow, text]
  have h19 := cur_wk _ _ _ (find19 ⟨132, 3, [[], l, []], 1, q, false⟩ (by simp) hokr)
  have h19' := cur_wk _ _ _ (find19 ⟨132, 3, [[], l, []], 0, q, false⟩ (by simp) hokr)
  have e0 : find ⟨132, 3, [[], l, []], 0, q, false⟩ = (noR, false) := find_no (by unfold isFound; exact fun h => absurd (show 0 < ends [] from h.1) (by decide))
  rw [e0] at h19'
  simp only [Region.av, noR, curA] at h19'
  have hsmall := hok.1
  by_cases hf : isFound ⟨132, 3, [[], l, []], 1, q, false⟩
  · have e1 := find_yes (v := ⟨132, 3, [[], l, []], 1, q, false⟩) (by simp) hf
    have hf' : 0 < ends l ∧ (ends l : Int) ≤ indexOf l q := hf
    have e2 : (0 : Int) < ends l := by omega
    rw [e1] at h19
    simp only [Region.av, curA] at h19
    refine PCall.lendAt (r := (.tuple [.agg [.d (.int .i64 7), .d (.int .i64 0), .d (.int .i64 (-1)), .d (.int .i64 1), .d (.int .i64 0), .d (.int .i64 (1 + 1)), .d (.int .i64 132), .d (.str (labelOf l))], .d (.bool true)])) ?_ ?_ ?_ ?_
    · simp (disch := omega) only [go_sem, reduceIte, reduceDIte, reduceCtorEq, Nat.reduceBEq, Nat.reduceEqDiff, Nat.reduceAdd, Nat.reduceSub, Nat.reduceMul, Nat.reduceLT, Nat.reduceLeDiff, Nat.reduceBNe, Int.reduceNeg, Int.reduceAdd, Int.reduceSub, Int.reduceMul, Int.reduceLT, Int.reduceLE, Int.reduceGT, Int.reduceGE, Int.reduceEq, Int.reduceNe, Int.reduceToNat, Int.reduceTMod, Int.reduceTDiv, List.map_cons, List.map_nil]
      exact h19
    · simp (disch := omega) only [go_sem, reduceIte, reduceDIte, reduceCtorEq, Nat.reduceBEq, Nat.reduceEqDiff, Nat.reduceAdd, Nat.reduceSub, Nat.reduceMul, Nat.reduceLT, Nat.reduceLeDiff, Nat.reduceBNe, Int.reduceNeg, Int.reduceAdd, Int.reduceSub, Int.reduceMul, Int.reduceLT, Int.reduceLE, Int.reduceGT, Int.reduceGE, Int.reduceEq, Int.reduceNe, Int.reduceToNat, Int.reduceTMod, Int.reduceTDiv, List.map_cons, List.map_nil]
    · simp (disch := omega) only [go_sem, reduceIte, reduceDIte, reduceCtorEq, Nat.reduceBEq, Nat.reduceEqDiff, Nat.reduceAdd, Nat.reduceSub, Nat.reduceMul, Nat.reduceLT, Nat.reduceLeDiff, Nat.reduceBNe, Int.reduceNeg, Int.reduceAdd, Int.reduceSub, Int.reduceMul, Int.reduceLT, Int.reduceLE, Int.reduceGT, Int.reduceGE, Int.reduceEq, Int.reduceNe, Int.reduceToNat, Int.reduceTMod, Int.reduceTDiv]
    simp (disch := omega) only [go_sem, reduceIte, reduceDIte, reduceCtorEq, Nat.reduceBEq, Nat.reduceEqDiff, Nat.reduceAdd, Nat.reduceSub, Nat.reduceMul, Nat.reduceLT, Nat.reduceLeDiff, Nat.reduceBNe, Int.reduceNeg, Int.reduceAdd, Int.reduceSub, Int.reduceMul, Int.reduceLT, Int.reduceLE, Int.reduceGT, Int.reduceGE, Int.reduceEq, Int.reduceNe, Int.reduceToNat, Int.reduceTMod, Int.reduceTDiv]
    refine (ends13 l hsmall).at ?_
    simp (disch := omega) only [go_sem, reduceIte, reduceDIte, reduceCtorEq, Nat.reduceBEq, Nat.reduceEqDiff, Nat.reduceAdd, Nat.reduceSub, Nat.reduceMul, Nat.reduceLT, Nat.reduceLeDiff, Nat.reduceBNe, Int.reduceNeg, Int.reduceAdd, Int.reduceSub, Int.reduceMul, Int.reduceLT, Int.reduceLE, Int.reduceGT, Int.reduceGE, Int.reduceEq, Int.reduceNe, Int.reduceToNat, Int.reduceTMod, Int.reduceTDiv, e2]
    refine (index22 l hsmall q).at ?_
    simp (disch := omega) only [go_sem, reduceIte, reduceDIte, reduceCtorEq, Nat.reduceBEq, Nat.reduceEqDiff, Nat.reduceAdd, Nat.reduceSub, Nat.reduceMul, Nat.reduceLT, Nat.reduceLeDiff, Nat.reduceBNe, Int.reduceNeg, Int.reduceAdd, Int.reduceSub, Int.reduceMul, Int.reduceLT, Int.reduceLE, Int.reduceGT, Int.reduceGE, Int.reduceEq, Int.reduceNe, Int.reduceToNat, Int.reduceTMod, Int.reduceTDiv, hf'.2, beq_self_eq_true]
    refine PCall.lendAt (r := (.tuple [.agg [.d (.int .i64 0), .d (.int .i64 0), .d (.int .i64 0), .d (.int .i64 0), .d (.int .i64 0), .d (.int .i64 0), .d (.int .i64 0), .d (.str [])], .d (.bool false)])) ?_ ?_ ?_ ?_
    · simp (disch := omega) only [go_sem, reduceIte, reduceDIte, reduceCtorEq, Nat.reduceBEq, Nat.reduceEqDiff, Nat.reduceAdd, Nat.reduceSub, Nat.reduceMul, Nat.reduceLT, Nat.reduceLeDiff, Nat.reduceBNe, Int.reduceNeg, Int.reduceAdd, Int.reduceSub, Int.reduceMul, Int.reduceLT, Int.reduceLE, Int.reduceGT, Int.reduceGE, Int.reduceEq, Int.reduceNe, Int.reduceToNat, Int.reduceTMod, Int.reduceTDiv, List.map_cons, List.map_nil]
      exact h19'
    · simp (disch := omega) only [go_sem, reduceIte, reduceDIte, reduceCtorEq, Nat.reduceBEq, Nat.reduceEqDiff, Nat.reduceAdd, Nat.reduceSub, Nat.reduceMul, Nat.reduceLT, Nat.reduceLeDiff, Nat.reduceBNe, Int.reduceNeg, Int.reduceAdd, Int.reduceSub, Int.reduceMul, Int.reduceLT, Int.reduceLE, Int.reduceGT, Int.reduceGE, Int.reduceEq, Int.reduceNe, Int.reduceToNat, Int.reduceTMod, Int.reduceTDiv, List.map_cons, List.map_nil]
    · simp (disch := omega) only [go_sem, reduceIte, reduceDIte, reduceCtorEq, Nat.reduceBEq, Nat.reduceEqDiff, Nat.reduceAdd, Nat.reduceSub, Nat.reduceMul, Nat.reduceLT, Nat.reduceLeDiff, Nat.reduceBNe, Int.reduceNeg, Int.reduceAdd, Int.reduceSub, Int.reduceMul, Int.reduceLT, Int.reduceLE, Int.reduceGT, Int.reduceGE, Int.reduceEq, Int.reduceNe, Int.reduceToNat, Int.reduceTMod, Int.reduceTDiv]
    simp (disch := omega) only [go_sem, reduceIte, reduceDIte, reduceCtorEq, Nat.reduceBEq, Nat.reduceEqDiff, Nat.reduceAdd, Nat.reduceSub, Nat.reduceMul, Nat.reduceLT, Nat.reduceLeDiff, Nat.reduceBNe, Int.reduceNeg, Int.reduceAdd, Int.reduceSub, Int.reduceMul, Int.reduceLT, Int.reduceLE, Int.reduceGT, Int.reduceGE, Int.reduceEq, Int.reduceNe, Int.reduceToNat, Int.reduceTMod, Int.reduceTDiv]
    refine awake12.at ?_
    simp (disch := omega) only [go_sem, reduceIte, reduceDIte, reduceCtorEq, Nat.reduceBEq, Nat.reduceEqDiff, Nat.reduceAdd, Nat.reduceSub, Nat.reduceMul, Nat.reduceLT, Nat.reduceLeDiff, Nat.reduceBNe, Int.reduceNeg, Int.reduceAdd, Int.reduceSub, Int.reduceMul, Int.reduceLT, Int.reduceLE, Int.reduceGT, Int.reduceGE, Int.reduceEq, Int.reduceNe, Int.reduceToNat, Int.reduceTMod, Int.reduceTDiv]
  · have e1 := find_no hf
    rw [e1] at h19
    simp only [Region.av, noR, curA] at h19
    refine PCall.lendAt (r := (.tuple [.agg [.d (.int .i64 0), .d (.int .i64 0), .d (.int .i64 0), .d (.int .i64 0), .d (.int .i64 0), .d (.int .i64 0), .d (.int .i64 0), .d (.str [])], .d (.bool false)])) ?_ ?_ ?_ ?_
    · simp (disch := omega) only [go_sem, reduceIte, reduceDIte, reduceCtorEq, Nat.reduceBEq, Nat.reduceEqDiff, Nat.reduceAdd, Nat.reduceSub, Nat.reduceMul, Nat.reduceLT, Nat.reduceLeDiff, Nat.reduceBNe, Int.reduceNeg, Int.reduceAdd, Int.reduceSub, Int.reduceMul, Int.reduceLT, Int.reduceLE, Int.reduceGT, Int.reduceGE, Int.reduceEq, Int.reduceNe, Int.reduceToNat, Int.reduceTMod, Int.reduceTDiv, List.map_cons, List.map_nil]
      exact h19
    · simp (disch := omega) only [go_sem, reduceIte, reduceDIte, reduceCtorEq, Nat.reduceBEq, Nat.reduceEqDiff, Nat.reduceAdd, Nat.reduceSub, Nat.reduceMul, Nat.reduceLT, Nat.reduceLeDiff, Nat.reduceBNe, Int.reduceNeg, Int.reduceAdd, Int.reduceSub, Int.reduceMul, Int.reduceLT, Int.reduceLE, Int.reduceGT, Int.reduceGE, Int.reduceEq, Int.reduceNe, Int.reduceToNat, Int.reduceTMod, Int.reduceTDiv, List.map_cons, List.map_nil]
    · simp (disch := omega) only [go_sem, reduceIte, reduceDIte, reduceCtorEq, Nat.reduceBEq, Nat.reduceEqDiff, Nat.reduceAdd, Nat.reduceSub, Nat.reduceMul, Nat.reduceLT, Nat.reduceLeDiff, Nat.reduceBNe, Int.reduceNeg, Int.reduceAdd, Int.reduceSub, Int.reduceMul, Int.reduceLT, Int.reduceLE, Int.reduceGT, Int.reduceGE, Int.reduceEq, Int.reduceNe, Int.reduceToNat, Int.reduceTMod, Int.reduceTDiv]
    simp (disch := omega) only [go_sem, reduceIte, reduceDIte, reduceCtorEq, Nat.reduceBEq, Nat.reduceEqDiff, Nat.reduceAdd, Nat.reduceSub, Nat.reduceMul, Nat.reduceLT, Nat.reduceLeDiff, Nat.reduceBNe, Int.reduceNeg, Int.reduceAdd, Int.reduceSub, Int.reduceMul, Int.reduceLT, Int.reduceLE, Int.reduceGT, Int.reduceGE, Int.reduceEq, Int.reduceNe, Int.reduceToNat, Int.reduceTMod, Int.reduceTDiv]
    refine (ends13 l hsmall).at ?_
    by_cases h0 : 0 < ends l
    · have e2 : (0 : Int) < ends l := by omega
      have h3 : ¬ (ends l : Int) ≤ indexOf l q := fun h => hf ⟨h0, h⟩
      simp (disch := omega) only [go_sem, reduceIte, reduceDIte, reduceCtorEq, Nat.reduceBEq, Nat.reduceEqDiff, Nat.reduceAdd, Nat.reduceSub, Nat.reduceMul, Nat.reduceLT, Nat.reduceLeDiff, Nat.reduceBNe, Int.reduceNeg, Int.reduceAdd, Int.reduceSub, Int.reduceMul, Int.reduceLT, Int.reduceLE, Int.reduceGT, Int.reduceGE, Int.reduceEq, Int.reduceNe, Int.reduceToNat, Int.reduceTMod, Int.reduceTDiv, e2]
      refine (index22 l hsmall q).at ?_
      simp (disch := omega) only [go_sem, reduceIte, reduceDIte, reduceCtorEq, Nat.reduceBEq, Nat.reduceEqDiff, Nat.reduceAdd, Nat.reduceSub, Nat.reduceMul, Nat.reduceLT, Nat.reduceLeDiff, Nat.reduceBNe, Int.reduceNeg, Int.reduceAdd, Int.reduceSub, Int.reduceMul, Int.reduceLT, Int.reduceLE, Int.reduceGT, Int.reduceGE, Int.reduceEq, Int.reduceNe, Int.reduceToNat, Int.reduceTMod, Int.reduceTDiv, h3, beq_self_eq_true]
      refine PCall.lendAt (r := (.tuple [.agg [.d (.int .i64 0), .d (.int .i64 0), .d (.int .i64 0), .d (.int .i64 0), .d (.int .i64 0), .d (.int .i64 0), .d (.int .i64 0), .d (.str [])], .d (.bool false)])) ?_ ?_ ?_ ?_
      · simp (disch := omega) only [go_sem, reduceIte, reduceDIte, reduceCtorEq, Nat.reduceBEq, Nat.reduceEqDiff, Nat.reduceAdd, Nat.reduceSub, Nat.reduceMul, Nat.reduceLT, Nat.reduceLeDiff, Nat.reduceBNe, Int.reduceNeg, Int.reduceAdd, Int.reduceSub, Int.reduceMul, Int.reduceLT, Int.reduceLE, Int.reduceGT, Int.reduceGE, Int.reduceEq, Int.reduceNe, Int.reduceToNat, Int.reduceTMod, Int.reduceTDiv, List.map_cons, List.map_nil]
        exact h19'
      · simp (disch := omega) only [go_sem, reduceIte, reduceDIte, reduceCtorEq, Nat.reduceBEq, Nat.reduceEqDiff, Nat.reduceAdd, Nat.reduceSub, Nat.reduceMul, Nat.reduceLT, Nat.reduceLeDiff, Nat.reduceBNe, Int.reduceNeg, Int.reduceAdd, Int.reduceSub, Int.reduceMul, Int.reduceLT, Int.reduceLE, Int.reduceGT, Int.reduceGE, Int.reduceEq, Int.reduceNe, Int.reduceToNat, Int.reduceTMod, Int.reduceTDiv, List.map_cons, List.map_nil]
      · simp (disch := omega) only [go_sem, reduceIte, reduceDIte, reduceCtorEq, Nat.reduceBEq, Nat.reduceEqDiff, Nat.reduceAdd, Nat.reduceSub, Nat.reduceMul, Nat.reduceLT, Nat.reduceLeDiff, Nat.reduceBNe, Int.reduceNeg, Int.reduceAdd, Int.reduceSub, Int.reduceMul, Int.reduceLT, Int.reduceLE, Int.reduceGT, Int.reduceGE, Int.reduceEq, Int.reduceNe, Int.reduceToNat, Int.reduceTMod, Int.reduceTDiv]
      simp (disch := omega) only [go_sem, reduceIte, reduceDIte, reduceCtorEq, Nat.reduceBEq, Nat.reduceEqDiff, Nat.reduceAdd, Nat.reduceSub, Nat.reduceMul, Nat.reduceLT, Nat.reduceLeDiff, Nat.reduceBNe, Int.reduceNeg, Int.reduceAdd, Int.reduceSub, Int.reduceMul, Int.reduceLT, Int.reduceLE, Int.reduceGT, Int.reduceGE, Int.reduceEq, Int.reduceNe, Int.reduceToNat, Int.reduceTMod, Int.reduceTDiv]
      refine awake12.at ?_
      simp (disch := omega) only [go_sem, reduceIte, reduceDIte, reduceCtorEq, Nat.reduceBEq, Nat.reduceEqDiff, Nat.reduceAdd, Nat.reduceSub, Nat.reduceMul, Nat.reduceLT, Nat.reduceLeDiff, Nat.reduceBNe, Int.reduceNeg, Int.reduceAdd, Int.reduceSub, Int.reduceMul, Int.reduceLT, Int.reduceLE, Int.reduceGT, Int.reduceGE, Int.reduceEq, Int.reduceNe, Int.reduceToNat, Int.reduceTMod, Int.reduceTDiv]
    · have e2 : ¬ (0 : Int) < ends l := by omega
      simp (disch := omega) only [go_sem, reduceIte, reduceDIte, reduceCtorEq, Nat.reduceBEq, Nat.reduceEqDiff, Nat.reduceAdd, Nat.reduceSub, Nat.reduceMul, Nat.reduceLT, Nat.reduceLeDiff, Nat.reduceBNe, Int.reduceNeg, Int.reduceAdd, Int.reduceSub, Int.reduceMul, Int.reduceLT, Int.reduceLE, Int.reduceGT, Int.reduceGE, Int.reduceEq, Int.reduceNe, Int.reduceToNat, Int.reduceTMod, Int.reduceTDiv, e2, beq_self_eq_true]
      refine PCall.lendAt (r := (.tuple [.agg [.d (.int .i64 0), .d (.int .i64 0), .d (.int .i64 0), .d (.int .i64 0), .d (.int .i64 0), .d (.int .i64 0), .d (.int .i64 0), .d (.str [])], .d (.bool false)])) ?_ ?_ ?_ ?_
      · simp (disch := omega) only [go_sem, reduceIte, reduceDIte, reduceCtorEq, Nat.reduceBEq, Nat.reduceEqDiff, Nat.reduceAdd, Nat.reduceSub, Nat.reduceMul, Nat.reduceLT, Nat.reduceLeDiff, Nat.reduceBNe, Int.reduceNeg, Int.reduceAdd, Int.reduceSub, Int.reduceMul, Int.reduceLT, Int.reduceLE, Int.reduceGT, Int.reduceGE, Int.reduceEq, Int.reduceNe, Int.reduceToNat, Int.reduceTMod, Int.reduceTDiv, List.map_cons, List.map_nil]
        exact h19'
      · simp (disch := omega) only [go_sem, reduceIte, reduceDIte, reduceCtorEq, Nat.reduceBEq, Nat.reduceEqDiff, Nat.reduceAdd, Nat.reduceSub, Nat.reduceMul, Nat.reduceLT, Nat.reduceLeDiff, Nat.reduceBNe, Int.reduceNeg, Int.reduceAdd, Int.reduceSub, Int.reduceMul, Int.reduceLT, Int.reduceLE, Int.reduceGT, Int.reduceGE, Int.reduceEq, Int.reduceNe, Int.reduceToNat, Int.reduceTMod, Int.reduceTDiv, List.map_cons, List.map_nil]
      · simp (disch := omega) only [go_sem, reduceIte, reduceDIte, reduceCtorEq, Nat.reduceBEq, Nat.reduceEqDiff, Nat.reduceAdd, Nat.reduceSub, Nat.reduceMul, Nat.reduceLT, Nat.reduceLeDiff, Nat.reduceBNe, Int.reduceNeg, Int.reduceAdd, Int.reduceSub, Int.reduceMul, Int.reduceLT, Int.reduceLE, Int.reduceGT, Int.reduceGE, Int.reduceEq, Int.reduceNe, Int.reduceToNat, Int.reduceTMod, Int.reduceTDiv]
      simp (disch := omega) only [go_sem, reduceIte, reduceDIte, reduceCtorEq, Nat.reduceBEq, Nat.reduceEqDiff, Nat.reduceAdd, Nat.reduceSub, Nat.reduceMul, Nat.reduceLT, Nat.reduceLeDiff, Nat.reduceBNe, Int.reduceNeg, Int.reduceAdd, Int.reduceSub, Int.reduceMul, Int.reduceLT, Int.reduceLE, Int.reduceGT, Int.reduceGE, Int.reduceEq, Int.reduceNe, Int.reduceToNat, Int.reduceTMod, Int.reduceTDiv]
      refine awake12.at ?_
      simp (disch := omega) only [go_sem, reduceIte, reduceDIte, reduceCtorEq, Nat.reduceBEq, Nat.reduceEqDiff, Nat.reduceAdd, Nat.reduceSub, Nat.reduceMul, Nat.reduceLT, Nat.reduceLeDiff, Nat.reduceBNe, Int.reduceNeg, Int.reduceAdd, Int.reduceSub, Int.reduceMul, Int.reduceLT, Int.reduceLE, Int.reduceGT, Int.reduceGE, Int.reduceEq, Int.reduceNe, Int.reduceToNat, Int.reduceTMod, Int.reduceTDiv]
end Go.Proofs.Ytoenpoefcmikgaa
