/- Part of a proof about the functions of this seat. -/
import Derived.Test.YtefpcfooahogkaaDoorG20Rd35
set_option linter.unusedVariables false
set_option linter.unusedSimpArgs false
set_option maxRecDepth 100000
namespace Go.Proofs.YtefpcfooahogkaaDoor
open Go Nv Rul

/- The law RulecompileCover. -/
theorem span_get (c : List Int) (i : Nat) (h : i + 1 < c.length) : ((spans c).map spanD).getD i default = spanD (c.getD i 0, c.getD (i + 1) 0) := by
  have h1 : i < (spans c).length := by rw [spans_len]; omega
  have : ((spans c).map spanD).getD i default = spanD ((spans c).getD i default) := by
    simp only [List.getD_eq_getElem?_getD, List.getElem?_map, List.getElem?_eq_getElem h1]; rfl
  rw [this, spans_get c i h]
theorem spanD_cells (a b : Int) : (spanD (a, b)).cells = [.int .i64 a, .int .i64 b] := rfl
theorem cuts_small (l : List Rule) : (cuts l).length ≤ 2 + 2 * l.length := by
  have h1 : (Lib.compact (sortI (cutsOf l))).length ≤ (sortI (cutsOf l)).length := by
    unfold Lib.compact Lib.compactUpTo
    rw [List.length_map]
    exact Nat.le_trans (List.length_filter_le _ _) (by simp)
  rw [sortI_len, cutsOf_len] at h1
  exact h1
def hit (a : Int) (r : Rule) : Bool := decide (r.lo = a) || decide (r.hi = a)
set_option maxHeartbeats 4000000 in
theorem lawCover (aw : PCall Tryd.prog 4 [] (.d (.bool true))) (l : List Rule) (hs : Sized l) : PCall Tryd.prog 3 [.d (rulesD l)] (.d (.bool true)) := by
  refine fn3.pure noHint (Nat.le_refl _) (by simp only [go_sem, rulesD]) (by simp only [go_sem]) ?_
  by_cases h20 : (20 : Int) < l.length
  · simp (disch := omega) only [go_sem, reduceIte, reduceDIte, reduceCtorEq, Nat.reduceBEq, Nat.reduceEqDiff, Nat.reduceAdd, Nat.reduceSub, Nat.reduceMul, Nat.reduceLT, Nat.reduceLeDiff, Nat.reduceBNe, Int.reduceNeg, Int.reduceAdd, Int.reduceSub, Int.reduceMul, Int.reduceLT, Int.reduceLE, Int.reduceGT, Int.reduceGE, Int.reduceEq, Int.reduceNe, Int.reduceToNat, Int.reduceTMod, Int.reduceTDiv, rulesD, List.length_map, h20]
    refine aw.at ?_
    simp (disch := omega) only [go_sem, reduceIte, reduceDIte, reduceCtorEq, Nat.reduceBEq, Nat.reduceEqDiff, Nat.reduceAdd, Nat.reduceSub, Nat.reduceMul, Nat.reduceLT, Nat.reduceLeDiff, Nat.reduceBNe, Int.reduceNeg, Int.reduceAdd, Int.reduceSub, Int.reduceMul, Int.reduceLT, Int.reduceLE, Int.reduceGT, Int.reduceGE, Int.reduceEq, Int.reduceNe, Int.reduceToNat, Int.reduceTMod, Int.reduceTDiv]
    done
  have hb := bands5 l hs
  have hc := check6 l hs
  simp only [rulesD] at hb hc
  simp (disch := omega) only [go_sem, reduceIte, reduceDIte, reduceCtorEq, Nat.reduceBEq, Nat.reduceEqDiff, Nat.reduceAdd, Nat.reduceSub, Nat.reduceMul, Nat.reduceLT, Nat.reduceLeDiff, Nat.reduceBNe, Int.reduceNeg, Int.reduceAdd, Int.reduceSub, Int.reduceMul, Int.reduceLT, Int.reduceLE, Int.reduceGT, Int.reduceGE, Int.reduceEq, Int.reduceNe, Int.reduceToNat, Int.reduceTMod, Int.reduceTDiv, rulesD, List.length_map, h20]
  refine hb.at ?_
  simp (disch := omega) only [go_sem, reduceIte, reduceDIte, reduceCtorEq, Nat.reduceBEq, Nat.reduceEqDiff, Nat.reduceAdd, Nat.reduceSub, Nat.reduceMul, Nat.reduceLT, Nat.reduceLeDiff, Nat.reduceBNe, Int.reduceNeg, Int.reduceAdd, Int.reduceSub, Int.reduceMul, Int.reduceLT, Int.reduceLE, Int.reduceGT, Int.reduceGE, Int.reduceEq, Int.reduceNe, Int.reduceToNat, Int.reduceTMod, Int.reduceTDiv]
  refine hc.at ?_
  by_cases h0 : chkR peM l = 0
  · have e : bandsD l = .list 2 ((spans (cuts l)).map spanD) := by rw [bandsD, if_pos h0]; rfl
    rw [e, h0]
    obtain ⟨c, hcd⟩ : ∃ c, c = cuts l := ⟨_, rfl⟩
    have c2 := cuts_two l
    have csm := cuts_small l
    have cf := cuts_first h0
    have cl := cuts_last h0
    have ca := cuts_asc l
    have cw := fun (i : Nat) (hi : i + 1 < c.length) (r : Rule) (hr : r ∈ l) => whole (l := l) hr (i := i) (by rw [← hcd]; exact hi)
    have cn := fun (i : Nat) (hi : i + 1 < c.length) => needed h0 (i := i) (by rw [← hcd]; exact hi)
    rw [← hcd] at c2 cf cl ca cw cn csm ⊢
    have hsl : (spans c).length = c.length - 1 := spans_len c
    have hl0 : ((c.length - 1 : Nat) : Int) = (c.length : Int) - 1 := by omega
    simp (disch := omega) only [go_sem, reduceIte, reduceDIte, reduceCtorEq, Nat.reduceBEq, Nat.reduceEqDiff, Nat.reduceAdd, Nat.reduceSub, Nat.reduceMul, Nat.reduceLT, Nat.reduceLeDiff, Nat.reduceBNe, Int.reduceNeg, Int.reduceAdd, Int.reduceSub, Int.reduceMul, Int.reduceLT, Int.reduceLE, Int.reduceGT, Int.reduceGE, Int.reduceEq, Int.reduceNe, Int.reduceToNat, Int.reduceTMod, Int.reduceTDiv]
    refine wL_ind (fun (i : Nat) fr σ => i < c.length ∧ fr 0 = .d (.list 6 (l.map ruleD)) ∧ fr 3 = .d (.list 2 ((spans c).map spanD)) ∧ fr 4 = .d (.int .i64 (c.getD i 0)) ∧ fr 5 = .d (.int .i64 i)) (fun i => c.length - i) ?_ 0 ?_
    · rintro i fr σ ⟨hi, f0, f3, f4, f5⟩ ih
      by_cases hlt : i < (spans c).length
      · have hi1 : i + 1 < c.length := by omega
        have hg := span_get c i hi1
        have hup : ¬ c.getD (i + 1) 0 ≤ c.getD i 0 := by have := asc_get ca (show i < i + 1 by omega) hi1; omega
        simp (disch := omega) only [go_sem, reduceIte, reduceDIte, reduceCtorEq, Nat.reduceBEq, Nat.reduceEqDiff, Nat.reduceAdd, Nat.reduceSub, Nat.reduceMul, Nat.reduceLT, Nat.reduceLeDiff, Nat.reduceBNe, Int.reduceNeg, Int.reduceAdd, Int.reduceSub, Int.reduceMul, Int.reduceLT, Int.reduceLE, Int.reduceGT, Int.reduceGE, Int.reduceEq, Int.reduceNe, Int.reduceToNat, Int.reduceTMod, Int.reduceTDiv, f0, f3, f4, f5, List.length_map, hlt, hg, hup, spanD_cells]
        refine wL_ind (fun (k : Nat) fr σ => k ≤ l.length ∧ fr 0 = .d (.list 6 (l.map ruleD)) ∧ fr 3 = .d (.list 2 ((spans c).map spanD)) ∧ fr 4 = .d (.int .i64 (c.getD (i + 1) 0)) ∧ fr 5 = .d (.int .i64 i) ∧ fr 7 = .d (.int .i64 k) ∧
          fr 6 = .d (.bool (decide (c.getD (i + 1) 0 = 60) || (l.take k).any (hit (c.getD (i + 1) 0))))) (fun k => l.length - k) ?_ 0 ?_
        · rintro k fr σ ⟨hk, f0, f3, f4, f5, f7, f6⟩ ih2
          by_cases hlk : k < l.length
          · obtain ⟨r, hr⟩ : ∃ r, r = l.getD k default := ⟨_, rfl⟩
            have hgr := rule_get l k hlk
            rw [← hr] at hgr
            have hm : r ∈ l := by rw [hr]; exact rule_mem hlk
            have hw := cw i hi1 r hm
            have htk := take_rule hlk
            rw [← hr] at htk
            have hcnt : (decide (c.getD (i + 1) 0 = 60) || (l.take (k + 1)).any (hit (c.getD (i + 1) 0))) = ((decide (c.getD (i + 1) 0 = 60) || (l.take k).any (hit (c.getD (i + 1) 0))) || hit (c.getD (i + 1) 0) r) := by
              rw [htk, List.any_append]; simp [Bool.or_assoc]
            obtain ⟨nb, hnb⟩ : ∃ nb, nb = (decide (c.getD (i + 1) 0 = 60) || (l.take k).any (hit (c.getD (i + 1) 0))) := ⟨_, rfl⟩
            rw [← hnb] at f6 hcnt
            have hup2 : c.getD i 0 < c.getD (i + 1) 0 := by omega
            have hirr : ¬ c.getD (i + 1) 0 < c.getD (i + 1) 0 := by omega
            by_cases c1 : r.lo < c.getD (i + 1) 0
            · by_cases c2' : c.getD i 0 < r.hi
              · have c3 := hw c1 c2'
                have c4 : ¬ c.getD i 0 < r.lo := by omega
                have c5 : ¬ r.hi < c.getD (i + 1) 0 := by omega
                cases nb <;> by_cases d1 : r.lo = c.getD (i + 1) 0 <;> by_cases d2 : r.hi = c.getD (i + 1) 0
                all_goals first
                  | (exfalso; omega)
                  | (simp (disch := omega) only [go_sem, reduceIte, reduceDIte, reduceCtorEq, Nat.reduceBEq, Nat.reduceEqDiff, Nat.reduceAdd, Nat.reduceSub, Nat.reduceMul, Nat.reduceLT, Nat.reduceLeDiff, Nat.reduceBNe, Int.reduceNeg, Int.reduceAdd, Int.reduceSub, Int.reduceMul, Int.reduceLT, Int.reduceLE, Int.reduceGT, Int.reduceGE, Int.reduceEq, Int.reduceNe, Int.reduceToNat, Int.reduceTMod, Int.reduceTDiv, f0, f3, f4, f5, f6, f7, List.length_map, hlt, hlk, hg, hgr, ruleD_cells, spanD_cells, hup2, hirr, c1, c2', c4, c5, d1, d2]; refine ih2 (k + 1) _ _ (by omega) ⟨by omega, ?_, ?_, ?_, ?_, ?_, ?_⟩; all_goals first | (simp (disch := omega) only [go_sem, reduceIte, reduceDIte, reduceCtorEq, Nat.reduceBEq, Nat.reduceEqDiff, Nat.reduceAdd, Nat.reduceSub, Nat.reduceMul, Nat.reduceLT, Nat.reduceLeDiff, Nat.reduceBNe, Int.reduceNeg, Int.reduceAdd, Int.reduceSub, Int.reduceMul, Int.reduceLT, Int.reduceLE, Int.reduceGT, Int.reduceGE, Int.reduceEq, Int.reduceNe, Int.reduceToNat, Int.reduceTMod, Int.reduceTDiv, f0, f3, f4, f5, f6, f7]; done) | (rw [hcnt]; simp (disch := omega) only [go_sem, reduceIte, reduceDIte, reduceCtorEq, Nat.reduceBEq, Nat.reduceEqDiff, Nat.reduceAdd, Nat.reduceSub, Nat.reduceMul, Nat.reduceLT, Nat.reduceLeDiff, Nat.reduceBNe, Int.reduceNeg, Int.reduceAdd, Int.reduceSub, Int.reduceMul, Int.reduceLT, Int.reduceLE, Int.reduceGT, Int.reduceGE, Int.reduceEq, Int.reduceNe, Int.reduceToNat, Int.reduceTMod, Int.reduceTDiv, f6, hit, d1, d2]; done) | (rw [hcnt]; simp (disch := omega) only [go_sem, reduceIte, reduceDIte, reduceCtorEq, Nat.reduceBEq, Nat.reduceEqDiff, Nat.reduceAdd, Nat.reduceSub, Nat.reduceMul, Nat.reduceLT, Nat.reduceLeDiff, Nat.reduceBNe, Int.reduceNeg, Int.reduceAdd, Int.reduceSub, Int.reduceMul, Int.reduceLT, Int.reduceLE, Int.reduceGT, Int.reduceGE, Int.reduceEq, Int.reduceNe, Int.reduceToNat, Int.reduceTMod, Int.reduceTDiv, f6, hit, d1, d2]; rfl))
              · skip
                cases nb <;> by_cases d1 : r.lo = c.getD (i + 1) 0 <;> by_cases d2 : r.hi = c.getD (i + 1) 0
                all_goals first
                  | (exfalso; omega)
                  | (simp (disch := omega) only [go_sem, reduceIte, reduceDIte, reduceCtorEq, Nat.reduceBEq, Nat.reduceEqDiff, Nat.reduceAdd, Nat.reduceSub, Nat.reduceMul, Nat.reduceLT, Nat.reduceLeDiff, Nat.reduceBNe, Int.reduceNeg, Int.reduceAdd, Int.reduceSub, Int.reduceMul, Int.reduceLT, Int.reduceLE, Int.reduceGT, Int.reduceGE, Int.reduceEq, Int.reduceNe, Int.reduceToNat, Int.reduceTMod, Int.reduceTDiv, f0, f3, f4, f5, f6, f7, List.length_map, hlt, hlk, hg, hgr, ruleD_cells, spanD_cells, hup2, hirr, c1, c2', d1, d2]; refine ih2 (k + 1) _ _ (by omega) ⟨by omega, ?_, ?_, ?_, ?_, ?_, ?_⟩; all_goals first | (simp (disch := omega) only [go_sem, reduceIte, reduceDIte, reduceCtorEq, Nat.reduceBEq, Nat.reduceEqDiff, Nat.reduceAdd, Nat.reduceSub, Nat.reduceMul, Nat.reduceLT, Nat.reduceLeDiff, Nat.reduceBNe, Int.reduceNeg, Int.reduceAdd, Int.reduceSub, Int.reduceMul, Int.reduceLT, Int.reduceLE, Int.reduceGT, Int.reduceGE, Int.reduceEq, Int.reduceNe, Int.reduceToNat, Int.reduceTMod, Int.reduceTDiv, f0, f3, f4, f5, f6, f7]; done) | (rw [hcnt]; simp (disch := omega) only [go_sem, reduceIte, reduceDIte, reduceCtorEq, Nat.reduceBEq, Nat.reduceEqDiff, Nat.reduceAdd, Nat.reduceSub, Nat.reduceMul, Nat.reduceLT, Nat.reduceLeDiff, Nat.reduceBNe, Int.reduceNeg, Int.reduceAdd, Int.reduceSub, Int.reduceMul, Int.reduceLT, Int.reduceLE, Int.reduceGT, Int.reduceGE, Int.reduceEq, Int.reduceNe, Int.reduceToNat, Int.reduceTMod, Int.reduceTDiv, f6, hit, d1, d2]; done) | (rw [hcnt]; simp (disch := omega) only [go_sem, reduceIte, reduceDIte, reduceCtorEq, Nat.reduceBEq, Nat.reduceEqDiff, Nat.reduceAdd, Nat.reduceSub, Nat.reduceMul, Nat.reduceLT, Nat.reduceLeDiff, Nat.reduceBNe, Int.reduceNeg, Int.reduceAdd, Int.reduceSub, Int.reduceMul, Int.reduceLT, Int.reduceLE, Int.reduceGT, Int.reduceGE, Int.reduceEq, Int.reduceNe, Int.reduceToNat, Int.reduceTMod, Int.reduceTDiv, f6, hit, d1, d2]; rfl))
            · skip
              cases nb <;> by_cases d1 : r.lo = c.getD (i + 1) 0 <;> by_cases d2 : r.hi = c.getD (i + 1) 0
              all_goals first
                | (exfalso; omega)
                | (simp (disch := omega) only [go_sem, reduceIte, reduceDIte, reduceCtorEq, Nat.reduceBEq, Nat.reduceEqDiff, Nat.reduceAdd, Nat.reduceSub, Nat.reduceMul, Nat.reduceLT, Nat.reduceLeDiff, Nat.reduceBNe, Int.reduceNeg, Int.reduceAdd, Int.reduceSub, Int.reduceMul, Int.reduceLT, Int.reduceLE, Int.reduceGT, Int.reduceGE, Int.reduceEq, Int.reduceNe, Int.reduceToNat, Int.reduceTMod, Int.reduceTDiv, f0, f3, f4, f5, f6, f7, List.length_map, hlt, hlk, hg, hgr, ruleD_cells, spanD_cells, hup2, hirr, c1, d1, d2]; refine ih2 (k + 1) _ _ (by omega) ⟨by omega, ?_, ?_, ?_, ?_, ?_, ?_⟩; all_goals first | (simp (disch := omega) only [go_sem, reduceIte, reduceDIte, reduceCtorEq, Nat.reduceBEq, Nat.reduceEqDiff, Nat.reduceAdd, Nat.reduceSub, Nat.reduceMul, Nat.reduceLT, Nat.reduceLeDiff, Nat.reduceBNe, Int.reduceNeg, Int.reduceAdd, Int.reduceSub, Int.reduceMul, Int.reduceLT, Int.reduceLE, Int.reduceGT, Int.reduceGE, Int.reduceEq, Int.reduceNe, Int.reduceToNat, Int.reduceTMod, Int.reduceTDiv, f0, f3, f4, f5, f6, f7]; done) | (rw [hcnt]; simp (disch := omega) only [go_sem, reduceIte, reduceDIte, reduceCtorEq, Nat.reduceBEq, Nat.reduceEqDiff, Nat.reduceAdd, Nat.reduceSub, Nat.reduceMul, Nat.reduceLT, Nat.reduceLeDiff, Nat.reduceBNe, Int.reduceNeg, Int.reduceAdd, Int.reduceSub, Int.reduceMul, Int.reduceLT, Int.reduceLE, Int.reduceGT, Int.reduceGE, Int.reduceEq, Int.reduceNe, Int.reduceToNat, Int.reduceTMod, Int.reduceTDiv, f6, hit, d1, d2]; done) | (rw [hcnt]; simp (disch := omega) only [go_sem, reduceIte, reduceDIte, reduceCtorEq, Nat.reduceBEq, Nat.reduceEqDiff, Nat.reduceAdd, Nat.reduceSub, Nat.reduceMul, Nat.reduceLT, Nat.reduceLeDiff, Nat.reduceBNe, Int.reduceNeg, Int.reduceAdd, Int.reduceSub, Int.reduceMul, Int.reduceLT, Int.reduceLE, Int.reduceGT, Int.reduceGE, Int.reduceEq, Int.reduceNe, Int.reduceToNat, Int.reduceTMod, Int.reduceTDiv, f6, hit, d1, d2]; rfl))
          · have hkl : k = l.length := by omega
            have hdone : (decide (c.getD (i + 1) 0 = 60) || (l.take k).any (hit (c.getD (i + 1) 0))) = true := by
              rw [hkl, List.take_length]
              rcases cn i hi1 with h | ⟨r, hr, h⟩
              · rw [decide_eq_true h]; rfl
              · rw [Bool.or_eq_true]; right
                rw [List.any_eq_true]
                exact ⟨r, hr, by simp only [hit, Bool.or_eq_true, decide_eq_true_eq]; exact h⟩
            rw [hdone] at f6
            simp (disch := omega) only [go_sem, reduceIte, reduceDIte, reduceCtorEq, Nat.reduceBEq, Nat.reduceEqDiff, Nat.reduceAdd, Nat.reduceSub, Nat.reduceMul, Nat.reduceLT, Nat.reduceLeDiff, Nat.reduceBNe, Int.reduceNeg, Int.reduceAdd, Int.reduceSub, Int.reduceMul, Int.reduceLT, Int.reduceLE, Int.reduceGT, Int.reduceGE, Int.reduceEq, Int.reduceNe, Int.reduceToNat, Int.reduceTMod, Int.reduceTDiv, f0, f3, f4, f5, f6, f7, List.length_map, hlk]
            refine ih (i + 1) _ _ (by omega) ⟨by omega, ?_, ?_, ?_, ?_⟩ <;> simp (disch := omega) only [go_sem, reduceIte, reduceDIte, reduceCtorEq, Nat.reduceBEq, Nat.reduceEqDiff, Nat.reduceAdd, Nat.reduceSub, Nat.reduceMul, Nat.reduceLT, Nat.reduceLeDiff, Nat.reduceBNe, Int.reduceNeg, Int.reduceAdd, Int.reduceSub, Int.reduceMul, Int.reduceLT, Int.reduceLE, Int.reduceGT, Int.reduceGE, Int.reduceEq, Int.reduceNe, Int.reduceToNat, Int.reduceTMod, Int.reduceTDiv, f0, f3, f4, f5]
        · refine ⟨by omega, ?_, ?_, ?_, ?_, ?_, ?_⟩ <;> first | (simp (disch := omega) only [go_sem, reduceIte, reduceDIte, reduceCtorEq, Nat.reduceBEq, Nat.reduceEqDiff, Nat.reduceAdd, Nat.reduceSub, Nat.reduceMul, Nat.reduceLT, Nat.reduceLeDiff, Nat.reduceBNe, Int.reduceNeg, Int.reduceAdd, Int.reduceSub, Int.reduceMul, Int.reduceLT, Int.reduceLE, Int.reduceGT, Int.reduceGE, Int.reduceEq, Int.reduceNe, Int.reduceToNat, Int.reduceTMod, Int.reduceTDiv, f0, f3, f4, f5]; done) | (simp (disch := omega) only [go_sem, reduceIte, reduceDIte, reduceCtorEq, Nat.reduceBEq, Nat.reduceEqDiff, Nat.reduceAdd, Nat.reduceSub, Nat.reduceMul, Nat.reduceLT, Nat.reduceLeDiff, Nat.reduceBNe, Int.reduceNeg, Int.reduceAdd, Int.reduceSub, Int.reduceMul, Int.reduceLT, Int.reduceLE, Int.reduceGT, Int.reduceGE, Int.reduceEq, Int.reduceNe, Int.reduceToNat, Int.reduceTMod, Int.reduceTDiv, f0, f3, f4, f5]; rfl) | (simp (disch := omega) only [go_sem, reduceIte, reduceDIte, reduceCtorEq, Nat.reduceBEq, Nat.reduceEqDiff, Nat.reduceAdd, Nat.reduceSub, Nat.reduceMul, Nat.reduceLT, Nat.reduceLeDiff, Nat.reduceBNe, Int.reduceNeg, Int.reduceAdd, Int.reduceSub, Int.reduceMul, Int.reduceLT, Int.reduceLE, Int.reduceGT, Int.reduceGE, Int.reduceEq, Int.reduceNe, Int.reduceToNat, Int.reduceTMod, Int.reduceTDiv, f0, f3, f4, f5]; simp; done)
      · have hic : i = c.length - 1 := by omega
        rw [hic, cl] at f4
        simp (disch := omega) only [go_sem, reduceIte, reduceDIte, reduceCtorEq, Nat.reduceBEq, Nat.reduceEqDiff, Nat.reduceAdd, Nat.reduceSub, Nat.reduceMul, Nat.reduceLT, Nat.reduceLeDiff, Nat.reduceBNe, Int.reduceNeg, Int.reduceAdd, Int.reduceSub, Int.reduceMul, Int.reduceLT, Int.reduceLE, Int.reduceGT, Int.reduceGE, Int.reduceEq, Int.reduceNe, Int.reduceToNat, Int.reduceTMod, Int.reduceTDiv, f0, f3, f4, f5, List.length_map, hlt]
        refine aw.at ?_
        simp (disch := omega) only [go_sem, reduceIte, reduceDIte, reduceCtorEq, Nat.reduceBEq, Nat.reduceEqDiff, Nat.reduceAdd, Nat.reduceSub, Nat.reduceMul, Nat.reduceLT, Nat.reduceLeDiff, Nat.reduceBNe, Int.reduceNeg, Int.reduceAdd, Int.reduceSub, Int.reduceMul, Int.reduceLT, Int.reduceLE, Int.reduceGT, Int.reduceGE, Int.reduceEq, Int.reduceNe, Int.reduceToNat, Int.reduceTMod, Int.reduceTDiv]
    · refine ⟨by omega, ?_, ?_, ?_, ?_⟩ <;> first | (simp (disch := omega) only [go_sem, reduceIte, reduceDIte, reduceCtorEq, Nat.reduceBEq, Nat.reduceEqDiff, Nat.reduceAdd, Nat.reduceSub, Nat.reduceMul, Nat.reduceLT, Nat.reduceLeDiff, Nat.reduceBNe, Int.reduceNeg, Int.reduceAdd, Int.reduceSub, Int.reduceMul, Int.reduceLT, Int.reduceLE, Int.reduceGT, Int.reduceGE, Int.reduceEq, Int.reduceNe, Int.reduceToNat, Int.reduceTMod, Int.reduceTDiv, cf]; done) | (simp (disch := omega) only [go_sem, reduceIte, reduceDIte, reduceCtorEq, Nat.reduceBEq, Nat.reduceEqDiff, Nat.reduceAdd, Nat.reduceSub, Nat.reduceMul, Nat.reduceLT, Nat.reduceLeDiff, Nat.reduceBNe, Int.reduceNeg, Int.reduceAdd, Int.reduceSub, Int.reduceMul, Int.reduceLT, Int.reduceLE, Int.reduceGT, Int.reduceGE, Int.reduceEq, Int.reduceNe, Int.reduceToNat, Int.reduceTMod, Int.reduceTDiv, cf]; rfl)
  · have e : bandsD l = .nilslice := by rw [bandsD, if_neg h0]
    simp (disch := omega) only [go_sem, reduceIte, reduceDIte, reduceCtorEq, Nat.reduceBEq, Nat.reduceEqDiff, Nat.reduceAdd, Nat.reduceSub, Nat.reduceMul, Nat.reduceLT, Nat.reduceLeDiff, Nat.reduceBNe, Int.reduceNeg, Int.reduceAdd, Int.reduceSub, Int.reduceMul, Int.reduceLT, Int.reduceLE, Int.reduceGT, Int.reduceGE, Int.reduceEq, Int.reduceNe, Int.reduceToNat, Int.reduceTMod, Int.reduceTDiv, h0, e]
    refine aw.at ?_
    simp (disch := omega) only [go_sem, reduceIte, reduceDIte, reduceCtorEq, Nat.reduceBEq, Nat.reduceEqDiff, Nat.reduceAdd, Nat.reduceSub, Nat.reduceMul, Nat.reduceLT, Nat.reduceLeDiff, Nat.reduceBNe, Int.reduceNeg, Int.reduceAdd, Int.reduceSub, Int.reduceMul, Int.reduceLT, Int.reduceLE, Int.reduceGT, Int.reduceGE, Int.reduceEq, Int.reduceNe, Int.reduceToNat, Int.reduceTMod, Int.reduceTDiv]
end Go.Proofs.YtefpcfooahogkaaDoor
