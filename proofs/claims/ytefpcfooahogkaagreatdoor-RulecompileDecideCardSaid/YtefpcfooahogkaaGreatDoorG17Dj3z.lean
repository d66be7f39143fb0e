/- Part of a proof about the functions of this seat. -/
import Derived.Test.YtefpcfooahogkaaGreatDoorG16Df3z
set_option linter.unusedVariables false
set_option linter.unusedSimpArgs false
set_option maxRecDepth 100000
namespace Go.Proofs.YtefpcfooahogkaaGreatDoor
open Go Nv Pat Dfa

theorem step28 (d : D) (hf : Fair d) (s : Nat) (hs : s < d.arcs.length) (r : Int) : PCall Tryz.prog 28 [dfaA d, .d (.int .i64 s), .d (.int .i32 r)] (.d (.int .i64 (stepL (d.arcs.getD s default) r))) := by
  refine fn28.pure noHint (Nat.le_refl _) (by simp only [go_sem, dfaA, dfaF, statesD, labelsD]) (by simp only [go_sem]) ?_
  obtain ⟨l, hl⟩ : ∃ l, l = d.arcs.getD s default := ⟨_, rfl⟩
  have hg := map_getD arcsD d.arcs s hs
  have hln := hf.arcs (d.arcs.getD s default) (rows_mem hs)
  have hr := hf.rows
  rw [← hl] at hg hln ⊢
  simp (disch := omega) only [go_sem, reduceIte, reduceCtorEq, Nat.reduceBEq, Nat.reduceEqDiff, Nat.reduceAdd, Nat.reduceLT, Nat.reduceLeDiff, Int.reduceNeg, Int.reduceAdd, Int.reduceLT, Int.reduceLE, Int.reduceEq, Int.reduceNe, dfaA, dfaF, statesD, labelsD]
  refine wL_ind (fun (j : Nat) fr σ => j ≤ l.length ∧ fr 1 = .d (.int .i64 s) ∧ fr 2 = .d (.int .i32 r) ∧ fr 3 = .ptr 0 0 ∧ fr 7 = .d (.int .i64 j) ∧ σ = [.box 29 (dfaF d)] ∧ stepL l r = stepL (l.drop j) r) (fun j => l.length - j) ?_ 0 ?_
  · rintro j fr σ ⟨hj, f1, f2, f3, f7, rfl, hst⟩ ih
    by_cases hlt : j < l.length
    · obtain ⟨a, ha⟩ : ∃ a, a = l.getD j default := ⟨_, rfl⟩
      have hga := map_getD arcD l j hlt
      rw [← ha] at hga
      rw [arc_drop hlt, ← ha, stepL] at hst
      by_cases c1 : a.lo ≤ r
      · by_cases c2 : r ≤ a.hi
        · rw [if_pos ⟨c1, c2⟩] at hst
          simp (disch := omega) only [go_sem, reduceIte, reduceCtorEq, Nat.reduceBEq, Nat.reduceEqDiff, Nat.reduceAdd, Nat.reduceLT, Nat.reduceLeDiff, Int.reduceNeg, Int.reduceAdd, Int.reduceLT, Int.reduceLE, Int.reduceEq, Int.reduceNe, f1, f2, f3, f7, dfaF, statesD, labelsD, arcsD, List.length_map, hs, hg, hlt, hga, arcD_cells, list_cells, c1, c2, hst]
        · rw [if_neg (fun h => c2 h.2)] at hst
          simp (disch := omega) only [go_sem, reduceIte, reduceCtorEq, Nat.reduceBEq, Nat.reduceEqDiff, Nat.reduceAdd, Nat.reduceLT, Nat.reduceLeDiff, Int.reduceNeg, Int.reduceAdd, Int.reduceLT, Int.reduceLE, Int.reduceEq, Int.reduceNe, f1, f2, f3, f7, dfaF, statesD, labelsD, arcsD, List.length_map, hs, hg, hlt, hga, arcD_cells, list_cells, c1, c2]
          refine ih (j + 1) _ _ (by omega) ⟨by omega, ?_, ?_, ?_, ?_, ?_, hst⟩
          all_goals first | (simp (disch := omega) only [go_sem, reduceIte, reduceCtorEq, Nat.reduceBEq, Nat.reduceEqDiff, Nat.reduceAdd, Nat.reduceLT, Nat.reduceLeDiff, Int.reduceNeg, Int.reduceAdd, Int.reduceLT, Int.reduceLE, Int.reduceEq, Int.reduceNe, f1, f2, f3, f7, dfaF, statesD, labelsD]; done) | rfl
      · rw [if_neg (fun h => c1 h.1)] at hst
        simp (disch := omega) only [go_sem, reduceIte, reduceCtorEq, Nat.reduceBEq, Nat.reduceEqDiff, Nat.reduceAdd, Nat.reduceLT, Nat.reduceLeDiff, Int.reduceNeg, Int.reduceAdd, Int.reduceLT, Int.reduceLE, Int.reduceEq, Int.reduceNe, f1, f2, f3, f7, dfaF, statesD, labelsD, arcsD, List.length_map, hs, hg, hlt, hga, arcD_cells, list_cells, c1]
        refine ih (j + 1) _ _ (by omega) ⟨by omega, ?_, ?_, ?_, ?_, ?_, hst⟩
        all_goals first | (simp (disch := omega) only [go_sem, reduceIte, reduceCtorEq, Nat.reduceBEq, Nat.reduceEqDiff, Nat.reduceAdd, Nat.reduceLT, Nat.reduceLeDiff, Int.reduceNeg, Int.reduceAdd, Int.reduceLT, Int.reduceLE, Int.reduceEq, Int.reduceNe, f1, f2, f3, f7, dfaF, statesD, labelsD]; done) | rfl
    · rw [List.drop_eq_nil_of_le (by omega), stepL] at hst
      simp (disch := omega) only [go_sem, reduceIte, reduceCtorEq, Nat.reduceBEq, Nat.reduceEqDiff, Nat.reduceAdd, Nat.reduceLT, Nat.reduceLeDiff, Int.reduceNeg, Int.reduceAdd, Int.reduceLT, Int.reduceLE, Int.reduceEq, Int.reduceNe, f1, f2, f3, f7, dfaF, statesD, labelsD, arcsD, List.length_map, hs, hg, hlt, list_cells, hst]
  · refine ⟨by omega, ?_, ?_, ?_, ?_, ?_, rfl⟩
    all_goals first | (simp (disch := omega) only [go_sem, reduceIte, reduceCtorEq, Nat.reduceBEq, Nat.reduceEqDiff, Nat.reduceAdd, Nat.reduceLT, Nat.reduceLeDiff, Int.reduceNeg, Int.reduceAdd, Int.reduceLT, Int.reduceLE, Int.reduceEq, Int.reduceNe, dfaF, statesD, labelsD]; done) | rfl
end Go.Proofs.YtefpcfooahogkaaGreatDoor
set_option linter.unusedVariables false
set_option linter.unusedSimpArgs false
set_option maxRecDepth 100000
namespace Go.Proofs.YtefpcfooahogkaaGreatDoor
open Go Nv Pat Dfa

theorem run14 (d : D) (hf : Fair d) (hk : chkD d = 0) (t : List UInt8) (ht : t.length ≤ 10000) : PCall Tryz.prog 14 [dfaA d, .d (.str t)] (.d (.int .i64 (runFrom d d.start (finM t)))) := by
  refine fn14.pure noHint (Nat.le_refl _) (by simp only [go_sem, dfaA, dfaF, statesD, labelsD]) (by simp only [go_sem]) ?_
  have hr := hf.rows
  have hlb := hf.labels
  obtain ⟨k1, k2, k3, k4⟩ := ok_facts hk
  have hfl := fin_len t
  have hdl := dec_len t
  refine wW_cut (fun fr σ => fr 2 = .ptr 0 0 ∧ fr 1 = .d (.str t) ∧ σ = [.box 29 (dfaF d)]) ?_ ?_
  · simp (disch := omega) only [go_sem, reduceIte, reduceDIte, reduceCtorEq, Nat.reduceBEq, Nat.reduceEqDiff, Nat.reduceAdd, Nat.reduceSub, Nat.reduceMul, Nat.reduceLT, Nat.reduceLeDiff, Nat.reduceBNe, Int.reduceNeg, Int.reduceAdd, Int.reduceSub, Int.reduceMul, Int.reduceLT, Int.reduceLE, Int.reduceGT, Int.reduceGE, Int.reduceEq, Int.reduceNe, Int.reduceToNat, Int.reduceTMod, Int.reduceTDiv, dfaA, dfaF, statesD, labelsD]
  rintro fr σ ⟨f2, f1, rfl⟩
  refine wW_cut (fun fr σ => fr 2 = .ptr 0 0 ∧ ∃ g τ, fr 5 = .own 1 g 0 (decM t).out.length ∧ fr 6 = .d (.str (restM t)) ∧ σ = .box 29 (dfaF d) :: .arr g ⟨1, 21⟩ (runesD (decM t).out) :: τ) ?_ ?_
  · simp (disch := omega) only [go_sem, reduceIte, reduceDIte, reduceCtorEq, Nat.reduceBEq, Nat.reduceEqDiff, Nat.reduceAdd, Nat.reduceSub, Nat.reduceMul, Nat.reduceLT, Nat.reduceLeDiff, Nat.reduceBNe, Int.reduceNeg, Int.reduceAdd, Int.reduceSub, Int.reduceMul, Int.reduceLT, Int.reduceLE, Int.reduceGT, Int.reduceGE, Int.reduceEq, Int.reduceNe, Int.reduceToNat, Int.reduceTMod, Int.reduceTDiv, f1]
    refine (decode53 t _ ht).at ?_
    rintro v σ' ⟨g, n, τ, hn, rfl, rfl⟩
    simp (disch := omega) only [go_sem, reduceIte, reduceDIte, reduceCtorEq, Nat.reduceBEq, Nat.reduceEqDiff, Nat.reduceAdd, Nat.reduceSub, Nat.reduceMul, Nat.reduceLT, Nat.reduceLeDiff, Nat.reduceBNe, Int.reduceNeg, Int.reduceAdd, Int.reduceSub, Int.reduceMul, Int.reduceLT, Int.reduceLE, Int.reduceGT, Int.reduceGE, Int.reduceEq, Int.reduceNe, Int.reduceToNat, Int.reduceTMod, Int.reduceTDiv, f2]
    exact ⟨g, τ, by rw [hn], rfl⟩
  rintro fr σ ⟨f2, g, τ, f5, f6, rfl⟩
  refine wW_cut (fun fr σ => fr 2 = .ptr 0 0 ∧ ∃ g τ, fr 5 = .own 1 g 0 (finM t).length ∧ σ = .box 29 (dfaF d) :: .arr g ⟨1, 21⟩ (runesD (finM t)) :: τ) ?_ ?_
  · have hn2 : ((decM t).out.length + 1) * 4 ≤ 140737488355328 := by omega
    have hta := take_all (runesD (decM t).out) (decM t).out.length (by rw [runesD_length])
    by_cases h : restM t = []
    · have e : finM t = (decM t).out := by rw [finM, if_pos h, List.append_nil]
      simp (disch := omega) only [go_sem, reduceIte, reduceDIte, reduceCtorEq, Nat.reduceBEq, Nat.reduceEqDiff, Nat.reduceAdd, Nat.reduceSub, Nat.reduceMul, Nat.reduceLT, Nat.reduceLeDiff, Nat.reduceBNe, Int.reduceNeg, Int.reduceAdd, Int.reduceSub, Int.reduceMul, Int.reduceLT, Int.reduceLE, Int.reduceGT, Int.reduceGE, Int.reduceEq, Int.reduceNe, Int.reduceToNat, Int.reduceTMod, Int.reduceTDiv, f2, f5, f6, h, e]
      exact ⟨g, τ, rfl, rfl⟩
    · have e : finM t = (decM t).out ++ [65533] := by rw [finM, if_neg h]
      have e2 : runesD (finM t) = runesD (decM t).out ++ [.int .i32 65533] := by rw [e]; simp [runesD]
      simp (disch := omega) only [go_sem, reduceIte, reduceDIte, reduceCtorEq, Nat.reduceBEq, Nat.reduceEqDiff, Nat.reduceAdd, Nat.reduceSub, Nat.reduceMul, Nat.reduceLT, Nat.reduceLeDiff, Nat.reduceBNe, Int.reduceNeg, Int.reduceAdd, Int.reduceSub, Int.reduceMul, Int.reduceLT, Int.reduceLE, Int.reduceGT, Int.reduceGE, Int.reduceEq, Int.reduceNe, Int.reduceToNat, Int.reduceTMod, Int.reduceTDiv, f2, f5, f6, h, hn2, hta, runesD_length, Nat.zero_add, Nat.le_refl, List.append_assoc, List.cons_append, List.nil_append, List.length_append, stGet_app, stGet_app0, stSet_app, stSet_app0]
      refine ⟨g + 1, ?tt, ?aa, ?bb⟩
      case bb => rw [e2]
      case aa => rw [e]; simp
  rintro fr σ ⟨f2, g, τ, f5, rfl⟩
  obtain ⟨rs, hrs⟩ : ∃ rs, rs = finM t := ⟨_, rfl⟩
  rw [← hrs] at f5 hfl ⊢
  simp (disch := omega) only [go_sem, reduceIte, reduceDIte, reduceCtorEq, Nat.reduceBEq, Nat.reduceEqDiff, Nat.reduceAdd, Nat.reduceSub, Nat.reduceMul, Nat.reduceLT, Nat.reduceLeDiff, Nat.reduceBNe, Int.reduceNeg, Int.reduceAdd, Int.reduceSub, Int.reduceMul, Int.reduceLT, Int.reduceLE, Int.reduceGT, Int.reduceGE, Int.reduceEq, Int.reduceNe, Int.reduceToNat, Int.reduceTMod, Int.reduceTDiv, f2, dfaF, statesD, labelsD]
  refine wL_ind (fun (j : Nat) fr σ => j ≤ rs.length ∧ fr 2 = .ptr 0 0 ∧ fr 5 = .own 1 g 0 rs.length ∧ fr 8 = .d (.int .i64 j) ∧ σ = .box 29 (dfaF d) :: .arr g ⟨1, 21⟩ (runesD rs) :: τ ∧
    ∃ s : Nat, s < d.arcs.length ∧ fr 7 = .d (.int .i64 s) ∧ runFrom d d.start rs = runFrom d s (rs.drop j)) (fun j => rs.length - j) ?_ 0 ?_
  · rintro j fr σ ⟨hj, f2, f5, f8, rfl, s, hs, f7, hrun⟩ ih
    have hls : s < d.labels.length := by omega
    have hg2 := map_getD (DV.int .i64) d.labels s hls
    by_cases hlt : j < rs.length
    · obtain ⟨r, hr0⟩ : ∃ r, r = rs.getD j 0 := ⟨_, rfl⟩
      have hgr := runes_get rs j hlt
      rw [← hr0] at hgr
      have hdr : rs.drop j = r :: rs.drop (j + 1) := by rw [List.drop_eq_getElem_cons hlt, hr0]; simp [List.getD_eq_getElem?_getD, hlt]
      obtain ⟨l, hl⟩ : ∃ l, l = d.arcs.getD s default := ⟨_, rfl⟩
      have hok := row_ok hk hs
      have hst := step28 d hf s hs r
      rw [← hl] at hok hst
      simp only [dfaA, dfaF, statesD, labelsD] at hst
      rw [hdr, run_cons, show ((s : Int)).toNat = s by omega, show d.arcs.getD s [] = l from hl.symm] at hrun
      simp (disch := omega) only [go_sem, reduceIte, reduceDIte, reduceCtorEq, Nat.reduceBEq, Nat.reduceEqDiff, Nat.reduceAdd, Nat.reduceSub, Nat.reduceMul, Nat.reduceLT, Nat.reduceLeDiff, Nat.reduceBNe, Int.reduceNeg, Int.reduceAdd, Int.reduceSub, Int.reduceMul, Int.reduceLT, Int.reduceLE, Int.reduceGT, Int.reduceGE, Int.reduceEq, Int.reduceNe, Int.reduceToNat, Int.reduceTMod, Int.reduceTDiv, f2, f5, f8, f7, hlt, runesD_length, hgr, rune_cells, dfaF, statesD, labelsD, Nat.zero_add]
      refine hst.dat ?_
      rcases step_range l none hok r with h1 | h1
      · rw [h1, if_pos (by decide)] at hrun
        rw [h1]
        simp (disch := omega) only [go_sem, reduceIte, reduceDIte, reduceCtorEq, Nat.reduceBEq, Nat.reduceEqDiff, Nat.reduceAdd, Nat.reduceSub, Nat.reduceMul, Nat.reduceLT, Nat.reduceLeDiff, Nat.reduceBNe, Int.reduceNeg, Int.reduceAdd, Int.reduceSub, Int.reduceMul, Int.reduceLT, Int.reduceLE, Int.reduceGT, Int.reduceGE, Int.reduceEq, Int.reduceNe, Int.reduceToNat, Int.reduceTMod, Int.reduceTDiv, hrun]
      · obtain ⟨u, hu⟩ : ∃ u : Nat, stepL l r = u := ⟨(stepL l r).toNat, by omega⟩
        rw [hu] at hrun h1 ⊢
        rw [if_neg (by omega)] at hrun
        have hne : ¬ (u : Int) < 0 := by omega
        simp (disch := omega) only [go_sem, reduceIte, reduceDIte, reduceCtorEq, Nat.reduceBEq, Nat.reduceEqDiff, Nat.reduceAdd, Nat.reduceSub, Nat.reduceMul, Nat.reduceLT, Nat.reduceLeDiff, Nat.reduceBNe, Int.reduceNeg, Int.reduceAdd, Int.reduceSub, Int.reduceMul, Int.reduceLT, Int.reduceLE, Int.reduceGT, Int.reduceGE, Int.reduceEq, Int.reduceNe, Int.reduceToNat, Int.reduceTMod, Int.reduceTDiv, hne, f8]
        refine ih (j + 1) _ _ (by omega) ⟨by omega, ?_, ?_, ?_, ?_, u, by omega, ?_, hrun⟩
        all_goals first | (simp (disch := omega) only [go_sem, reduceIte, reduceDIte, reduceCtorEq, Nat.reduceBEq, Nat.reduceEqDiff, Nat.reduceAdd, Nat.reduceSub, Nat.reduceMul, Nat.reduceLT, Nat.reduceLeDiff, Nat.reduceBNe, Int.reduceNeg, Int.reduceAdd, Int.reduceSub, Int.reduceMul, Int.reduceLT, Int.reduceLE, Int.reduceGT, Int.reduceGE, Int.reduceEq, Int.reduceNe, Int.reduceToNat, Int.reduceTMod, Int.reduceTDiv, f2, f5, f8, dfaF, statesD, labelsD]; done) | rfl
    · rw [List.drop_eq_nil_of_le (by omega)] at hrun
      have e : runFrom d s [] = d.labels.getD s default := by simp only [runFrom, Int.toNat_natCast]; rfl
      simp (disch := omega) only [go_sem, reduceIte, reduceDIte, reduceCtorEq, Nat.reduceBEq, Nat.reduceEqDiff, Nat.reduceAdd, Nat.reduceSub, Nat.reduceMul, Nat.reduceLT, Nat.reduceLeDiff, Nat.reduceBNe, Int.reduceNeg, Int.reduceAdd, Int.reduceSub, Int.reduceMul, Int.reduceLT, Int.reduceLE, Int.reduceGT, Int.reduceGE, Int.reduceEq, Int.reduceNe, Int.reduceToNat, Int.reduceTMod, Int.reduceTDiv, f2, f5, f8, f7, hlt, dfaF, statesD, labelsD, List.length_map, hls, hg2, i64_cells, hrun, e]
  · obtain ⟨s, hs⟩ : ∃ s : Nat, d.start = s := ⟨d.start.toNat, by omega⟩
    refine ⟨by omega, ?_, ?_, ?_, ?_, s, by omega, ?_, by rw [hs]; rfl⟩
    all_goals first | (simp (disch := omega) only [go_sem, reduceIte, reduceDIte, reduceCtorEq, Nat.reduceBEq, Nat.reduceEqDiff, Nat.reduceAdd, Nat.reduceSub, Nat.reduceMul, Nat.reduceLT, Nat.reduceLeDiff, Nat.reduceBNe, Int.reduceNeg, Int.reduceAdd, Int.reduceSub, Int.reduceMul, Int.reduceLT, Int.reduceLE, Int.reduceGT, Int.reduceGE, Int.reduceEq, Int.reduceNe, Int.reduceToNat, Int.reduceTMod, Int.reduceTDiv, f2, f5, hs, dfaF, statesD, labelsD]; done) | (simp (disch := omega) only [go_sem, reduceIte, reduceDIte, reduceCtorEq, Nat.reduceBEq, Nat.reduceEqDiff, Nat.reduceAdd, Nat.reduceSub, Nat.reduceMul, Nat.reduceLT, Nat.reduceLeDiff, Nat.reduceBNe, Int.reduceNeg, Int.reduceAdd, Int.reduceSub, Int.reduceMul, Int.reduceLT, Int.reduceLE, Int.reduceGT, Int.reduceGE, Int.reduceEq, Int.reduceNe, Int.reduceToNat, Int.reduceTMod, Int.reduceTDiv, f2, f5]; rfl) | rfl
end Go.Proofs.YtefpcfooahogkaaGreatDoor
set_option linter.unusedVariables false
set_option linter.unusedSimpArgs false
set_option maxRecDepth 100000
namespace Go.Proofs.YtefpcfooahogkaaGreatDoor
open Go Nv Pat Dfa

/- Decide, the program's and the reference's; the law. -/
def bandD (b : Int × Int) : DV := .agg [.int .i64 b.1, .int .i64 b.2]
def bandsL (l : List (Int × Int)) : DV := .list 2 (l.map bandD)
def dfaD (d : D) : DV := .agg [.int .i64 d.start, statesD d.arcs, labelsD d.labels]
def dfasD (l : List D) : DV := .list 3 (l.map dfaD)
theorem bandD_cells (b : Int × Int) : (bandD b).cells = [.int .i64 b.1, .int .i64 b.2] := rfl
theorem dfaD_cells (d : D) : (dfaD d).cells = [.int .i64 d.start, statesD d.arcs, labelsD d.labels] := rfl
def ansD (d : D) (t : List UInt8) : Int := if chkD d = 0 then runFrom d d.start (finM t) else -1
def decideF (row : Int) (t : List UInt8) : List (Int × Int) → List D → Int
  | b :: bs, d :: ds => if b.1 ≤ row ∧ row < b.2 then ansD d t else decideF row t bs ds
  | _, _ => -1
def decideD (bs : List (Int × Int)) (ds : List D) (row : Int) (t : List UInt8) : Int := if bs.length = ds.length then decideF row t bs ds else -1
theorem decide6 (bs : List (Int × Int)) (ds : List D) (row : Int) (t : List UInt8) (hb : bs.length ≤ 1000000) (hd : ∀ d, d ∈ ds → Fair d) (ht : t.length ≤ 10000) :
    PCall Tryz.prog 6 [.d (bandsL bs), .d (dfasD ds), .d (.int .i64 row), .d (.str t)] (.d (.int .i64 (decideD bs ds row t))) := by
  refine fn6.pure noHint (Nat.le_refl _) (by simp only [go_sem, bandsL, dfasD]) (by simp only [go_sem]) ?_
  by_cases hn : bs.length = ds.length
  case neg =>
    have e : decideD bs ds row t = -1 := by rw [decideD, if_neg hn]
    have hn' : ¬ (bs.length : Int) = ds.length := by omega
    simp (disch := omega) only [go_sem, reduceIte, reduceCtorEq, Nat.reduceBEq, Nat.reduceEqDiff, Nat.reduceAdd, Nat.reduceLT, Nat.reduceLeDiff, Int.reduceNeg, Int.reduceAdd, Int.reduceLT, Int.reduceLE, Int.reduceEq, Int.reduceNe, bandsL, dfasD, List.length_map, hn, hn', e]
    done
  have e : decideD bs ds row t = decideF row t bs ds := by rw [decideD, if_pos hn]
  rw [e]
  simp (disch := omega) only [go_sem, reduceIte, reduceCtorEq, Nat.reduceBEq, Nat.reduceEqDiff, Nat.reduceAdd, Nat.reduceLT, Nat.reduceLeDiff, Int.reduceNeg, Int.reduceAdd, Int.reduceLT, Int.reduceLE, Int.reduceEq, Int.reduceNe, bandsL, dfasD, List.length_map, hn]
  refine wL_ind (fun (j : Nat) fr σ => j ≤ ds.length ∧ fr 1 = .d (.list 3 (ds.map dfaD)) ∧ fr 2 = .d (.int .i64 row) ∧ fr 3 = .d (.str t) ∧ fr 16 = .d (.list 2 (bs.map bandD)) ∧ fr 17 = .d (.int .i64 ds.length) ∧ fr 18 = .d (.int .i64 j) ∧
    decideF row t bs ds = decideF row t (bs.drop j) (ds.drop j)) (fun j => ds.length - j) ?_ 0 ?_
  · rintro j fr σ ⟨hj, f1, f2, f3, f16, f17, f18, hdec⟩ ih
    by_cases hlt : j < ds.length
    · have hltb : j < bs.length := by omega
      obtain ⟨b, hbe⟩ : ∃ b, b = bs.getD j default := ⟨_, rfl⟩
      obtain ⟨d, hde⟩ : ∃ d, d = ds.getD j default := ⟨_, rfl⟩
      have hgb := map_getD bandD bs j hltb
      have hgd := map_getD dfaD ds j hlt
      rw [← hbe] at hgb
      rw [← hde] at hgd
      have hf := hd d (by rw [hde, List.getD_eq_getElem?_getD, List.getElem?_eq_getElem hlt]; exact List.getElem_mem hlt)
      rw [drop_get hlt, drop_get hltb, ← hbe, ← hde, decideF] at hdec
      have hck := checkDfa d hf
      simp only [dfaA, dfaF] at hck
      by_cases c1 : row < b.1
      · rw [if_neg (by omega)] at hdec
        simp (disch := omega) only [go_sem, reduceIte, reduceCtorEq, Nat.reduceBEq, Nat.reduceEqDiff, Nat.reduceAdd, Nat.reduceLT, Nat.reduceLeDiff, Int.reduceNeg, Int.reduceAdd, Int.reduceLT, Int.reduceLE, Int.reduceEq, Int.reduceNe, f1, f2, f3, f16, f17, f18, List.length_map, hlt, hltb, hgb, bandD_cells, c1]
        refine ih (j + 1) _ _ (by omega) ⟨by omega, ?_, ?_, ?_, ?_, ?_, ?_, hdec⟩ <;> simp (disch := omega) only [go_sem, reduceIte, reduceCtorEq, Nat.reduceBEq, Nat.reduceEqDiff, Nat.reduceAdd, Nat.reduceLT, Nat.reduceLeDiff, Int.reduceNeg, Int.reduceAdd, Int.reduceLT, Int.reduceLE, Int.reduceEq, Int.reduceNe, f1, f2, f3, f16, f17, f18]
      by_cases c2 : b.2 ≤ row
      · rw [if_neg (by omega)] at hdec
        simp (disch := omega) only [go_sem, reduceIte, reduceCtorEq, Nat.reduceBEq, Nat.reduceEqDiff, Nat.reduceAdd, Nat.reduceLT, Nat.reduceLeDiff, Int.reduceNeg, Int.reduceAdd, Int.reduceLT, Int.reduceLE, Int.reduceEq, Int.reduceNe, f1, f2, f3, f16, f17, f18, List.length_map, hlt, hltb, hgb, bandD_cells, c1, c2]
        refine ih (j + 1) _ _ (by omega) ⟨by omega, ?_, ?_, ?_, ?_, ?_, ?_, hdec⟩ <;> simp (disch := omega) only [go_sem, reduceIte, reduceCtorEq, Nat.reduceBEq, Nat.reduceEqDiff, Nat.reduceAdd, Nat.reduceLT, Nat.reduceLeDiff, Int.reduceNeg, Int.reduceAdd, Int.reduceLT, Int.reduceLE, Int.reduceEq, Int.reduceNe, f1, f2, f3, f16, f17, f18]
      rw [if_pos (by omega)] at hdec
      simp (disch := omega) only [go_sem, reduceIte, reduceCtorEq, Nat.reduceBEq, Nat.reduceEqDiff, Nat.reduceAdd, Nat.reduceLT, Nat.reduceLeDiff, Int.reduceNeg, Int.reduceAdd, Int.reduceLT, Int.reduceLE, Int.reduceEq, Int.reduceNe, f1, f2, f3, f16, f17, f18, List.length_map, hlt, hltb, hgb, hgd, bandD_cells, dfaD_cells, c1, c2]
      refine hck.at ?_
      by_cases hz : chkD d = 0
      · have hrun := run12 d hf hz t ht
        simp only [dfaA, dfaF] at hrun
        rw [ansD, if_pos hz] at hdec
        simp (disch := omega) only [go_sem, reduceIte, reduceCtorEq, Nat.reduceBEq, Nat.reduceEqDiff, Nat.reduceAdd, Nat.reduceLT, Nat.reduceLeDiff, Int.reduceNeg, Int.reduceAdd, Int.reduceLT, Int.reduceLE, Int.reduceEq, Int.reduceNe, hz, f1, f3, List.length_map, hlt, hgd, dfaD_cells]
        refine hrun.at ?_
        simp (disch := omega) only [go_sem, reduceIte, reduceCtorEq, Nat.reduceBEq, Nat.reduceEqDiff, Nat.reduceAdd, Nat.reduceLT, Nat.reduceLeDiff, Int.reduceNeg, Int.reduceAdd, Int.reduceLT, Int.reduceLE, Int.reduceEq, Int.reduceNe, hdec]
      · rw [ansD, if_neg hz] at hdec
        simp (disch := omega) only [go_sem, reduceIte, reduceCtorEq, Nat.reduceBEq, Nat.reduceEqDiff, Nat.reduceAdd, Nat.reduceLT, Nat.reduceLeDiff, Int.reduceNeg, Int.reduceAdd, Int.reduceLT, Int.reduceLE, Int.reduceEq, Int.reduceNe, hz, hdec]
    · have hd0 : decideF row t bs ds = -1 := by rw [hdec, List.drop_eq_nil_of_le (by omega), List.drop_eq_nil_of_le (by omega)]; rfl
      simp (disch := omega) only [go_sem, reduceIte, reduceCtorEq, Nat.reduceBEq, Nat.reduceEqDiff, Nat.reduceAdd, Nat.reduceLT, Nat.reduceLeDiff, Int.reduceNeg, Int.reduceAdd, Int.reduceLT, Int.reduceLE, Int.reduceEq, Int.reduceNe, f17, f18, hlt, hd0]
  · refine ⟨by omega, ?_, ?_, ?_, ?_, ?_, ?_, rfl⟩ <;> first | (simp (disch := omega) only [go_sem, reduceIte, reduceCtorEq, Nat.reduceBEq, Nat.reduceEqDiff, Nat.reduceAdd, Nat.reduceLT, Nat.reduceLeDiff, Int.reduceNeg, Int.reduceAdd, Int.reduceLT, Int.reduceLE, Int.reduceEq, Int.reduceNe]; done) | (simp (disch := omega) only [go_sem, reduceIte, reduceCtorEq, Nat.reduceBEq, Nat.reduceEqDiff, Nat.reduceAdd, Nat.reduceLT, Nat.reduceLeDiff, Int.reduceNeg, Int.reduceAdd, Int.reduceLT, Int.reduceLE, Int.reduceEq, Int.reduceNe, List.length_map, hn]; done) | rfl
theorem decide7 (bs : List (Int × Int)) (ds : List D) (row : Int) (t : List UInt8) (hb : bs.length ≤ 1000000) (hd : ∀ d, d ∈ ds → Fair d) (ht : t.length ≤ 10000) :
    PCall Tryz.prog 7 [.d (bandsL bs), .d (dfasD ds), .d (.int .i64 row), .d (.str t)] (.d (.int .i64 (decideD bs ds row t))) := by
  refine fn7.pure noHint (Nat.le_refl _) (by simp only [go_sem, bandsL, dfasD]) (by simp only [go_sem]) ?_
  by_cases hn : bs.length = ds.length
  case neg =>
    have e : decideD bs ds row t = -1 := by rw [decideD, if_neg hn]
    have hn' : ¬ (bs.length : Int) = ds.length := by omega
    simp (disch := omega) only [go_sem, reduceIte, reduceCtorEq, Nat.reduceBEq, Nat.reduceEqDiff, Nat.reduceAdd, Nat.reduceLT, Nat.reduceLeDiff, Int.reduceNeg, Int.reduceAdd, Int.reduceLT, Int.reduceLE, Int.reduceEq, Int.reduceNe, bandsL, dfasD, List.length_map, hn, hn', e]
    done
  have e : decideD bs ds row t = decideF row t bs ds := by rw [decideD, if_pos hn]
  rw [e]
  simp (disch := omega) only [go_sem, reduceIte, reduceCtorEq, Nat.reduceBEq, Nat.reduceEqDiff, Nat.reduceAdd, Nat.reduceLT, Nat.reduceLeDiff, Int.reduceNeg, Int.reduceAdd, Int.reduceLT, Int.reduceLE, Int.reduceEq, Int.reduceNe, bandsL, dfasD, List.length_map, hn]
  refine wL_ind (fun (j : Nat) fr σ => j ≤ ds.length ∧ fr 0 = .d (.list 2 (bs.map bandD)) ∧ fr 1 = .d (.list 3 (ds.map dfaD)) ∧ fr 2 = .d (.int .i64 row) ∧ fr 3 = .d (.str t) ∧ fr 9 = .d (.int .i64 j) ∧
    decideF row t bs ds = decideF row t (bs.drop j) (ds.drop j)) (fun j => ds.length - j) ?_ 0 ?_
  · rintro j fr σ ⟨hj, f0, f1, f2, f3, f9, hdec⟩ ih
    by_cases hlt : j < ds.length
    · have hltb : j < bs.length := by omega
      obtain ⟨b, hbe⟩ : ∃ b, b = bs.getD j default := ⟨_, rfl⟩
      obtain ⟨d, hde⟩ : ∃ d, d = ds.getD j default := ⟨_, rfl⟩
      have hgb := map_getD bandD bs j hltb
      have hgd := map_getD dfaD ds j hlt
      rw [← hbe] at hgb
      rw [← hde] at hgd
      have hf := hd d (by rw [hde, List.getD_eq_getElem?_getD, List.getElem?_eq_getElem hlt]; exact List.getElem_mem hlt)
      rw [drop_get hlt, drop_get hltb, ← hbe, ← hde, decideF] at hdec
      have hck := checkRef d hf
      simp only [dfaA, dfaF] at hck
      by_cases c1 : b.1 ≤ row
      case neg =>
        rw [if_neg (by omega)] at hdec
        simp (disch := omega) only [go_sem, reduceIte, reduceCtorEq, Nat.reduceBEq, Nat.reduceEqDiff, Nat.reduceAdd, Nat.reduceLT, Nat.reduceLeDiff, Int.reduceNeg, Int.reduceAdd, Int.reduceLT, Int.reduceLE, Int.reduceEq, Int.reduceNe, f0, f1, f2, f3, f9, List.length_map, hn, hlt, hltb, hgb, bandD_cells, c1]
        refine ih (j + 1) _ _ (by omega) ⟨by omega, ?_, ?_, ?_, ?_, ?_, hdec⟩ <;> simp (disch := omega) only [go_sem, reduceIte, reduceCtorEq, Nat.reduceBEq, Nat.reduceEqDiff, Nat.reduceAdd, Nat.reduceLT, Nat.reduceLeDiff, Int.reduceNeg, Int.reduceAdd, Int.reduceLT, Int.reduceLE, Int.reduceEq, Int.reduceNe, f0, f1, f2, f3, f9]
      by_cases c2 : row < b.2
      case neg =>
        rw [if_neg (by omega)] at hdec
        simp (disch := omega) only [go_sem, reduceIte, reduceCtorEq, Nat.reduceBEq, Nat.reduceEqDiff, Nat.reduceAdd, Nat.reduceLT, Nat.reduceLeDiff, Int.reduceNeg, Int.reduceAdd, Int.reduceLT, Int.reduceLE, Int.reduceEq, Int.reduceNe, f0, f1, f2, f3, f9, List.length_map, hn, hlt, hltb, hgb, bandD_cells, c1, c2]
        refine ih (j + 1) _ _ (by omega) ⟨by omega, ?_, ?_, ?_, ?_, ?_, hdec⟩ <;> simp (disch := omega) only [go_sem, reduceIte, reduceCtorEq, Nat.reduceBEq, Nat.reduceEqDiff, Nat.reduceAdd, Nat.reduceLT, Nat.reduceLeDiff, Int.reduceNeg, Int.reduceAdd, Int.reduceLT, Int.reduceLE, Int.reduceEq, Int.reduceNe, f0, f1, f2, f3, f9]
      rw [if_pos (by omega)] at hdec
      simp (disch := omega) only [go_sem, reduceIte, reduceCtorEq, Nat.reduceBEq, Nat.reduceEqDiff, Nat.reduceAdd, Nat.reduceLT, Nat.reduceLeDiff, Int.reduceNeg, Int.reduceAdd, Int.reduceLT, Int.reduceLE, Int.reduceEq, Int.reduceNe, f0, f1, f2, f3, f9, List.length_map, hn, hlt, hltb, hgb, hgd, bandD_cells, dfaD_cells, c1, c2]
      refine hck.at ?_
      by_cases hz : chkD d = 0
      · have hrun := run14 d hf hz t ht
        simp only [dfaA, dfaF] at hrun
        rw [ansD, if_pos hz] at hdec
        simp (disch := omega) only [go_sem, reduceIte, reduceCtorEq, Nat.reduceBEq, Nat.reduceEqDiff, Nat.reduceAdd, Nat.reduceLT, Nat.reduceLeDiff, Int.reduceNeg, Int.reduceAdd, Int.reduceLT, Int.reduceLE, Int.reduceEq, Int.reduceNe, hz, f1, f3, f9, List.length_map, hlt, hgd, dfaD_cells]
        refine hrun.at ?_
        simp (disch := omega) only [go_sem, reduceIte, reduceCtorEq, Nat.reduceBEq, Nat.reduceEqDiff, Nat.reduceAdd, Nat.reduceLT, Nat.reduceLeDiff, Int.reduceNeg, Int.reduceAdd, Int.reduceLT, Int.reduceLE, Int.reduceEq, Int.reduceNe, hdec]
      · rw [ansD, if_neg hz] at hdec
        simp (disch := omega) only [go_sem, reduceIte, reduceCtorEq, Nat.reduceBEq, Nat.reduceEqDiff, Nat.reduceAdd, Nat.reduceLT, Nat.reduceLeDiff, Int.reduceNeg, Int.reduceAdd, Int.reduceLT, Int.reduceLE, Int.reduceEq, Int.reduceNe, hz, hdec]
    · have hd0 : decideF row t bs ds = -1 := by rw [hdec, List.drop_eq_nil_of_le (by omega), List.drop_eq_nil_of_le (by omega)]; rfl
      simp (disch := omega) only [go_sem, reduceIte, reduceCtorEq, Nat.reduceBEq, Nat.reduceEqDiff, Nat.reduceAdd, Nat.reduceLT, Nat.reduceLeDiff, Int.reduceNeg, Int.reduceAdd, Int.reduceLT, Int.reduceLE, Int.reduceEq, Int.reduceNe, f0, f9, List.length_map, hn, hlt, hd0]
  · refine ⟨by omega, ?_, ?_, ?_, ?_, ?_, rfl⟩ <;> first | (simp (disch := omega) only [go_sem, reduceIte, reduceCtorEq, Nat.reduceBEq, Nat.reduceEqDiff, Nat.reduceAdd, Nat.reduceLT, Nat.reduceLeDiff, Int.reduceNeg, Int.reduceAdd, Int.reduceLT, Int.reduceLE, Int.reduceEq, Int.reduceNe]; done) | (simp (disch := omega) only [go_sem, reduceIte, reduceCtorEq, Nat.reduceBEq, Nat.reduceEqDiff, Nat.reduceAdd, Nat.reduceLT, Nat.reduceLeDiff, Int.reduceNeg, Int.reduceAdd, Int.reduceLT, Int.reduceLE, Int.reduceEq, Int.reduceNe, List.length_map, hn]; done) | rfl
end Go.Proofs.YtefpcfooahogkaaGreatDoor
set_option linter.unusedVariables false
set_option linter.unusedSimpArgs false
set_option maxRecDepth 100000
namespace Go.Proofs.YtefpcfooahogkaaGreatDoor
open Go Nv Pat Dfa

def longB (d : D) : Bool := decide (10 < d.arcs.length) || decide (10 < d.labels.length) || d.arcs.any fun l => decide (8 < l.length)
theorem long_fair {d : D} (h : longB d = false) : Fair d := by
  simp only [longB, Bool.or_eq_false_iff, decide_eq_false_iff_not, List.any_eq_false, decide_eq_true_eq] at h
  exact ⟨by omega, fun l hl => by have := h.2 l hl; omega, by omega⟩
theorem long5 (d : D) : PCall Tryz.prog 5 [dfaA d] (.d (.bool (longB d))) := by
  refine fn5.pure noHint (Nat.le_refl _) (by simp only [go_sem, dfaA, dfaF, statesD, labelsD]) (by simp only [go_sem]) ?_
  by_cases c1 : (10 : Int) < d.arcs.length
  · have e : longB d = true := by rw [longB, decide_eq_true (by omega)]; rfl
    simp (disch := omega) only [go_sem, reduceIte, reduceCtorEq, Nat.reduceBEq, Nat.reduceEqDiff, Nat.reduceAdd, Nat.reduceLT, Nat.reduceLeDiff, Int.reduceNeg, Int.reduceAdd, Int.reduceLT, Int.reduceLE, Int.reduceEq, Int.reduceNe, dfaA, dfaF, statesD, labelsD, List.length_map, c1, e]
    done
  by_cases c2 : (10 : Int) < d.labels.length
  · have e : longB d = true := by rw [longB, decide_eq_true (show 10 < d.labels.length by omega)]; simp
    simp (disch := omega) only [go_sem, reduceIte, reduceCtorEq, Nat.reduceBEq, Nat.reduceEqDiff, Nat.reduceAdd, Nat.reduceLT, Nat.reduceLeDiff, Int.reduceNeg, Int.reduceAdd, Int.reduceLT, Int.reduceLE, Int.reduceEq, Int.reduceNe, dfaA, dfaF, statesD, labelsD, List.length_map, c1, c2, e]
    done
  have e : longB d = d.arcs.any fun l => decide (8 < l.length) := by rw [longB, decide_eq_false (by omega), decide_eq_false (by omega)]; rfl
  rw [e]
  simp (disch := omega) only [go_sem, reduceIte, reduceCtorEq, Nat.reduceBEq, Nat.reduceEqDiff, Nat.reduceAdd, Nat.reduceLT, Nat.reduceLeDiff, Int.reduceNeg, Int.reduceAdd, Int.reduceLT, Int.reduceLE, Int.reduceEq, Int.reduceNe, dfaA, dfaF, statesD, labelsD, List.length_map, c1, c2]
  refine wL_ind (fun (j : Nat) fr σ => j ≤ d.arcs.length ∧ fr 1 = .ptr 0 0 ∧ fr 3 = .d (.int .i64 j) ∧ σ = [.box 29 (dfaF d)] ∧ (d.arcs.any fun l => decide (8 < l.length)) = ((d.arcs.drop j).any fun l => decide (8 < l.length))) (fun j => d.arcs.length - j) ?_ 0 ?_
  · rintro j fr σ ⟨hj, f1, f3, rfl, hst⟩ ih
    by_cases hlt : j < d.arcs.length
    · obtain ⟨l, hl⟩ : ∃ l, l = d.arcs.getD j default := ⟨_, rfl⟩
      have hg := map_getD arcsD d.arcs j hlt
      rw [← hl] at hg
      rw [drop_get hlt, ← hl, List.any_cons] at hst
      by_cases c3 : (8 : Int) < l.length
      · rw [decide_eq_true (show 8 < l.length by omega), Bool.true_or] at hst
        simp (disch := omega) only [go_sem, reduceIte, reduceCtorEq, Nat.reduceBEq, Nat.reduceEqDiff, Nat.reduceAdd, Nat.reduceLT, Nat.reduceLeDiff, Int.reduceNeg, Int.reduceAdd, Int.reduceLT, Int.reduceLE, Int.reduceEq, Int.reduceNe, f1, f3, dfaF, statesD, labelsD, arcsD, List.length_map, hlt, hg, list_cells, c3, hst]
      · rw [decide_eq_false (show ¬ 8 < l.length by omega), Bool.false_or] at hst
        simp (disch := omega) only [go_sem, reduceIte, reduceCtorEq, Nat.reduceBEq, Nat.reduceEqDiff, Nat.reduceAdd, Nat.reduceLT, Nat.reduceLeDiff, Int.reduceNeg, Int.reduceAdd, Int.reduceLT, Int.reduceLE, Int.reduceEq, Int.reduceNe, f1, f3, dfaF, statesD, labelsD, arcsD, List.length_map, hlt, hg, list_cells, c3]
        refine ih (j + 1) _ _ (by omega) ⟨by omega, ?_, ?_, ?_, hst⟩
        all_goals first | (simp (disch := omega) only [go_sem, reduceIte, reduceCtorEq, Nat.reduceBEq, Nat.reduceEqDiff, Nat.reduceAdd, Nat.reduceLT, Nat.reduceLeDiff, Int.reduceNeg, Int.reduceAdd, Int.reduceLT, Int.reduceLE, Int.reduceEq, Int.reduceNe, f1, f3, dfaF, statesD, labelsD]; done) | rfl
    · rw [List.drop_eq_nil_of_le (by omega), List.any_nil] at hst
      simp (disch := omega) only [go_sem, reduceIte, reduceCtorEq, Nat.reduceBEq, Nat.reduceEqDiff, Nat.reduceAdd, Nat.reduceLT, Nat.reduceLeDiff, Int.reduceNeg, Int.reduceAdd, Int.reduceLT, Int.reduceLE, Int.reduceEq, Int.reduceNe, f1, f3, dfaF, statesD, labelsD, List.length_map, hlt, hst]
  · refine ⟨by omega, ?_, ?_, ?_, rfl⟩
    all_goals first | (simp (disch := omega) only [go_sem, reduceIte, reduceCtorEq, Nat.reduceBEq, Nat.reduceEqDiff, Nat.reduceAdd, Nat.reduceLT, Nat.reduceLeDiff, Int.reduceNeg, Int.reduceAdd, Int.reduceLT, Int.reduceLE, Int.reduceEq, Int.reduceNe, dfaF, statesD, labelsD]; done) | rfl
theorem lawDecide (aw : PCall Tryz.prog 4 [] (.d (.bool true))) (bs : List (Int × Int)) (ds : List D) (row : Int) (t : List UInt8) :
    PCall Tryz.prog 3 [.d (bandsL bs), .d (dfasD ds), .d (.int .i64 row), .d (.str t)] (.d (.bool true)) := by
  refine fn3.pure noHint (Nat.le_refl _) (by simp only [go_sem, bandsL, dfasD]) (by simp only [go_sem]) ?_
  by_cases c1 : (6 : Int) < bs.length
  · simp (disch := omega) only [go_sem, reduceIte, reduceCtorEq, Nat.reduceBEq, Nat.reduceEqDiff, Nat.reduceAdd, Nat.reduceLT, Nat.reduceLeDiff, Int.reduceNeg, Int.reduceAdd, Int.reduceLT, Int.reduceLE, Int.reduceEq, Int.reduceNe, bandsL, dfasD, List.length_map, c1]
    refine aw.at ?_
    simp (disch := omega) only [go_sem, reduceIte, reduceCtorEq, Nat.reduceBEq, Nat.reduceEqDiff, Nat.reduceAdd, Nat.reduceLT, Nat.reduceLeDiff, Int.reduceNeg, Int.reduceAdd, Int.reduceLT, Int.reduceLE, Int.reduceEq, Int.reduceNe]
    done
  by_cases c2 : (6 : Int) < ds.length
  · simp (disch := omega) only [go_sem, reduceIte, reduceCtorEq, Nat.reduceBEq, Nat.reduceEqDiff, Nat.reduceAdd, Nat.reduceLT, Nat.reduceLeDiff, Int.reduceNeg, Int.reduceAdd, Int.reduceLT, Int.reduceLE, Int.reduceEq, Int.reduceNe, bandsL, dfasD, List.length_map, c1, c2]
    refine aw.at ?_
    simp (disch := omega) only [go_sem, reduceIte, reduceCtorEq, Nat.reduceBEq, Nat.reduceEqDiff, Nat.reduceAdd, Nat.reduceLT, Nat.reduceLeDiff, Int.reduceNeg, Int.reduceAdd, Int.reduceLT, Int.reduceLE, Int.reduceEq, Int.reduceNe]
    done
  by_cases c3 : (40 : Int) < t.length
  · simp (disch := omega) only [go_sem, reduceIte, reduceCtorEq, Nat.reduceBEq, Nat.reduceEqDiff, Nat.reduceAdd, Nat.reduceLT, Nat.reduceLeDiff, Int.reduceNeg, Int.reduceAdd, Int.reduceLT, Int.reduceLE, Int.reduceEq, Int.reduceNe, bandsL, dfasD, List.length_map, c1, c2, c3]
    refine aw.at ?_
    simp (disch := omega) only [go_sem, reduceIte, reduceCtorEq, Nat.reduceBEq, Nat.reduceEqDiff, Nat.reduceAdd, Nat.reduceLT, Nat.reduceLeDiff, Int.reduceNeg, Int.reduceAdd, Int.reduceLT, Int.reduceLE, Int.reduceEq, Int.reduceNe]
    done
  simp (disch := omega) only [go_sem, reduceIte, reduceCtorEq, Nat.reduceBEq, Nat.reduceEqDiff, Nat.reduceAdd, Nat.reduceLT, Nat.reduceLeDiff, Int.reduceNeg, Int.reduceAdd, Int.reduceLT, Int.reduceLE, Int.reduceEq, Int.reduceNe, bandsL, dfasD, List.length_map, c1, c2, c3]
  refine wL_ind (fun (j : Nat) fr σ => j ≤ ds.length ∧ fr 0 = .d (bandsL bs) ∧ fr 1 = .d (.list 3 (ds.map dfaD)) ∧ fr 2 = .d (.int .i64 row) ∧ fr 3 = .d (.str t) ∧ fr 9 = .d (.int .i64 j) ∧ (∀ d, d ∈ ds.take j → longB d = false)) (fun j => ds.length - j) ?_ 0 ?_
  · rintro j fr σ ⟨hj, f0, f1, f2, f3, f9, hall⟩ ih
    by_cases hlt : j < ds.length
    · obtain ⟨d, hde⟩ : ∃ d, d = ds.getD j default := ⟨_, rfl⟩
      have hgd := map_getD dfaD ds j hlt
      rw [← hde] at hgd
      have hlg := long5 d
      simp only [dfaA, dfaF] at hlg
      simp (disch := omega) only [go_sem, reduceIte, reduceCtorEq, Nat.reduceBEq, Nat.reduceEqDiff, Nat.reduceAdd, Nat.reduceLT, Nat.reduceLeDiff, Int.reduceNeg, Int.reduceAdd, Int.reduceLT, Int.reduceLE, Int.reduceEq, Int.reduceNe, f0, f1, f2, f3, f9, List.length_map, hlt, hgd, dfaD_cells]
      refine hlg.at ?_
      cases hb : longB d
      · simp (disch := omega) only [go_sem, reduceIte, reduceCtorEq, Nat.reduceBEq, Nat.reduceEqDiff, Nat.reduceAdd, Nat.reduceLT, Nat.reduceLeDiff, Int.reduceNeg, Int.reduceAdd, Int.reduceLT, Int.reduceLE, Int.reduceEq, Int.reduceNe, f9]
        refine ih (j + 1) _ _ (by omega) ⟨by omega, ?_, ?_, ?_, ?_, ?_, ?_⟩
        · simp (disch := omega) only [go_sem, reduceIte, reduceCtorEq, Nat.reduceBEq, Nat.reduceEqDiff, Nat.reduceAdd, Nat.reduceLT, Nat.reduceLeDiff, Int.reduceNeg, Int.reduceAdd, Int.reduceLT, Int.reduceLE, Int.reduceEq, Int.reduceNe, f0]
        · simp (disch := omega) only [go_sem, reduceIte, reduceCtorEq, Nat.reduceBEq, Nat.reduceEqDiff, Nat.reduceAdd, Nat.reduceLT, Nat.reduceLeDiff, Int.reduceNeg, Int.reduceAdd, Int.reduceLT, Int.reduceLE, Int.reduceEq, Int.reduceNe, f1]
        · simp (disch := omega) only [go_sem, reduceIte, reduceCtorEq, Nat.reduceBEq, Nat.reduceEqDiff, Nat.reduceAdd, Nat.reduceLT, Nat.reduceLeDiff, Int.reduceNeg, Int.reduceAdd, Int.reduceLT, Int.reduceLE, Int.reduceEq, Int.reduceNe, f2]
        · simp (disch := omega) only [go_sem, reduceIte, reduceCtorEq, Nat.reduceBEq, Nat.reduceEqDiff, Nat.reduceAdd, Nat.reduceLT, Nat.reduceLeDiff, Int.reduceNeg, Int.reduceAdd, Int.reduceLT, Int.reduceLE, Int.reduceEq, Int.reduceNe, f3]
        · simp (disch := omega) only [go_sem, reduceIte, reduceCtorEq, Nat.reduceBEq, Nat.reduceEqDiff, Nat.reduceAdd, Nat.reduceLT, Nat.reduceLeDiff, Int.reduceNeg, Int.reduceAdd, Int.reduceLT, Int.reduceLE, Int.reduceEq, Int.reduceNe, f9]
        · intro x hx
          rw [List.take_succ_eq_append_getElem hlt] at hx
          rcases List.mem_append.1 hx with hx | hx
          · exact hall x hx
          · simp only [List.mem_singleton] at hx
            rw [hx, show ds[j] = d by rw [hde, List.getD_eq_getElem?_getD, List.getElem?_eq_getElem hlt]; rfl]; exact hb
      · simp (disch := omega) only [go_sem, reduceIte, reduceCtorEq, Nat.reduceBEq, Nat.reduceEqDiff, Nat.reduceAdd, Nat.reduceLT, Nat.reduceLeDiff, Int.reduceNeg, Int.reduceAdd, Int.reduceLT, Int.reduceLE, Int.reduceEq, Int.reduceNe]
        refine aw.at ?_
        simp (disch := omega) only [go_sem, reduceIte, reduceCtorEq, Nat.reduceBEq, Nat.reduceEqDiff, Nat.reduceAdd, Nat.reduceLT, Nat.reduceLeDiff, Int.reduceNeg, Int.reduceAdd, Int.reduceLT, Int.reduceLE, Int.reduceEq, Int.reduceNe]
    · rw [List.take_of_length_le (by omega)] at hall
      have h6 := decide6 bs ds row t (by omega) (fun d hd => long_fair (hall d hd)) (by omega)
      have h7 := decide7 bs ds row t (by omega) (fun d hd => long_fair (hall d hd)) (by omega)
      simp only [dfasD] at h6 h7
      generalize decideD bs ds row t = z at h6 h7
      simp (disch := omega) only [go_sem, reduceIte, reduceCtorEq, Nat.reduceBEq, Nat.reduceEqDiff, Nat.reduceAdd, Nat.reduceLT, Nat.reduceLeDiff, Int.reduceNeg, Int.reduceAdd, Int.reduceLT, Int.reduceLE, Int.reduceEq, Int.reduceNe, f0, f1, f2, f3, f9, List.length_map, hlt]
      refine h6.at ?_
      simp (disch := omega) only [go_sem, reduceIte, reduceCtorEq, Nat.reduceBEq, Nat.reduceEqDiff, Nat.reduceAdd, Nat.reduceLT, Nat.reduceLeDiff, Int.reduceNeg, Int.reduceAdd, Int.reduceLT, Int.reduceLE, Int.reduceEq, Int.reduceNe, f0, f1, f2, f3]
      refine h7.at ?_
      simp (disch := omega) only [go_sem, reduceIte, reduceCtorEq, Nat.reduceBEq, Nat.reduceEqDiff, Nat.reduceAdd, Nat.reduceLT, Nat.reduceLeDiff, Int.reduceNeg, Int.reduceAdd, Int.reduceLT, Int.reduceLE, Int.reduceEq, Int.reduceNe]
      refine aw.at ?_
      simp (disch := omega) only [go_sem, reduceIte, reduceCtorEq, Nat.reduceBEq, Nat.reduceEqDiff, Nat.reduceAdd, Nat.reduceLT, Nat.reduceLeDiff, Int.reduceNeg, Int.reduceAdd, Int.reduceLT, Int.reduceLE, Int.reduceEq, Int.reduceNe]
  · refine ⟨by omega, ?_, ?_, ?_, ?_, ?_, by simp⟩ <;> first | (simp (disch := omega) only [go_sem, reduceIte, reduceCtorEq, Nat.reduceBEq, Nat.reduceEqDiff, Nat.reduceAdd, Nat.reduceLT, Nat.reduceLeDiff, Int.reduceNeg, Int.reduceAdd, Int.reduceLT, Int.reduceLE, Int.reduceEq, Int.reduceNe, bandsL]; done) | rfl
end Go.Proofs.YtefpcfooahogkaaGreatDoor
