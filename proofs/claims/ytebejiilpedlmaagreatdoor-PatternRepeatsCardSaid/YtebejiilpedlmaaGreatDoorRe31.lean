/- Part of a proof about the functions of this seat. -/
import Derived.Test.YtebejiilpedlmaaGreatDoorRep31
import Derived.Test.YtebejiilpedlmaaGreatDoorNvS
set_option linter.unusedVariables false
set_option linter.unusedSimpArgs false
set_option maxRecDepth 100000
namespace Go.Proofs.YtebejiilpedlmaaGreatDoor
open Go Nv Pat

def emptyD : DV := .agg [.int .i64 1, .nilslice, .nilslice, .int .i64 0, .int .i64 0]
def optD (x : Tree) : DV := .agg [.int .i64 4, .nilslice, .list 5 [nodeD x, emptyD], .int .i64 0, .int .i64 0]
def elemsD (x : Tree) (n i : Nat) : List DV := emptyD :: emptyD :: (List.replicate (min i n) (nodeD x) ++ List.replicate (i - n) (optD x))
theorem uni_node (x : Tree) : Uni 5 (nodeD x) := by
  rw [nodeD_eq]
  refine ⟨rfl, fun c hc => ?_⟩
  simp only [DV.cells, nodeC, List.mem_cons, List.not_mem_nil, or_false] at hc
  rcases hc with rfl | rfl | rfl | rfl | rfl <;> rfl
theorem wkE_node (x : Tree) : WkE 5 (nodeD x) (nodeD x) := .refl (uni_node x)
theorem wkE_empty : WkE 5 emptyD (nodeD emptyT) := by
  refine ⟨rfl, uni_node _, fun j a b ha hb => ?_⟩
  rw [nodeD_eq] at hb
  match j, ha, hb with
  | 0, ha, hb => cases ha; cases hb; exact .refl _
  | 1, ha, hb => cases ha; cases hb; exact .nil 2
  | 2, ha, hb => cases ha; cases hb; exact .nil 5
  | 3, ha, hb => cases ha; cases hb; exact .refl _
  | 4, ha, hb => cases ha; cases hb; exact .refl _
  | j + 5, ha, hb => cases ha
theorem wkE_opt (x : Tree) : WkE 5 (optD x) (nodeD (optT x)) := by
  refine ⟨rfl, uni_node _, fun j a b ha hb => ?_⟩
  rw [nodeD_eq] at hb
  match j, ha, hb with
  | 0, ha, hb => cases ha; cases hb; exact .refl _
  | 1, ha, hb => cases ha; cases hb; exact .nil 2
  | 2, ha, hb => cases ha; cases hb; exact wkv_list ⟨wkE_node x, wkE_empty, trivial⟩
  | 3, ha, hb => cases ha; cases hb; exact .refl _
  | 4, ha, hb => cases ha; cases hb; exact .refl _
  | j + 5, ha, hb => cases ha
def joinsA (x : Tree) (n m : Nat) : AV := .agg [.d (.int .i64 3), .d .nilslice, .d (.list 5 (elemsD x n m)), .d (.int .i64 0), .d (.int .i64 0)]
theorem all2_rep {R : DV → DV → Prop} {a b : DV} (h : R a b) : ∀ n : Nat, All2 R (List.replicate n a) (List.replicate n b)
  | 0 => trivial
  | n + 1 => ⟨h, all2_rep h n⟩
theorem wk_joins (x : Tree) (n m : Nat) (h : n ≤ m) : WkB (joinsA x n m) (nodeA (joinsT x n m)) := by
  refine .agg rfl fun i hi => ?_
  match i, hi with
  | 0, _ => exact .d (.refl _)
  | 1, _ => exact .d (.nil 2)
  | 2, _ =>
    refine .d (wkv_list ?_)
    have e : (joinsT x n m).sub.map nodeD = nodeD emptyT :: nodeD emptyT :: (List.replicate n (nodeD x) ++ List.replicate (m - n) (nodeD (optT x))) := by
      simp [joinsT, Tree.sub]
    rw [e, elemsD, Nat.min_eq_right h]
    exact ⟨wkE_empty, wkE_empty, All2.append (all2_rep (wkE_node x) n) (all2_rep (wkE_opt x) (m - n))⟩
  | 3, _ => exact .d (.refl _)
  | 4, _ => exact .d (.refl _)
  | i + 5, hi => simp at hi; omega

def hintsR : Nat → Hint := fun i => if i = 25 then .freeze else if i = 40 then .freeze else if i = 61 then .freeze else .no
@[go_sem] theorem hintsR_at (i : Nat) : hintsR i = if i = 25 then .freeze else if i = 40 then .freeze else if i = 61 then .freeze else .no := nrfl rfl

theorem elems_length (x : Tree) (n i : Nat) : (elemsD x n i).length = 2 + i := by simp [elemsD]; omega
theorem elems_zero (x : Tree) (n : Nat) : elemsD x n 0 = [emptyD, emptyD] := by simp [elemsD]
theorem elems_lo (x : Tree) (n i : Nat) (h : i < n) : elemsD x n (i + 1) = elemsD x n i ++ [nodeD x] := by
  have e1 : min (i + 1) n = i + 1 := by omega
  have e2 : min i n = i := by omega
  rw [elemsD, elemsD, e1, e2, show i + 1 - n = 0 by omega, show i - n = 0 by omega, List.replicate_succ']
  simp
theorem elems_hi (x : Tree) (n i : Nat) (h : n ≤ i) : elemsD x n (i + 1) = elemsD x n i ++ [optD x] := by
  have e1 : min (i + 1) n = n := by omega
  have e2 : min i n = n := by omega
  rw [elemsD, elemsD, e1, e2, show i + 1 - n = (i - n) + 1 by omega, List.replicate_succ']
  simp

theorem u8_wf {z : Int} (h : (Lit.int .u8 z).wf = true) : 0 ≤ z ∧ z < 256 := by
  simp only [Lit.wf, Bool.and_eq_true, decide_eq_true_eq] at h
  have a : IntKind.u8.min = 0 := by decide
  have b : IntKind.u8.max = 255 := by decide
  omega
theorem law6 (aw : PCall Tryz.prog 11 [] (.d (.bool true))) (x : Tree) (y z : Int) (hy : 0 ≤ y ∧ y < 256) (hz : 0 ≤ z ∧ z < 256) (s : List UInt8) :
    PCall Tryz.prog 6 [nodeA x, .d (.int .u8 y), .d (.int .u8 z), .d (.str s)] (.d (.bool true)) := by
  refine fn6.pure hintsR (Nat.le_refl _) (by simp only [go_sem, nodeA, nodeF, setD]) (by simp only [go_sem]) ?_
  obtain ⟨n, hn, e1⟩ : ∃ n : Nat, n < 3 ∧ y.tmod 3 = n := ⟨(y % 3).toNat, by omega, by rw [Int.tmod_eq_emod_of_nonneg hy.1]; omega⟩
  obtain ⟨d, hd, e2⟩ : ∃ d : Nat, d < 3 ∧ z.tmod 3 = d := ⟨(z % 3).toNat, by omega, by rw [Int.tmod_eq_emod_of_nonneg hz.1]; omega⟩
  obtain ⟨m, hm⟩ : ∃ m, m = n + d := ⟨_, rfl⟩
  have e3 : IntKind.i64.wrap ((n : Int) + d) = (m : Int) := by rw [wrap_id (by omega) (by omega)]; omega
  simp (disch := omega) only [go_sem, reduceIte, reduceDIte, reduceCtorEq, Nat.reduceBEq, Nat.reduceEqDiff, Nat.reduceAdd, Nat.reduceSub, Nat.reduceMul, Nat.reduceLT, Nat.reduceLeDiff, Nat.reduceBNe, Int.reduceNeg, Int.reduceAdd, Int.reduceSub, Int.reduceMul, Int.reduceLT, Int.reduceLE, Int.reduceGT, Int.reduceGE, Int.reduceEq, Int.reduceNe, Int.reduceToNat, Int.reduceTMod, Int.reduceTDiv, nodeA, nodeF, e1, e2, e3]
  have hh := wk_two (heavy16 (repT x n m) s)
  have hc := fun h => wk_one (check13 (repT x n m) h)
  simp only [nodeN, List.map_cons, List.map_nil, nodeD_eq, nodeC] at hh hc
  refine hh.at ?_
  cases hv : heavyB (repT x n m) s
  · obtain ⟨l1, l2, l3⟩ := light hv
    simp (disch := omega) only [go_sem, reduceIte, reduceDIte, reduceCtorEq, Nat.reduceBEq, Nat.reduceEqDiff, Nat.reduceAdd, Nat.reduceSub, Nat.reduceMul, Nat.reduceLT, Nat.reduceLeDiff, Nat.reduceBNe, Int.reduceNeg, Int.reduceAdd, Int.reduceSub, Int.reduceMul, Int.reduceLT, Int.reduceLE, Int.reduceGT, Int.reduceGE, Int.reduceEq, Int.reduceNe, Int.reduceToNat, Int.reduceTMod, Int.reduceTDiv]
    refine (hc (thin_of _ l2)).at ?_
    by_cases h0 : chkE (repT x n m) = 0
    · simp (disch := omega) only [go_sem, reduceIte, reduceDIte, reduceCtorEq, Nat.reduceBEq, Nat.reduceEqDiff, Nat.reduceAdd, Nat.reduceSub, Nat.reduceMul, Nat.reduceLT, Nat.reduceLeDiff, Nat.reduceBNe, Int.reduceNeg, Int.reduceAdd, Int.reduceSub, Int.reduceMul, Int.reduceLT, Int.reduceLE, Int.reduceGT, Int.reduceGE, Int.reduceEq, Int.reduceNe, Int.reduceToNat, Int.reduceTMod, Int.reduceTDiv, h0]
      have hnm : n ≤ m := by omega
      have hthR : Thin (repT x n m) := thin_of _ l2
      have hthx : Thin x := hthR.2.1
      have htho : Thin (optT x) := ⟨by simp, hthx, ⟨by simp, trivial⟩, trivial⟩
      have hthJ : Thin (joinsT x n m) := by
        refine ⟨by simp, thinL_all fun y hy => ?_⟩
        simp only [List.mem_cons, List.mem_append, List.mem_replicate] at hy
        rcases hy with rfl | rfl | ⟨_, rfl⟩ | ⟨_, rfl⟩
        · exact ⟨by simp, trivial⟩
        · exact ⟨by simp, trivial⟩
        · exact hthx
        · exact htho
      refine wL_ind (fun (i : Nat) fr σ => i ≤ m ∧ fr 3 = .d (.str s) ∧ fr 4 = .ptr 0 0 ∧ fr 9 = .d (.int .i64 n) ∧ fr 10 = .d (.int .i64 m) ∧ fr 11 = .ptr 2 0 ∧ fr 12 = .ptr 4 0 ∧ fr 14 = .d (.int .i64 i) ∧
        ∃ g c rest, c = 2 + i ∧ fr 13 = .own 5 g 0 c ∧ σ = .box 25 (nodeF x) :: .dead :: .box 25 [.d (.int .i64 5), .d .nilslice, .d (.list 5 [nodeD x]), .d (.int .i64 n), .d (.int .i64 m)] :: .dead ::
          .box 25 [.d (.int .i64 4), .d .nilslice, .d (.list 5 [nodeD x, emptyD]), .d (.int .i64 0), .d (.int .i64 0)] :: .arr g ⟨5, 25⟩ (elemsD x n i) :: rest) (fun i => m - i) ?_ 0 ?_
      · rintro i fr σ ⟨hi, f3, f4, f9, f10, f11, f12, f14, g, c, rest, hcc, f13, rfl⟩ ih
        subst hcc
        have hel := elems_length x n i
        have hta := take_all (elemsD x n i) (2 + i) hel
        have hb1 : (2 + i + 1) * 72 ≤ 140737488355328 := by omega
        by_cases hlt : i < m
        · by_cases hln : i < n
          · simp (disch := omega) only [go_sem, reduceIte, reduceDIte, reduceCtorEq, Nat.reduceBEq, Nat.reduceEqDiff, Nat.reduceAdd, Nat.reduceSub, Nat.reduceMul, Nat.reduceLT, Nat.reduceLeDiff, Nat.reduceBNe, Int.reduceNeg, Int.reduceAdd, Int.reduceSub, Int.reduceMul, Int.reduceLT, Int.reduceLE, Int.reduceGT, Int.reduceGE, Int.reduceEq, Int.reduceNe, Int.reduceToNat, Int.reduceTMod, Int.reduceTDiv, f3, f4, f9, f10, f13, f14, hlt, hln, nodeF, hel, hta, hb1, Nat.zero_add, Nat.le_refl]
            refine ih (i + 1) _ _ (by omega) ⟨by omega, ?_, ?_, ?_, ?_, ?_, ?_, ?_, g + 1, 2 + i + 1, rest ++ [.arr 0 ⟨5, 25⟩ [nodeD x]], by omega, ?_, ?_⟩
            · simp (disch := omega) only [go_sem, reduceIte, reduceDIte, reduceCtorEq, Nat.reduceBEq, Nat.reduceEqDiff, Nat.reduceAdd, Nat.reduceSub, Nat.reduceMul, Nat.reduceLT, Nat.reduceLeDiff, Nat.reduceBNe, Int.reduceNeg, Int.reduceAdd, Int.reduceSub, Int.reduceMul, Int.reduceLT, Int.reduceLE, Int.reduceGT, Int.reduceGE, Int.reduceEq, Int.reduceNe, Int.reduceToNat, Int.reduceTMod, Int.reduceTDiv, f3]
            · simp (disch := omega) only [go_sem, reduceIte, reduceDIte, reduceCtorEq, Nat.reduceBEq, Nat.reduceEqDiff, Nat.reduceAdd, Nat.reduceSub, Nat.reduceMul, Nat.reduceLT, Nat.reduceLeDiff, Nat.reduceBNe, Int.reduceNeg, Int.reduceAdd, Int.reduceSub, Int.reduceMul, Int.reduceLT, Int.reduceLE, Int.reduceGT, Int.reduceGE, Int.reduceEq, Int.reduceNe, Int.reduceToNat, Int.reduceTMod, Int.reduceTDiv, f4]
            · simp (disch := omega) only [go_sem, reduceIte, reduceDIte, reduceCtorEq, Nat.reduceBEq, Nat.reduceEqDiff, Nat.reduceAdd, Nat.reduceSub, Nat.reduceMul, Nat.reduceLT, Nat.reduceLeDiff, Nat.reduceBNe, Int.reduceNeg, Int.reduceAdd, Int.reduceSub, Int.reduceMul, Int.reduceLT, Int.reduceLE, Int.reduceGT, Int.reduceGE, Int.reduceEq, Int.reduceNe, Int.reduceToNat, Int.reduceTMod, Int.reduceTDiv, f9]
            · simp (disch := omega) only [go_sem, reduceIte, reduceDIte, reduceCtorEq, Nat.reduceBEq, Nat.reduceEqDiff, Nat.reduceAdd, Nat.reduceSub, Nat.reduceMul, Nat.reduceLT, Nat.reduceLeDiff, Nat.reduceBNe, Int.reduceNeg, Int.reduceAdd, Int.reduceSub, Int.reduceMul, Int.reduceLT, Int.reduceLE, Int.reduceGT, Int.reduceGE, Int.reduceEq, Int.reduceNe, Int.reduceToNat, Int.reduceTMod, Int.reduceTDiv, f10]
            · simp (disch := omega) only [go_sem, reduceIte, reduceDIte, reduceCtorEq, Nat.reduceBEq, Nat.reduceEqDiff, Nat.reduceAdd, Nat.reduceSub, Nat.reduceMul, Nat.reduceLT, Nat.reduceLeDiff, Nat.reduceBNe, Int.reduceNeg, Int.reduceAdd, Int.reduceSub, Int.reduceMul, Int.reduceLT, Int.reduceLE, Int.reduceGT, Int.reduceGE, Int.reduceEq, Int.reduceNe, Int.reduceToNat, Int.reduceTMod, Int.reduceTDiv, f11]
            · simp (disch := omega) only [go_sem, reduceIte, reduceDIte, reduceCtorEq, Nat.reduceBEq, Nat.reduceEqDiff, Nat.reduceAdd, Nat.reduceSub, Nat.reduceMul, Nat.reduceLT, Nat.reduceLeDiff, Nat.reduceBNe, Int.reduceNeg, Int.reduceAdd, Int.reduceSub, Int.reduceMul, Int.reduceLT, Int.reduceLE, Int.reduceGT, Int.reduceGE, Int.reduceEq, Int.reduceNe, Int.reduceToNat, Int.reduceTMod, Int.reduceTDiv, f12]
            · simp (disch := omega) only [go_sem, reduceIte, reduceDIte, reduceCtorEq, Nat.reduceBEq, Nat.reduceEqDiff, Nat.reduceAdd, Nat.reduceSub, Nat.reduceMul, Nat.reduceLT, Nat.reduceLeDiff, Nat.reduceBNe, Int.reduceNeg, Int.reduceAdd, Int.reduceSub, Int.reduceMul, Int.reduceLT, Int.reduceLE, Int.reduceGT, Int.reduceGE, Int.reduceEq, Int.reduceNe, Int.reduceToNat, Int.reduceTMod, Int.reduceTDiv]
            · simp (disch := omega) only [go_sem, reduceIte, reduceDIte, reduceCtorEq, Nat.reduceBEq, Nat.reduceEqDiff, Nat.reduceAdd, Nat.reduceSub, Nat.reduceMul, Nat.reduceLT, Nat.reduceLeDiff, Nat.reduceBNe, Int.reduceNeg, Int.reduceAdd, Int.reduceSub, Int.reduceMul, Int.reduceLT, Int.reduceLE, Int.reduceGT, Int.reduceGE, Int.reduceEq, Int.reduceNe, Int.reduceToNat, Int.reduceTMod, Int.reduceTDiv]
            · rw [elems_lo x n i hln]; simp only [nodeF, nodeD_eq, nodeC, optD, List.cons_append]
          · simp (disch := omega) only [go_sem, reduceIte, reduceDIte, reduceCtorEq, Nat.reduceBEq, Nat.reduceEqDiff, Nat.reduceAdd, Nat.reduceSub, Nat.reduceMul, Nat.reduceLT, Nat.reduceLeDiff, Nat.reduceBNe, Int.reduceNeg, Int.reduceAdd, Int.reduceSub, Int.reduceMul, Int.reduceLT, Int.reduceLE, Int.reduceGT, Int.reduceGE, Int.reduceEq, Int.reduceNe, Int.reduceToNat, Int.reduceTMod, Int.reduceTDiv, f3, f4, f9, f10, f12, f13, f14, hlt, hln, nodeF, hel, hta, hb1, Nat.zero_add, Nat.le_refl]
            refine ih (i + 1) _ _ (by omega) ⟨by omega, ?_, ?_, ?_, ?_, ?_, ?_, ?_, g + 1, 2 + i + 1, rest ++ [.arr 0 ⟨5, 25⟩ [optD x]], by omega, ?_, ?_⟩
            · simp (disch := omega) only [go_sem, reduceIte, reduceDIte, reduceCtorEq, Nat.reduceBEq, Nat.reduceEqDiff, Nat.reduceAdd, Nat.reduceSub, Nat.reduceMul, Nat.reduceLT, Nat.reduceLeDiff, Nat.reduceBNe, Int.reduceNeg, Int.reduceAdd, Int.reduceSub, Int.reduceMul, Int.reduceLT, Int.reduceLE, Int.reduceGT, Int.reduceGE, Int.reduceEq, Int.reduceNe, Int.reduceToNat, Int.reduceTMod, Int.reduceTDiv, f3]
            · simp (disch := omega) only [go_sem, reduceIte, reduceDIte, reduceCtorEq, Nat.reduceBEq, Nat.reduceEqDiff, Nat.reduceAdd, Nat.reduceSub, Nat.reduceMul, Nat.reduceLT, Nat.reduceLeDiff, Nat.reduceBNe, Int.reduceNeg, Int.reduceAdd, Int.reduceSub, Int.reduceMul, Int.reduceLT, Int.reduceLE, Int.reduceGT, Int.reduceGE, Int.reduceEq, Int.reduceNe, Int.reduceToNat, Int.reduceTMod, Int.reduceTDiv, f4]
            · simp (disch := omega) only [go_sem, reduceIte, reduceDIte, reduceCtorEq, Nat.reduceBEq, Nat.reduceEqDiff, Nat.reduceAdd, Nat.reduceSub, Nat.reduceMul, Nat.reduceLT, Nat.reduceLeDiff, Nat.reduceBNe, Int.reduceNeg, Int.reduceAdd, Int.reduceSub, Int.reduceMul, Int.reduceLT, Int.reduceLE, Int.reduceGT, Int.reduceGE, Int.reduceEq, Int.reduceNe, Int.reduceToNat, Int.reduceTMod, Int.reduceTDiv, f9]
            · simp (disch := omega) only [go_sem, reduceIte, reduceDIte, reduceCtorEq, Nat.reduceBEq, Nat.reduceEqDiff, Nat.reduceAdd, Nat.reduceSub, Nat.reduceMul, Nat.reduceLT, Nat.reduceLeDiff, Nat.reduceBNe, Int.reduceNeg, Int.reduceAdd, Int.reduceSub, Int.reduceMul, Int.reduceLT, Int.reduceLE, Int.reduceGT, Int.reduceGE, Int.reduceEq, Int.reduceNe, Int.reduceToNat, Int.reduceTMod, Int.reduceTDiv, f10]
            · simp (disch := omega) only [go_sem, reduceIte, reduceDIte, reduceCtorEq, Nat.reduceBEq, Nat.reduceEqDiff, Nat.reduceAdd, Nat.reduceSub, Nat.reduceMul, Nat.reduceLT, Nat.reduceLeDiff, Nat.reduceBNe, Int.reduceNeg, Int.reduceAdd, Int.reduceSub, Int.reduceMul, Int.reduceLT, Int.reduceLE, Int.reduceGT, Int.reduceGE, Int.reduceEq, Int.reduceNe, Int.reduceToNat, Int.reduceTMod, Int.reduceTDiv, f11]
            · simp (disch := omega) only [go_sem, reduceIte, reduceDIte, reduceCtorEq, Nat.reduceBEq, Nat.reduceEqDiff, Nat.reduceAdd, Nat.reduceSub, Nat.reduceMul, Nat.reduceLT, Nat.reduceLeDiff, Nat.reduceBNe, Int.reduceNeg, Int.reduceAdd, Int.reduceSub, Int.reduceMul, Int.reduceLT, Int.reduceLE, Int.reduceGT, Int.reduceGE, Int.reduceEq, Int.reduceNe, Int.reduceToNat, Int.reduceTMod, Int.reduceTDiv, f12]
            · simp (disch := omega) only [go_sem, reduceIte, reduceDIte, reduceCtorEq, Nat.reduceBEq, Nat.reduceEqDiff, Nat.reduceAdd, Nat.reduceSub, Nat.reduceMul, Nat.reduceLT, Nat.reduceLeDiff, Nat.reduceBNe, Int.reduceNeg, Int.reduceAdd, Int.reduceSub, Int.reduceMul, Int.reduceLT, Int.reduceLE, Int.reduceGT, Int.reduceGE, Int.reduceEq, Int.reduceNe, Int.reduceToNat, Int.reduceTMod, Int.reduceTDiv]
            · simp (disch := omega) only [go_sem, reduceIte, reduceDIte, reduceCtorEq, Nat.reduceBEq, Nat.reduceEqDiff, Nat.reduceAdd, Nat.reduceSub, Nat.reduceMul, Nat.reduceLT, Nat.reduceLeDiff, Nat.reduceBNe, Int.reduceNeg, Int.reduceAdd, Int.reduceSub, Int.reduceMul, Int.reduceLT, Int.reduceLE, Int.reduceGT, Int.reduceGE, Int.reduceEq, Int.reduceNe, Int.reduceToNat, Int.reduceTMod, Int.reduceTDiv]
            · rw [elems_hi x n i (by omega)]; simp only [nodeF, nodeD_eq, nodeC, optD, List.cons_append]
        · obtain rfl : i = m := by omega
          simp (disch := omega) only [go_sem, reduceIte, reduceDIte, reduceCtorEq, Nat.reduceBEq, Nat.reduceEqDiff, Nat.reduceAdd, Nat.reduceSub, Nat.reduceMul, Nat.reduceLT, Nat.reduceLeDiff, Nat.reduceBNe, Int.reduceNeg, Int.reduceAdd, Int.reduceSub, Int.reduceMul, Int.reduceLT, Int.reduceLE, Int.reduceGT, Int.reduceGE, Int.reduceEq, Int.reduceNe, Int.reduceToNat, Int.reduceTMod, Int.reduceTDiv, f3, f4, f9, f10, f11, f12, f13, f14, hlt, nodeF, hel, hta, Nat.zero_add, Nat.le_refl]
          have hjw : WkB (.agg [.d (.int .i64 3), .d .nilslice, .d (.list 5 (elemsD x n i)), .d (.int .i64 0), .d (.int .i64 0)]) (nodeA (joinsT x n i)) := wk_joins x n i hnm
          refine (PCall.wkb (check13 (joinsT x n i) hthJ) rfl (args := [.agg [.d (.int .i64 3), .d .nilslice, .d (.list 5 (elemsD x n i)), .d (.int .i64 0), .d (.int .i64 0)]]) fun j hj => ?_).at ?_
          · match j, hj with
            | 0, _ => exact hjw
          by_cases h1 : chkE (joinsT x n i) = 0
          · have hm1 := wk_two (match17 (repT x n i) hthR s (by omega))
            have hm2 : PCall Tryz.prog 17 [.agg [.d (.int .i64 3), .d .nilslice, .d (.list 5 (elemsD x n i)), .d (.int .i64 0), .d (.int .i64 0)], .d (.str s)] _ := PCall.wkb (match17 (joinsT x n i) hthJ s (by omega)) rfl fun j hj => by
              match j, hj with
              | 0, _ => exact hjw
              | 1, _ => exact .d (.refl _)
            have hq : matchB (joinsT x n i) s = matchB (repT x n i) s := by
              rw [Bool.eq_iff_iff, matchB_iff, matchB_iff, rep_joins x n i hnm]
              simp only [h0, h1]
            rw [hq] at hm2
            simp only [nodeN, List.map_cons, List.map_nil] at hm1
            simp (disch := omega) only [go_sem, reduceIte, reduceDIte, reduceCtorEq, Nat.reduceBEq, Nat.reduceEqDiff, Nat.reduceAdd, Nat.reduceSub, Nat.reduceMul, Nat.reduceLT, Nat.reduceLeDiff, Nat.reduceBNe, Int.reduceNeg, Int.reduceAdd, Int.reduceSub, Int.reduceMul, Int.reduceLT, Int.reduceLE, Int.reduceGT, Int.reduceGE, Int.reduceEq, Int.reduceNe, Int.reduceToNat, Int.reduceTMod, Int.reduceTDiv, h1, f3, f11, List.append_assoc, List.cons_append, List.nil_append, List.length_append, stGet_app, stGet_app0, stSet_app, stSet_app0]
            refine hm1.dat ?_
            simp (disch := omega) only [go_sem, reduceIte, reduceDIte, reduceCtorEq, Nat.reduceBEq, Nat.reduceEqDiff, Nat.reduceAdd, Nat.reduceSub, Nat.reduceMul, Nat.reduceLT, Nat.reduceLeDiff, Nat.reduceBNe, Int.reduceNeg, Int.reduceAdd, Int.reduceSub, Int.reduceMul, Int.reduceLT, Int.reduceLE, Int.reduceGT, Int.reduceGE, Int.reduceEq, Int.reduceNe, Int.reduceToNat, Int.reduceTMod, Int.reduceTDiv, f3, f11, List.append_assoc, List.cons_append, List.nil_append, List.length_append, stGet_app, stGet_app0, stSet_app, stSet_app0]
            refine hm2.dat ?_
            simp (disch := omega) only [go_sem, reduceIte, reduceDIte, reduceCtorEq, Nat.reduceBEq, Nat.reduceEqDiff, Nat.reduceAdd, Nat.reduceSub, Nat.reduceMul, Nat.reduceLT, Nat.reduceLeDiff, Nat.reduceBNe, Int.reduceNeg, Int.reduceAdd, Int.reduceSub, Int.reduceMul, Int.reduceLT, Int.reduceLE, Int.reduceGT, Int.reduceGE, Int.reduceEq, Int.reduceNe, Int.reduceToNat, Int.reduceTMod, Int.reduceTDiv, beq_self_eq_true]
            refine aw.dat ?_
            simp (disch := omega) only [go_sem, reduceIte, reduceDIte, reduceCtorEq, Nat.reduceBEq, Nat.reduceEqDiff, Nat.reduceAdd, Nat.reduceSub, Nat.reduceMul, Nat.reduceLT, Nat.reduceLeDiff, Nat.reduceBNe, Int.reduceNeg, Int.reduceAdd, Int.reduceSub, Int.reduceMul, Int.reduceLT, Int.reduceLE, Int.reduceGT, Int.reduceGE, Int.reduceEq, Int.reduceNe, Int.reduceToNat, Int.reduceTMod, Int.reduceTDiv]
          · simp (disch := omega) only [go_sem, reduceIte, reduceDIte, reduceCtorEq, Nat.reduceBEq, Nat.reduceEqDiff, Nat.reduceAdd, Nat.reduceSub, Nat.reduceMul, Nat.reduceLT, Nat.reduceLeDiff, Nat.reduceBNe, Int.reduceNeg, Int.reduceAdd, Int.reduceSub, Int.reduceMul, Int.reduceLT, Int.reduceLE, Int.reduceGT, Int.reduceGE, Int.reduceEq, Int.reduceNe, Int.reduceToNat, Int.reduceTMod, Int.reduceTDiv, h1]
            refine aw.at ?_
            simp (disch := omega) only [go_sem, reduceIte, reduceDIte, reduceCtorEq, Nat.reduceBEq, Nat.reduceEqDiff, Nat.reduceAdd, Nat.reduceSub, Nat.reduceMul, Nat.reduceLT, Nat.reduceLeDiff, Nat.reduceBNe, Int.reduceNeg, Int.reduceAdd, Int.reduceSub, Int.reduceMul, Int.reduceLT, Int.reduceLE, Int.reduceGT, Int.reduceGE, Int.reduceEq, Int.reduceNe, Int.reduceToNat, Int.reduceTMod, Int.reduceTDiv]
      · refine ⟨by omega, ?_, ?_, ?_, ?_, ?_, ?_, ?_, 0, 2, [], rfl, ?_, ?_⟩
        · simp (disch := omega) only [go_sem, reduceIte, reduceDIte, reduceCtorEq, Nat.reduceBEq, Nat.reduceEqDiff, Nat.reduceAdd, Nat.reduceSub, Nat.reduceMul, Nat.reduceLT, Nat.reduceLeDiff, Nat.reduceBNe, Int.reduceNeg, Int.reduceAdd, Int.reduceSub, Int.reduceMul, Int.reduceLT, Int.reduceLE, Int.reduceGT, Int.reduceGE, Int.reduceEq, Int.reduceNe, Int.reduceToNat, Int.reduceTMod, Int.reduceTDiv]
        · simp (disch := omega) only [go_sem, reduceIte, reduceDIte, reduceCtorEq, Nat.reduceBEq, Nat.reduceEqDiff, Nat.reduceAdd, Nat.reduceSub, Nat.reduceMul, Nat.reduceLT, Nat.reduceLeDiff, Nat.reduceBNe, Int.reduceNeg, Int.reduceAdd, Int.reduceSub, Int.reduceMul, Int.reduceLT, Int.reduceLE, Int.reduceGT, Int.reduceGE, Int.reduceEq, Int.reduceNe, Int.reduceToNat, Int.reduceTMod, Int.reduceTDiv]
        · simp (disch := omega) only [go_sem, reduceIte, reduceDIte, reduceCtorEq, Nat.reduceBEq, Nat.reduceEqDiff, Nat.reduceAdd, Nat.reduceSub, Nat.reduceMul, Nat.reduceLT, Nat.reduceLeDiff, Nat.reduceBNe, Int.reduceNeg, Int.reduceAdd, Int.reduceSub, Int.reduceMul, Int.reduceLT, Int.reduceLE, Int.reduceGT, Int.reduceGE, Int.reduceEq, Int.reduceNe, Int.reduceToNat, Int.reduceTMod, Int.reduceTDiv]
        · simp (disch := omega) only [go_sem, reduceIte, reduceDIte, reduceCtorEq, Nat.reduceBEq, Nat.reduceEqDiff, Nat.reduceAdd, Nat.reduceSub, Nat.reduceMul, Nat.reduceLT, Nat.reduceLeDiff, Nat.reduceBNe, Int.reduceNeg, Int.reduceAdd, Int.reduceSub, Int.reduceMul, Int.reduceLT, Int.reduceLE, Int.reduceGT, Int.reduceGE, Int.reduceEq, Int.reduceNe, Int.reduceToNat, Int.reduceTMod, Int.reduceTDiv]
        · simp (disch := omega) only [go_sem, reduceIte, reduceDIte, reduceCtorEq, Nat.reduceBEq, Nat.reduceEqDiff, Nat.reduceAdd, Nat.reduceSub, Nat.reduceMul, Nat.reduceLT, Nat.reduceLeDiff, Nat.reduceBNe, Int.reduceNeg, Int.reduceAdd, Int.reduceSub, Int.reduceMul, Int.reduceLT, Int.reduceLE, Int.reduceGT, Int.reduceGE, Int.reduceEq, Int.reduceNe, Int.reduceToNat, Int.reduceTMod, Int.reduceTDiv]
        · simp (disch := omega) only [go_sem, reduceIte, reduceDIte, reduceCtorEq, Nat.reduceBEq, Nat.reduceEqDiff, Nat.reduceAdd, Nat.reduceSub, Nat.reduceMul, Nat.reduceLT, Nat.reduceLeDiff, Nat.reduceBNe, Int.reduceNeg, Int.reduceAdd, Int.reduceSub, Int.reduceMul, Int.reduceLT, Int.reduceLE, Int.reduceGT, Int.reduceGE, Int.reduceEq, Int.reduceNe, Int.reduceToNat, Int.reduceTMod, Int.reduceTDiv]
        · simp (disch := omega) only [go_sem, reduceIte, reduceDIte, reduceCtorEq, Nat.reduceBEq, Nat.reduceEqDiff, Nat.reduceAdd, Nat.reduceSub, Nat.reduceMul, Nat.reduceLT, Nat.reduceLeDiff, Nat.reduceBNe, Int.reduceNeg, Int.reduceAdd, Int.reduceSub, Int.reduceMul, Int.reduceLT, Int.reduceLE, Int.reduceGT, Int.reduceGE, Int.reduceEq, Int.reduceNe, Int.reduceToNat, Int.reduceTMod, Int.reduceTDiv]
        · simp (disch := omega) only [go_sem, reduceIte, reduceDIte, reduceCtorEq, Nat.reduceBEq, Nat.reduceEqDiff, Nat.reduceAdd, Nat.reduceSub, Nat.reduceMul, Nat.reduceLT, Nat.reduceLeDiff, Nat.reduceBNe, Int.reduceNeg, Int.reduceAdd, Int.reduceSub, Int.reduceMul, Int.reduceLT, Int.reduceLE, Int.reduceGT, Int.reduceGE, Int.reduceEq, Int.reduceNe, Int.reduceToNat, Int.reduceTMod, Int.reduceTDiv]
        · rw [elems_zero]; simp only [nodeF, nodeD_eq, nodeC, emptyD]
    · simp (disch := omega) only [go_sem, reduceIte, reduceDIte, reduceCtorEq, Nat.reduceBEq, Nat.reduceEqDiff, Nat.reduceAdd, Nat.reduceSub, Nat.reduceMul, Nat.reduceLT, Nat.reduceLeDiff, Nat.reduceBNe, Int.reduceNeg, Int.reduceAdd, Int.reduceSub, Int.reduceMul, Int.reduceLT, Int.reduceLE, Int.reduceGT, Int.reduceGE, Int.reduceEq, Int.reduceNe, Int.reduceToNat, Int.reduceTMod, Int.reduceTDiv, h0]
      refine aw.at ?_
      simp (disch := omega) only [go_sem, reduceIte, reduceDIte, reduceCtorEq, Nat.reduceBEq, Nat.reduceEqDiff, Nat.reduceAdd, Nat.reduceSub, Nat.reduceMul, Nat.reduceLT, Nat.reduceLeDiff, Nat.reduceBNe, Int.reduceNeg, Int.reduceAdd, Int.reduceSub, Int.reduceMul, Int.reduceLT, Int.reduceLE, Int.reduceGT, Int.reduceGE, Int.reduceEq, Int.reduceNe, Int.reduceToNat, Int.reduceTMod, Int.reduceTDiv]
  · simp (disch := omega) only [go_sem, reduceIte, reduceDIte, reduceCtorEq, Nat.reduceBEq, Nat.reduceEqDiff, Nat.reduceAdd, Nat.reduceSub, Nat.reduceMul, Nat.reduceLT, Nat.reduceLeDiff, Nat.reduceBNe, Int.reduceNeg, Int.reduceAdd, Int.reduceSub, Int.reduceMul, Int.reduceLT, Int.reduceLE, Int.reduceGT, Int.reduceGE, Int.reduceEq, Int.reduceNe, Int.reduceToNat, Int.reduceTMod, Int.reduceTDiv]
    refine aw.at ?_
    simp (disch := omega) only [go_sem, reduceIte, reduceDIte, reduceCtorEq, Nat.reduceBEq, Nat.reduceEqDiff, Nat.reduceAdd, Nat.reduceSub, Nat.reduceMul, Nat.reduceLT, Nat.reduceLeDiff, Nat.reduceBNe, Int.reduceNeg, Int.reduceAdd, Int.reduceSub, Int.reduceMul, Int.reduceLT, Int.reduceLE, Int.reduceGT, Int.reduceGE, Int.reduceEq, Int.reduceNe, Int.reduceToNat, Int.reduceTMod, Int.reduceTDiv]
end Go.Proofs.YtebejiilpedlmaaGreatDoor
