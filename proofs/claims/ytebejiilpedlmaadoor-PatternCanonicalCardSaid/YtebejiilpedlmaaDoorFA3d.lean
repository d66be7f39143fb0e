/- Part of a proof about the functions of this seat. -/
import Derived.Test.YtebejiilpedlmaaDoorPB3d
import Derived.Test.YtebejiilpedlmaaDoorRt3d
import Derived.Test.YtebejiilpedlmaaDoorEv3d
import Derived.Test.YtebejiilpedlmaaDoorFj3d
import Derived.Test.YtebejiilpedlmaaDoorBk3d
set_option linter.unusedVariables false
set_option linter.unusedSimpArgs false
set_option maxRecDepth 100000
namespace Go.Proofs.YtebejiilpedlmaaDoor
open Go Nv Pat

/- Writing: the parts of a pattern. -/
theorem equal58 (a b : List (Int × Int)) (ha : a.length ≤ 1000000) : PCall Tryd.prog 36 [.d (setD a), .d (setD b)] (.d (.bool (decide (a = b)))) := by
  refine fn36.pure noHint (Nat.le_refl _) (by simp only [go_sem, setD]) (by simp only [go_sem]) ?_
  by_cases hl : a.length = b.length
  · simp (disch := omega) only [go_sem, reduceIte, reduceDIte, reduceCtorEq, Nat.reduceBEq, Nat.reduceEqDiff, Nat.reduceAdd, Nat.reduceSub, Nat.reduceMul, Nat.reduceLT, Nat.reduceLeDiff, Nat.reduceBNe, Int.reduceNeg, Int.reduceAdd, Int.reduceSub, Int.reduceMul, Int.reduceLT, Int.reduceLE, Int.reduceGT, Int.reduceGE, Int.reduceEq, Int.reduceNe, Int.reduceToNat, Int.reduceTMod, Int.reduceTDiv, setD, List.length_map, hl]
    refine wL_ind (fun (k : Nat) fr σ => k ≤ b.length ∧ fr 0 = .d (.list 2 (a.map rgD)) ∧ fr 1 = .d (.list 2 (b.map rgD)) ∧ fr 12 = .d (.int .i64 b.length) ∧ fr 13 = .d (.int .i64 k) ∧ a.take k = b.take k) (fun k => b.length - k) ?_ 0 ?_
    · rintro k fr σ ⟨hk, f0, f1, f12, f13, ht⟩ ih
      by_cases hlt : k < b.length
      · have hlt' : k < a.length := by omega
        have g1 : (a.map rgD).getD k default = rgD (a.getD k default) := by simp [List.getD_eq_getElem?_getD, hlt']
        have g2 : (b.map rgD).getD k default = rgD (b.getD k default) := by simp [List.getD_eq_getElem?_getD, hlt]
        simp (disch := omega) only [go_sem, reduceIte, reduceDIte, reduceCtorEq, Nat.reduceBEq, Nat.reduceEqDiff, Nat.reduceAdd, Nat.reduceSub, Nat.reduceMul, Nat.reduceLT, Nat.reduceLeDiff, Nat.reduceBNe, Int.reduceNeg, Int.reduceAdd, Int.reduceSub, Int.reduceMul, Int.reduceLT, Int.reduceLE, Int.reduceGT, Int.reduceGE, Int.reduceEq, Int.reduceNe, Int.reduceToNat, Int.reduceTMod, Int.reduceTDiv, f0, f1, f12, f13, hlt, hlt', g1, g2, rgD]
        by_cases e1 : (a.getD k default).1 = (b.getD k default).1
        · by_cases e2 : (a.getD k default).2 = (b.getD k default).2
          · have hab : a.getD k default = b.getD k default := Prod.ext e1 e2
            simp (disch := omega) only [go_sem, reduceIte, reduceDIte, reduceCtorEq, Nat.reduceBEq, Nat.reduceEqDiff, Nat.reduceAdd, Nat.reduceSub, Nat.reduceMul, Nat.reduceLT, Nat.reduceLeDiff, Nat.reduceBNe, Int.reduceNeg, Int.reduceAdd, Int.reduceSub, Int.reduceMul, Int.reduceLT, Int.reduceLE, Int.reduceGT, Int.reduceGE, Int.reduceEq, Int.reduceNe, Int.reduceToNat, Int.reduceTMod, Int.reduceTDiv, e1, e2, f13, decide_true, Bool.and_true, Bool.not_true]
            refine ih (k + 1) _ _ (by omega) ⟨by omega, ?_, ?_, ?_, ?_, by rw [take_succ' a k hlt', take_succ' b k hlt, ht, hab]⟩
            · simp (disch := omega) only [go_sem, reduceIte, reduceDIte, reduceCtorEq, Nat.reduceBEq, Nat.reduceEqDiff, Nat.reduceAdd, Nat.reduceSub, Nat.reduceMul, Nat.reduceLT, Nat.reduceLeDiff, Nat.reduceBNe, Int.reduceNeg, Int.reduceAdd, Int.reduceSub, Int.reduceMul, Int.reduceLT, Int.reduceLE, Int.reduceGT, Int.reduceGE, Int.reduceEq, Int.reduceNe, Int.reduceToNat, Int.reduceTMod, Int.reduceTDiv, f0]
            · simp (disch := omega) only [go_sem, reduceIte, reduceDIte, reduceCtorEq, Nat.reduceBEq, Nat.reduceEqDiff, Nat.reduceAdd, Nat.reduceSub, Nat.reduceMul, Nat.reduceLT, Nat.reduceLeDiff, Nat.reduceBNe, Int.reduceNeg, Int.reduceAdd, Int.reduceSub, Int.reduceMul, Int.reduceLT, Int.reduceLE, Int.reduceGT, Int.reduceGE, Int.reduceEq, Int.reduceNe, Int.reduceToNat, Int.reduceTMod, Int.reduceTDiv, f1]
            · simp (disch := omega) only [go_sem, reduceIte, reduceDIte, reduceCtorEq, Nat.reduceBEq, Nat.reduceEqDiff, Nat.reduceAdd, Nat.reduceSub, Nat.reduceMul, Nat.reduceLT, Nat.reduceLeDiff, Nat.reduceBNe, Int.reduceNeg, Int.reduceAdd, Int.reduceSub, Int.reduceMul, Int.reduceLT, Int.reduceLE, Int.reduceGT, Int.reduceGE, Int.reduceEq, Int.reduceNe, Int.reduceToNat, Int.reduceTMod, Int.reduceTDiv, f12]
            · simp (disch := omega) only [go_sem, reduceIte, reduceDIte, reduceCtorEq, Nat.reduceBEq, Nat.reduceEqDiff, Nat.reduceAdd, Nat.reduceSub, Nat.reduceMul, Nat.reduceLT, Nat.reduceLeDiff, Nat.reduceBNe, Int.reduceNeg, Int.reduceAdd, Int.reduceSub, Int.reduceMul, Int.reduceLT, Int.reduceLE, Int.reduceGT, Int.reduceGE, Int.reduceEq, Int.reduceNe, Int.reduceToNat, Int.reduceTMod, Int.reduceTDiv]
          · have e : decide (a = b) = false := by simp only [decide_eq_false_iff_not]; intro h; rw [h] at e2; exact e2 rfl
            simp (disch := omega) only [go_sem, reduceIte, reduceDIte, reduceCtorEq, Nat.reduceBEq, Nat.reduceEqDiff, Nat.reduceAdd, Nat.reduceSub, Nat.reduceMul, Nat.reduceLT, Nat.reduceLeDiff, Nat.reduceBNe, Int.reduceNeg, Int.reduceAdd, Int.reduceSub, Int.reduceMul, Int.reduceLT, Int.reduceLE, Int.reduceGT, Int.reduceGE, Int.reduceEq, Int.reduceNe, Int.reduceToNat, Int.reduceTMod, Int.reduceTDiv, e1, e2, e, decide_true, decide_false, Bool.and_false, Bool.not_false]
        · have e : decide (a = b) = false := by simp only [decide_eq_false_iff_not]; intro h; rw [h] at e1; exact e1 rfl
          simp (disch := omega) only [go_sem, reduceIte, reduceDIte, reduceCtorEq, Nat.reduceBEq, Nat.reduceEqDiff, Nat.reduceAdd, Nat.reduceSub, Nat.reduceMul, Nat.reduceLT, Nat.reduceLeDiff, Nat.reduceBNe, Int.reduceNeg, Int.reduceAdd, Int.reduceSub, Int.reduceMul, Int.reduceLT, Int.reduceLE, Int.reduceGT, Int.reduceGE, Int.reduceEq, Int.reduceNe, Int.reduceToNat, Int.reduceTMod, Int.reduceTDiv, e1, e, decide_false, Bool.false_and, Bool.not_false]
      · have e : decide (a = b) = true := by
          rw [List.take_of_length_le (by omega), List.take_of_length_le (by omega)] at ht
          simp [ht]
        simp (disch := omega) only [go_sem, reduceIte, reduceDIte, reduceCtorEq, Nat.reduceBEq, Nat.reduceEqDiff, Nat.reduceAdd, Nat.reduceSub, Nat.reduceMul, Nat.reduceLT, Nat.reduceLeDiff, Nat.reduceBNe, Int.reduceNeg, Int.reduceAdd, Int.reduceSub, Int.reduceMul, Int.reduceLT, Int.reduceLE, Int.reduceGT, Int.reduceGE, Int.reduceEq, Int.reduceNe, Int.reduceToNat, Int.reduceTMod, Int.reduceTDiv, f12, f13, hlt, e]
    · refine ⟨by omega, ?_, ?_, ?_, ?_, rfl⟩
      · simp (disch := omega) only [go_sem, reduceIte, reduceDIte, reduceCtorEq, Nat.reduceBEq, Nat.reduceEqDiff, Nat.reduceAdd, Nat.reduceSub, Nat.reduceMul, Nat.reduceLT, Nat.reduceLeDiff, Nat.reduceBNe, Int.reduceNeg, Int.reduceAdd, Int.reduceSub, Int.reduceMul, Int.reduceLT, Int.reduceLE, Int.reduceGT, Int.reduceGE, Int.reduceEq, Int.reduceNe, Int.reduceToNat, Int.reduceTMod, Int.reduceTDiv]
      · simp (disch := omega) only [go_sem, reduceIte, reduceDIte, reduceCtorEq, Nat.reduceBEq, Nat.reduceEqDiff, Nat.reduceAdd, Nat.reduceSub, Nat.reduceMul, Nat.reduceLT, Nat.reduceLeDiff, Nat.reduceBNe, Int.reduceNeg, Int.reduceAdd, Int.reduceSub, Int.reduceMul, Int.reduceLT, Int.reduceLE, Int.reduceGT, Int.reduceGE, Int.reduceEq, Int.reduceNe, Int.reduceToNat, Int.reduceTMod, Int.reduceTDiv]
      · simp (disch := omega) only [go_sem, reduceIte, reduceDIte, reduceCtorEq, Nat.reduceBEq, Nat.reduceEqDiff, Nat.reduceAdd, Nat.reduceSub, Nat.reduceMul, Nat.reduceLT, Nat.reduceLeDiff, Nat.reduceBNe, Int.reduceNeg, Int.reduceAdd, Int.reduceSub, Int.reduceMul, Int.reduceLT, Int.reduceLE, Int.reduceGT, Int.reduceGE, Int.reduceEq, Int.reduceNe, Int.reduceToNat, Int.reduceTMod, Int.reduceTDiv]
      · simp (disch := omega) only [go_sem, reduceIte, reduceDIte, reduceCtorEq, Nat.reduceBEq, Nat.reduceEqDiff, Nat.reduceAdd, Nat.reduceSub, Nat.reduceMul, Nat.reduceLT, Nat.reduceLeDiff, Nat.reduceBNe, Int.reduceNeg, Int.reduceAdd, Int.reduceSub, Int.reduceMul, Int.reduceLT, Int.reduceLE, Int.reduceGT, Int.reduceGE, Int.reduceEq, Int.reduceNe, Int.reduceToNat, Int.reduceTMod, Int.reduceTDiv]
  · have e : decide (a = b) = false := by simp; intro h; rw [h] at hl; exact hl rfl
    simp (disch := omega) only [go_sem, reduceIte, reduceDIte, reduceCtorEq, Nat.reduceBEq, Nat.reduceEqDiff, Nat.reduceAdd, Nat.reduceSub, Nat.reduceMul, Nat.reduceLT, Nat.reduceLeDiff, Nat.reduceBNe, Int.reduceNeg, Int.reduceAdd, Int.reduceSub, Int.reduceMul, Int.reduceLT, Int.reduceLE, Int.reduceGT, Int.reduceGE, Int.reduceEq, Int.reduceNe, Int.reduceToNat, Int.reduceTMod, Int.reduceTDiv, setD, List.length_map, hl, e]

theorem spec_lt : ∀ b, b ∈ specB → b.toNat < 128 := by decide
def insB : List UInt8 := [92, 93, 94, 45]
theorem ins_eq : ints insB = insd := by decide
theorem escaped61 (c : Int) (hc : charB c = true) (sp : List UInt8) (hsp : ∀ b, b ∈ sp → b.toNat < 128) (hl : sp.length ≤ 100) : PCall Tryd.prog 39 [.d (.int .i32 c), .d (.str sp)] (.d (.str (encS (escC c (ints sp))))) := by
  refine fn39.pure noHint (Nat.le_refl _) (by simp only [go_sem]) (by simp only [go_sem]) ?_
  have hcon := contains_all sp (encB c) (by omega)
  rw [contains_enc hc sp hsp] at hcon
  have e92 : encB 92 = [92] := by decide
  have hel : (encB c).length ≤ 4 := by
    have := enc_seq hc
    generalize encB c = p at this
    cases this <;> simp
  simp (disch := omega) only [go_sem, reduceIte, reduceDIte, reduceCtorEq, Nat.reduceBEq, Nat.reduceEqDiff, Nat.reduceAdd, Nat.reduceSub, Nat.reduceMul, Nat.reduceLT, Nat.reduceLeDiff, Nat.reduceBNe, Int.reduceNeg, Int.reduceAdd, Int.reduceSub, Int.reduceMul, Int.reduceLT, Int.reduceLE, Int.reduceGT, Int.reduceGE, Int.reduceEq, Int.reduceNe, Int.reduceToNat, Int.reduceTMod, Int.reduceTDiv]
  refine hcon.at ?_
  by_cases h : c ∈ ints sp
  · have e : encS (escC c (ints sp)) = 92 :: encB c := by rw [escC, if_pos h]; simp [encS, e92]
    rw [e]
    simp (disch := omega) only [go_sem, reduceIte, reduceDIte, reduceCtorEq, Nat.reduceBEq, Nat.reduceEqDiff, Nat.reduceAdd, Nat.reduceSub, Nat.reduceMul, Nat.reduceLT, Nat.reduceLeDiff, Nat.reduceBNe, Int.reduceNeg, Int.reduceAdd, Int.reduceSub, Int.reduceMul, Int.reduceLT, Int.reduceLE, Int.reduceGT, Int.reduceGE, Int.reduceEq, Int.reduceNe, Int.reduceToNat, Int.reduceTMod, Int.reduceTDiv, h, decide_true]
    exact ⟨by unfold encB at hel; first | omega | (simp only [List.length_cons, List.length_nil]; omega), rfl⟩
  · have e : encS (escC c (ints sp)) = encB c := by rw [escC, if_neg h]; simp [encS]
    rw [e]
    simp (disch := omega) only [go_sem, reduceIte, reduceDIte, reduceCtorEq, Nat.reduceBEq, Nat.reduceEqDiff, Nat.reduceAdd, Nat.reduceSub, Nat.reduceMul, Nat.reduceLT, Nat.reduceLeDiff, Nat.reduceBNe, Int.reduceNeg, Int.reduceAdd, Int.reduceSub, Int.reduceMul, Int.reduceLT, Int.reduceLE, Int.reduceGT, Int.reduceGE, Int.reduceEq, Int.reduceNe, Int.reduceToNat, Int.reduceTMod, Int.reduceTDiv, h, decide_false, encB]

theorem enc_len4 {c : Int} (hc : charB c = true) : (encB c).length ≤ 4 := by
  have := enc_seq hc
  generalize encB c = p at this
  cases this <;> simp
theorem encS_len : ∀ l : List Int, Chars l → (encS l).length ≤ 4 * l.length
  | [], _ => by simp [encS]
  | c :: l, h => by have := encS_len l h.cons.2; have := enc_len4 h.cons.1; rw [encS_cons, List.length_append, List.length_cons]; omega
theorem char_small {c : Int} (h0 : 0 ≤ c) (h1 : c < 128) : charB c = true := by rw [charB_iff]; omega
theorem chars_nil' : Chars [] := fun c hc => by cases hc
theorem chars_one {c : Int} (h : charB c = true) : Chars [c] := fun d hd => by rw [List.mem_singleton] at hd; rw [hd]; exact h
theorem chars_cons {c : Int} {l : List Int} (h : charB c = true) (k : Chars l) : Chars (c :: l) := fun d hd => (List.mem_cons.1 hd).elim (fun e => e ▸ h) (k d)
theorem esc_chars {c : Int} (hc : charB c = true) (sp : List Int) : Chars (escC c sp) ∧ (escC c sp).length ≤ 2 := by
  unfold escC; split
  · exact ⟨chars_cons (by decide) (chars_one hc), by simp⟩
  · exact ⟨chars_one hc, by simp⟩
theorem item_chars {r : Int × Int} (h1 : charB r.1 = true) (h2 : charB r.2 = true) : Chars (itemC r) ∧ (itemC r).length ≤ 5 := by
  obtain ⟨a1, a2⟩ := esc_chars h1 insd
  obtain ⟨b1, b2⟩ := esc_chars h2 insd
  unfold itemC
  split
  · exact ⟨a1.append (chars_cons (by decide) b1), by simp; omega⟩
  · exact ⟨a1.append chars_nil', by simp; omega⟩
theorem items_chars : ∀ l : List (Int × Int), (∀ r, r ∈ l → charB r.1 = true ∧ charB r.2 = true) → Chars (itemsC l) ∧ (itemsC l).length ≤ 5 * l.length
  | [], _ => ⟨chars_nil', by simp [itemsC]⟩
  | r :: l, h => by
    obtain ⟨a1, a2⟩ := item_chars (h r (by simp)).1 (h r (by simp)).2
    obtain ⟨b1, b2⟩ := items_chars l fun q hq => h q (by simp [hq])
    rw [show itemsC (r :: l) = itemC r ++ itemsC l by simp [itemsC]]
    exact ⟨a1.append b1, by rw [List.length_append, List.length_cons]; omega⟩

theorem items60 (l : List (Int × Int)) (h : ∀ r, r ∈ l → charB r.1 = true ∧ charB r.2 = true) (hl : l.length ≤ 1000000) : PCall Tryd.prog 38 [.d (setD l)] (.d (.str (encS (itemsC l)))) := by
  refine fn38.pure noHint (Nat.le_refl _) (by simp only [go_sem, setD]) (by simp only [go_sem]) ?_
  simp (disch := omega) only [go_sem, reduceIte, reduceDIte, reduceCtorEq, Nat.reduceBEq, Nat.reduceEqDiff, Nat.reduceAdd, Nat.reduceSub, Nat.reduceMul, Nat.reduceLT, Nat.reduceLeDiff, Nat.reduceBNe, Int.reduceNeg, Int.reduceAdd, Int.reduceSub, Int.reduceMul, Int.reduceLT, Int.reduceLE, Int.reduceGT, Int.reduceGE, Int.reduceEq, Int.reduceNe, Int.reduceToNat, Int.reduceTMod, Int.reduceTDiv, setD]
  refine wL_ind (fun (k : Nat) fr σ => k ≤ l.length ∧ fr 3 = .d (.str (encS (itemsC (l.take k)))) ∧ fr 6 = .d (.list 2 (l.map rgD)) ∧ fr 7 = .d (.int .i64 l.length) ∧ fr 8 = .d (.int .i64 k)) (fun k => l.length - k) ?_ 0 ?_
  · rintro k fr σ ⟨hk, f3, f6, f7, f8⟩ ih
    by_cases hlt : k < l.length
    · obtain ⟨r, hr⟩ : ∃ r, r = l.getD k default := ⟨_, rfl⟩
      obtain ⟨h1, h2⟩ := h r (by rw [hr]; exact getD_mem l k hlt)
      have g1 : (l.map rgD).getD k default = rgD r := by rw [hr]; simp [List.getD_eq_getElem?_getD, hlt]
      have hnx : itemsC (l.take (k + 1)) = itemsC (l.take k) ++ itemC r := by rw [take_succ' l k hlt, ← hr]; simp [itemsC]
      have hsm : ∀ q, q ∈ l.take k → charB q.1 = true ∧ charB q.2 = true := fun q hq => h q (List.mem_of_mem_take hq)
      obtain ⟨ic, icl⟩ := items_chars _ hsm
      have il := encS_len _ ic
      have hkl : (l.take k).length ≤ 1000000 := by rw [List.length_take]; omega
      obtain ⟨c1, l1⟩ := esc_chars h1 insd
      obtain ⟨c2, l2⟩ := esc_chars h2 insd
      have e1 := encS_len _ c1
      have e2 := encS_len _ c2
      have x1 := escaped61 r.1 h1 insB (by decide) (by decide)
      have x2 := escaped61 r.2 h2 insB (by decide) (by decide)
      rw [ins_eq] at x1 x2
      simp (disch := omega) only [go_sem, reduceIte, reduceDIte, reduceCtorEq, Nat.reduceBEq, Nat.reduceEqDiff, Nat.reduceAdd, Nat.reduceSub, Nat.reduceMul, Nat.reduceLT, Nat.reduceLeDiff, Nat.reduceBNe, Int.reduceNeg, Int.reduceAdd, Int.reduceSub, Int.reduceMul, Int.reduceLT, Int.reduceLE, Int.reduceGT, Int.reduceGE, Int.reduceEq, Int.reduceNe, Int.reduceToNat, Int.reduceTMod, Int.reduceTDiv, f6, f7, f8, hlt, g1, rgD]
      refine x1.at ?_
      simp (disch := omega) only [go_sem, reduceIte, reduceDIte, reduceCtorEq, Nat.reduceBEq, Nat.reduceEqDiff, Nat.reduceAdd, Nat.reduceSub, Nat.reduceMul, Nat.reduceLT, Nat.reduceLeDiff, Nat.reduceBNe, Int.reduceNeg, Int.reduceAdd, Int.reduceSub, Int.reduceMul, Int.reduceLT, Int.reduceLE, Int.reduceGT, Int.reduceGE, Int.reduceEq, Int.reduceNe, Int.reduceToNat, Int.reduceTMod, Int.reduceTDiv, f3]
      refine ⟨by omega, ?_⟩
      by_cases hgt : r.1 < r.2
      · have ei : encS (itemsC (l.take (k + 1))) = encS (itemsC (l.take k)) ++ encS (escC r.1 insd) ++ (45 :: encS (escC r.2 insd)) := by
          rw [hnx, itemC, if_pos hgt, encS_append, encS_append, encS_cons, show encB 45 = [45] by decide]; simp
        simp (disch := omega) only [go_sem, reduceIte, reduceDIte, reduceCtorEq, Nat.reduceBEq, Nat.reduceEqDiff, Nat.reduceAdd, Nat.reduceSub, Nat.reduceMul, Nat.reduceLT, Nat.reduceLeDiff, Nat.reduceBNe, Int.reduceNeg, Int.reduceAdd, Int.reduceSub, Int.reduceMul, Int.reduceLT, Int.reduceLE, Int.reduceGT, Int.reduceGE, Int.reduceEq, Int.reduceNe, Int.reduceToNat, Int.reduceTMod, Int.reduceTDiv, hgt]
        refine x2.at ?_
        simp (disch := omega) only [go_sem, reduceIte, reduceDIte, reduceCtorEq, Nat.reduceBEq, Nat.reduceEqDiff, Nat.reduceAdd, Nat.reduceSub, Nat.reduceMul, Nat.reduceLT, Nat.reduceLeDiff, Nat.reduceBNe, Int.reduceNeg, Int.reduceAdd, Int.reduceSub, Int.reduceMul, Int.reduceLT, Int.reduceLE, Int.reduceGT, Int.reduceGE, Int.reduceEq, Int.reduceNe, Int.reduceToNat, Int.reduceTMod, Int.reduceTDiv, f8]
        refine ⟨by first | omega | (simp only [List.length_cons, List.length_nil]; omega), by first | omega | (simp only [List.length_append, List.length_cons, List.length_nil]; omega), ?_⟩
        refine ih (k + 1) _ _ (by omega) ⟨by omega, ?_, ?_, ?_, ?_⟩
        · rw [ei]; simp (disch := omega) only [go_sem, reduceIte, reduceDIte, reduceCtorEq, Nat.reduceBEq, Nat.reduceEqDiff, Nat.reduceAdd, Nat.reduceSub, Nat.reduceMul, Nat.reduceLT, Nat.reduceLeDiff, Nat.reduceBNe, Int.reduceNeg, Int.reduceAdd, Int.reduceSub, Int.reduceMul, Int.reduceLT, Int.reduceLE, Int.reduceGT, Int.reduceGE, Int.reduceEq, Int.reduceNe, Int.reduceToNat, Int.reduceTMod, Int.reduceTDiv, List.cons_append, List.nil_append]
        · simp (disch := omega) only [go_sem, reduceIte, reduceDIte, reduceCtorEq, Nat.reduceBEq, Nat.reduceEqDiff, Nat.reduceAdd, Nat.reduceSub, Nat.reduceMul, Nat.reduceLT, Nat.reduceLeDiff, Nat.reduceBNe, Int.reduceNeg, Int.reduceAdd, Int.reduceSub, Int.reduceMul, Int.reduceLT, Int.reduceLE, Int.reduceGT, Int.reduceGE, Int.reduceEq, Int.reduceNe, Int.reduceToNat, Int.reduceTMod, Int.reduceTDiv, f6]
        · simp (disch := omega) only [go_sem, reduceIte, reduceDIte, reduceCtorEq, Nat.reduceBEq, Nat.reduceEqDiff, Nat.reduceAdd, Nat.reduceSub, Nat.reduceMul, Nat.reduceLT, Nat.reduceLeDiff, Nat.reduceBNe, Int.reduceNeg, Int.reduceAdd, Int.reduceSub, Int.reduceMul, Int.reduceLT, Int.reduceLE, Int.reduceGT, Int.reduceGE, Int.reduceEq, Int.reduceNe, Int.reduceToNat, Int.reduceTMod, Int.reduceTDiv, f7]
        · simp (disch := omega) only [go_sem, reduceIte, reduceDIte, reduceCtorEq, Nat.reduceBEq, Nat.reduceEqDiff, Nat.reduceAdd, Nat.reduceSub, Nat.reduceMul, Nat.reduceLT, Nat.reduceLeDiff, Nat.reduceBNe, Int.reduceNeg, Int.reduceAdd, Int.reduceSub, Int.reduceMul, Int.reduceLT, Int.reduceLE, Int.reduceGT, Int.reduceGE, Int.reduceEq, Int.reduceNe, Int.reduceToNat, Int.reduceTMod, Int.reduceTDiv]
      · have ei : encS (itemsC (l.take (k + 1))) = encS (itemsC (l.take k)) ++ encS (escC r.1 insd) := by
          rw [hnx, itemC, if_neg hgt, encS_append, encS_append]; simp [encS]
        simp (disch := omega) only [go_sem, reduceIte, reduceDIte, reduceCtorEq, Nat.reduceBEq, Nat.reduceEqDiff, Nat.reduceAdd, Nat.reduceSub, Nat.reduceMul, Nat.reduceLT, Nat.reduceLeDiff, Nat.reduceBNe, Int.reduceNeg, Int.reduceAdd, Int.reduceSub, Int.reduceMul, Int.reduceLT, Int.reduceLE, Int.reduceGT, Int.reduceGE, Int.reduceEq, Int.reduceNe, Int.reduceToNat, Int.reduceTMod, Int.reduceTDiv, hgt, f8]
        refine ih (k + 1) _ _ (by omega) ⟨by omega, ?_, ?_, ?_, ?_⟩
        · rw [ei]; simp (disch := omega) only [go_sem, reduceIte, reduceDIte, reduceCtorEq, Nat.reduceBEq, Nat.reduceEqDiff, Nat.reduceAdd, Nat.reduceSub, Nat.reduceMul, Nat.reduceLT, Nat.reduceLeDiff, Nat.reduceBNe, Int.reduceNeg, Int.reduceAdd, Int.reduceSub, Int.reduceMul, Int.reduceLT, Int.reduceLE, Int.reduceGT, Int.reduceGE, Int.reduceEq, Int.reduceNe, Int.reduceToNat, Int.reduceTMod, Int.reduceTDiv]
        · simp (disch := omega) only [go_sem, reduceIte, reduceDIte, reduceCtorEq, Nat.reduceBEq, Nat.reduceEqDiff, Nat.reduceAdd, Nat.reduceSub, Nat.reduceMul, Nat.reduceLT, Nat.reduceLeDiff, Nat.reduceBNe, Int.reduceNeg, Int.reduceAdd, Int.reduceSub, Int.reduceMul, Int.reduceLT, Int.reduceLE, Int.reduceGT, Int.reduceGE, Int.reduceEq, Int.reduceNe, Int.reduceToNat, Int.reduceTMod, Int.reduceTDiv, f6]
        · simp (disch := omega) only [go_sem, reduceIte, reduceDIte, reduceCtorEq, Nat.reduceBEq, Nat.reduceEqDiff, Nat.reduceAdd, Nat.reduceSub, Nat.reduceMul, Nat.reduceLT, Nat.reduceLeDiff, Nat.reduceBNe, Int.reduceNeg, Int.reduceAdd, Int.reduceSub, Int.reduceMul, Int.reduceLT, Int.reduceLE, Int.reduceGT, Int.reduceGE, Int.reduceEq, Int.reduceNe, Int.reduceToNat, Int.reduceTMod, Int.reduceTDiv, f7]
        · simp (disch := omega) only [go_sem, reduceIte, reduceDIte, reduceCtorEq, Nat.reduceBEq, Nat.reduceEqDiff, Nat.reduceAdd, Nat.reduceSub, Nat.reduceMul, Nat.reduceLT, Nat.reduceLeDiff, Nat.reduceBNe, Int.reduceNeg, Int.reduceAdd, Int.reduceSub, Int.reduceMul, Int.reduceLT, Int.reduceLE, Int.reduceGT, Int.reduceGE, Int.reduceEq, Int.reduceNe, Int.reduceToNat, Int.reduceTMod, Int.reduceTDiv]
    · have ek : l.take k = l := List.take_of_length_le (by omega)
      rw [ek] at f3
      simp (disch := omega) only [go_sem, reduceIte, reduceDIte, reduceCtorEq, Nat.reduceBEq, Nat.reduceEqDiff, Nat.reduceAdd, Nat.reduceSub, Nat.reduceMul, Nat.reduceLT, Nat.reduceLeDiff, Nat.reduceBNe, Int.reduceNeg, Int.reduceAdd, Int.reduceSub, Int.reduceMul, Int.reduceLT, Int.reduceLE, Int.reduceGT, Int.reduceGE, Int.reduceEq, Int.reduceNe, Int.reduceToNat, Int.reduceTMod, Int.reduceTDiv, f3, f7, f8, hlt]
  · refine ⟨by omega, ?_, ?_, ?_, ?_⟩
    · simp (disch := omega) only [go_sem, reduceIte, reduceDIte, reduceCtorEq, Nat.reduceBEq, Nat.reduceEqDiff, Nat.reduceAdd, Nat.reduceSub, Nat.reduceMul, Nat.reduceLT, Nat.reduceLeDiff, Nat.reduceBNe, Int.reduceNeg, Int.reduceAdd, Int.reduceSub, Int.reduceMul, Int.reduceLT, Int.reduceLE, Int.reduceGT, Int.reduceGE, Int.reduceEq, Int.reduceNe, Int.reduceToNat, Int.reduceTMod, Int.reduceTDiv]; rfl
    · simp (disch := omega) only [go_sem, reduceIte, reduceDIte, reduceCtorEq, Nat.reduceBEq, Nat.reduceEqDiff, Nat.reduceAdd, Nat.reduceSub, Nat.reduceMul, Nat.reduceLT, Nat.reduceLeDiff, Nat.reduceBNe, Int.reduceNeg, Int.reduceAdd, Int.reduceSub, Int.reduceMul, Int.reduceLT, Int.reduceLE, Int.reduceGT, Int.reduceGE, Int.reduceEq, Int.reduceNe, Int.reduceToNat, Int.reduceTMod, Int.reduceTDiv]
    · simp (disch := omega) only [go_sem, reduceIte, reduceDIte, reduceCtorEq, Nat.reduceBEq, Nat.reduceEqDiff, Nat.reduceAdd, Nat.reduceSub, Nat.reduceMul, Nat.reduceLT, Nat.reduceLeDiff, Nat.reduceBNe, Int.reduceNeg, Int.reduceAdd, Int.reduceSub, Int.reduceMul, Int.reduceLT, Int.reduceLE, Int.reduceGT, Int.reduceGE, Int.reduceEq, Int.reduceNe, Int.reduceToNat, Int.reduceTMod, Int.reduceTDiv]
    · simp (disch := omega) only [go_sem, reduceIte, reduceDIte, reduceCtorEq, Nat.reduceBEq, Nat.reduceEqDiff, Nat.reduceAdd, Nat.reduceSub, Nat.reduceMul, Nat.reduceLT, Nat.reduceLeDiff, Nat.reduceBNe, Int.reduceNeg, Int.reduceAdd, Int.reduceSub, Int.reduceMul, Int.reduceLT, Int.reduceLE, Int.reduceGT, Int.reduceGE, Int.reduceEq, Int.reduceNe, Int.reduceToNat, Int.reduceTMod, Int.reduceTDiv]
end Go.Proofs.YtebejiilpedlmaaDoor
set_option linter.unusedVariables false
set_option linter.unusedSimpArgs false
set_option maxRecDepth 100000
namespace Go.Proofs.YtebejiilpedlmaaDoor
open Go Nv Pat

def gcs2 (g : Nat) : Bool := Nat.beq g 43 || gcs g
noncomputable def E31b : Eenv := ⟨stdTab Tryd.prog hints gcs2, spec, fun g => Nat.beq g 55⟩
theorem E31b_ok : EnvOK Tryd.prog E31b := ⟨stdTab_ok foll, fun g args r h => E31_ok.spec g args r h, fun g h => E31_ok.esc g h⟩
theorem itoa65 {n : Int} (h0 : 0 ≤ n) (h20 : n ≤ 20) : PCall Tryd.prog 43 [.d (.int .i64 n)] (.d (.str (encS (numC n)))) := by
  have key : ∀ k : Nat, k < 21 → PCall Tryd.prog 43 [.d (.int .i64 (k : Nat))] (.d (.str (encS (numC (k : Nat))))) := by
    intro k hk
    match k, hk with
    | 0, _ => exact ev_pcall E31b_ok (n := 100) (by kernel_rfl)
    | 1, _ => exact ev_pcall E31b_ok (n := 100) (by kernel_rfl)
    | 2, _ => exact ev_pcall E31b_ok (n := 100) (by kernel_rfl)
    | 3, _ => exact ev_pcall E31b_ok (n := 100) (by kernel_rfl)
    | 4, _ => exact ev_pcall E31b_ok (n := 100) (by kernel_rfl)
    | 5, _ => exact ev_pcall E31b_ok (n := 100) (by kernel_rfl)
    | 6, _ => exact ev_pcall E31b_ok (n := 100) (by kernel_rfl)
    | 7, _ => exact ev_pcall E31b_ok (n := 100) (by kernel_rfl)
    | 8, _ => exact ev_pcall E31b_ok (n := 100) (by kernel_rfl)
    | 9, _ => exact ev_pcall E31b_ok (n := 100) (by kernel_rfl)
    | 10, _ => exact ev_pcall E31b_ok (n := 100) (by kernel_rfl)
    | 11, _ => exact ev_pcall E31b_ok (n := 100) (by kernel_rfl)
    | 12, _ => exact ev_pcall E31b_ok (n := 100) (by kernel_rfl)
    | 13, _ => exact ev_pcall E31b_ok (n := 100) (by kernel_rfl)
    | 14, _ => exact ev_pcall E31b_ok (n := 100) (by kernel_rfl)
    | 15, _ => exact ev_pcall E31b_ok (n := 100) (by kernel_rfl)
    | 16, _ => exact ev_pcall E31b_ok (n := 100) (by kernel_rfl)
    | 17, _ => exact ev_pcall E31b_ok (n := 100) (by kernel_rfl)
    | 18, _ => exact ev_pcall E31b_ok (n := 100) (by kernel_rfl)
    | 19, _ => exact ev_pcall E31b_ok (n := 100) (by kernel_rfl)
    | 20, _ => exact ev_pcall E31b_ok (n := 100) (by kernel_rfl)
    | k + 21, hk => omega
  obtain ⟨k, rfl⟩ : ∃ k : Nat, n = k := ⟨n.toNat, by omega⟩
  exact key k (by omega)

theorem num_chars {n : Int} (h0 : 0 ≤ n) (h20 : n ≤ 20) : Chars (numC n) ∧ (numC n).length ≤ 2 := by
  unfold numC
  split
  · exact ⟨chars_one (char_small (by omega) (by omega)), by simp⟩
  · exact ⟨chars_cons (char_small (by omega) (by omega)) (chars_one (char_small (by omega) (by omega))), by simp⟩
theorem suf_chars {a b : Int} (ha0 : 0 ≤ a) (ha : a ≤ 20) (hb : b = -1 ∨ (a ≤ b ∧ b ≤ 20)) : Chars (sufC a b) ∧ (sufC a b).length ≤ 7 := by
  obtain ⟨a1, a2⟩ := num_chars ha0 ha
  unfold sufC
  split
  · exact ⟨chars_one (by decide), by simp⟩
  split
  · exact ⟨chars_one (by decide), by simp⟩
  split
  · exact ⟨chars_one (by decide), by simp⟩
  split
  · exact ⟨chars_cons (by decide) (a1.append (chars_one (by decide))), by simp; omega⟩
  split
  · exact ⟨chars_cons (by decide) (a1.append (chars_cons (by decide) (chars_one (by decide)))), by simp; omega⟩
  · obtain ⟨b1, b2⟩ := num_chars (n := b) (by omega) (by omega)
    exact ⟨chars_cons (by decide) ((a1.append (chars_cons (by decide) b1)).append (chars_one (by decide))), by simp; omega⟩

theorem suffix42 {a b : Int} (ha0 : 0 ≤ a) (ha : a ≤ 20) (hb : b = -1 ∨ (a ≤ b ∧ b ≤ 20)) : PCall Tryd.prog 27 [.d (.int .i64 a), .d (.int .i64 b)] (.d (.str (encS (sufC a b)))) := by
  refine fn27.pure noHint (Nat.le_refl _) (by simp only [go_sem]) (by simp only [go_sem]) ?_
  obtain ⟨ac, al⟩ := num_chars ha0 ha
  have ael := encS_len _ ac
  simp (disch := omega) only [go_sem, reduceIte, reduceDIte, reduceCtorEq, Nat.reduceBEq, Nat.reduceEqDiff, Nat.reduceAdd, Nat.reduceSub, Nat.reduceMul, Nat.reduceLT, Nat.reduceLeDiff, Nat.reduceBNe, Int.reduceNeg, Int.reduceAdd, Int.reduceSub, Int.reduceMul, Int.reduceLT, Int.reduceLE, Int.reduceGT, Int.reduceGE, Int.reduceEq, Int.reduceNe, Int.reduceToNat, Int.reduceTMod, Int.reduceTDiv]
  refine (itoa65 ha0 ha).at ?_
  obtain ⟨R, hR⟩ : ∃ R, R = encS (sufC a b) := ⟨_, rfl⟩
  rw [← hR]
  by_cases q1 : a = 0 ∧ b = -1
  · obtain ⟨rfl, rfl⟩ := q1
    rw [hR]
    simp (disch := omega) only [go_sem, reduceIte, reduceDIte, reduceCtorEq, Nat.reduceBEq, Nat.reduceEqDiff, Nat.reduceAdd, Nat.reduceSub, Nat.reduceMul, Nat.reduceLT, Nat.reduceLeDiff, Nat.reduceBNe, Int.reduceNeg, Int.reduceAdd, Int.reduceSub, Int.reduceMul, Int.reduceLT, Int.reduceLE, Int.reduceGT, Int.reduceGE, Int.reduceEq, Int.reduceNe, Int.reduceToNat, Int.reduceTMod, Int.reduceTDiv]; rfl
  by_cases q2 : a = 1 ∧ b = -1
  · obtain ⟨rfl, rfl⟩ := q2
    rw [hR]
    simp (disch := omega) only [go_sem, reduceIte, reduceDIte, reduceCtorEq, Nat.reduceBEq, Nat.reduceEqDiff, Nat.reduceAdd, Nat.reduceSub, Nat.reduceMul, Nat.reduceLT, Nat.reduceLeDiff, Nat.reduceBNe, Int.reduceNeg, Int.reduceAdd, Int.reduceSub, Int.reduceMul, Int.reduceLT, Int.reduceLE, Int.reduceGT, Int.reduceGE, Int.reduceEq, Int.reduceNe, Int.reduceToNat, Int.reduceTMod, Int.reduceTDiv]; rfl
  by_cases q3 : a = 0 ∧ b = 1
  · obtain ⟨rfl, rfl⟩ := q3
    rw [hR]
    simp (disch := omega) only [go_sem, reduceIte, reduceDIte, reduceCtorEq, Nat.reduceBEq, Nat.reduceEqDiff, Nat.reduceAdd, Nat.reduceSub, Nat.reduceMul, Nat.reduceLT, Nat.reduceLeDiff, Nat.reduceBNe, Int.reduceNeg, Int.reduceAdd, Int.reduceSub, Int.reduceMul, Int.reduceLT, Int.reduceLE, Int.reduceGT, Int.reduceGE, Int.reduceEq, Int.reduceNe, Int.reduceToNat, Int.reduceTMod, Int.reduceTDiv]; rfl
  have b123 : encB 123 = [123] := by decide
  have b125 : encB 125 = [125] := by decide
  have b44 : encB 44 = [44] := by decide
  have hnil : encS [] = [] := rfl
  by_cases a0 : a = 0
  case' pos =>
    have a0' : (a = 0) = True := eq_true a0
    have a1' : (a = 1) = False := eq_false (by omega)
    have h1 : ¬ b = -1 := fun h => q1 ⟨a0, h⟩
    have h2 : ¬ b = 1 := fun h => q3 ⟨a0, h⟩
    simp (disch := omega) only [go_sem, reduceIte, reduceDIte, reduceCtorEq, Nat.reduceBEq, Nat.reduceEqDiff, Nat.reduceAdd, Nat.reduceSub, Nat.reduceMul, Nat.reduceLT, Nat.reduceLeDiff, Nat.reduceBNe, Int.reduceNeg, Int.reduceAdd, Int.reduceSub, Int.reduceMul, Int.reduceLT, Int.reduceLE, Int.reduceGT, Int.reduceGE, Int.reduceEq, Int.reduceNe, Int.reduceToNat, Int.reduceTMod, Int.reduceTDiv, a0', a1', h1, h2, decide_true, decide_false]
  case' neg =>
    have a0' : (a = 0) = False := eq_false a0
    by_cases a1 : a = 1
    case' pos =>
      have a1' : (a = 1) = True := eq_true a1
      have h1 : ¬ b = -1 := fun h => q2 ⟨a1, h⟩
      simp (disch := omega) only [go_sem, reduceIte, reduceDIte, reduceCtorEq, Nat.reduceBEq, Nat.reduceEqDiff, Nat.reduceAdd, Nat.reduceSub, Nat.reduceMul, Nat.reduceLT, Nat.reduceLeDiff, Nat.reduceBNe, Int.reduceNeg, Int.reduceAdd, Int.reduceSub, Int.reduceMul, Int.reduceLT, Int.reduceLE, Int.reduceGT, Int.reduceGE, Int.reduceEq, Int.reduceNe, Int.reduceToNat, Int.reduceTMod, Int.reduceTDiv, a0', a1', h1, decide_true, decide_false]
    case' neg =>
      have a1' : (a = 1) = False := eq_false a1
      simp (disch := omega) only [go_sem, reduceIte, reduceDIte, reduceCtorEq, Nat.reduceBEq, Nat.reduceEqDiff, Nat.reduceAdd, Nat.reduceSub, Nat.reduceMul, Nat.reduceLT, Nat.reduceLeDiff, Nat.reduceBNe, Int.reduceNeg, Int.reduceAdd, Int.reduceSub, Int.reduceMul, Int.reduceLT, Int.reduceLE, Int.reduceGT, Int.reduceGE, Int.reduceEq, Int.reduceNe, Int.reduceToNat, Int.reduceTMod, Int.reduceTDiv, a0', a1', decide_true, decide_false]
  all_goals
    by_cases q4 : a = b
    · have q4' : (a = b) = True := eq_true q4
      have ee : R = 123 :: (encS (numC a) ++ [125]) := by rw [hR, sufC, if_neg q1, if_neg q2, if_neg q3, if_pos q4]; simp [encS_cons, encS_append, b123, b125, hnil]
      rw [ee]
      simp (disch := omega) only [go_sem, reduceIte, reduceDIte, reduceCtorEq, Nat.reduceBEq, Nat.reduceEqDiff, Nat.reduceAdd, Nat.reduceSub, Nat.reduceMul, Nat.reduceLT, Nat.reduceLeDiff, Nat.reduceBNe, Int.reduceNeg, Int.reduceAdd, Int.reduceSub, Int.reduceMul, Int.reduceLT, Int.reduceLE, Int.reduceGT, Int.reduceGE, Int.reduceEq, Int.reduceNe, Int.reduceToNat, Int.reduceTMod, Int.reduceTDiv, q4', decide_true]
      omega
    · have q4' : (a = b) = False := eq_false q4
      by_cases q5 : b = -1
      · have q5' : (b = -1) = True := eq_true q5
        have ee : R = 123 :: (encS (numC a) ++ [44, 125]) := by rw [hR, sufC, if_neg q1, if_neg q2, if_neg q3, if_neg q4, if_pos q5]; simp [encS_cons, encS_append, b123, b125, b44, hnil]
        rw [ee]
        simp (disch := omega) only [go_sem, reduceIte, reduceDIte, reduceCtorEq, Nat.reduceBEq, Nat.reduceEqDiff, Nat.reduceAdd, Nat.reduceSub, Nat.reduceMul, Nat.reduceLT, Nat.reduceLeDiff, Nat.reduceBNe, Int.reduceNeg, Int.reduceAdd, Int.reduceSub, Int.reduceMul, Int.reduceLT, Int.reduceLE, Int.reduceGT, Int.reduceGE, Int.reduceEq, Int.reduceNe, Int.reduceToNat, Int.reduceTMod, Int.reduceTDiv, q4', q5', decide_true, decide_false]
        omega
      · have q5' : (b = -1) = False := eq_false q5
        have hb' : a ≤ b ∧ b ≤ 20 := by omega
        have ee : R = 123 :: (encS (numC a) ++ 44 :: (encS (numC b) ++ [125])) := by rw [hR, sufC, if_neg q1, if_neg q2, if_neg q3, if_neg q4, if_neg q5]; simp [encS_cons, encS_append, b123, b125, b44, hnil]
        obtain ⟨bc, bl⟩ := num_chars (n := b) (by omega) (by omega)
        have bel := encS_len _ bc
        rw [ee]
        simp (disch := omega) only [go_sem, reduceIte, reduceDIte, reduceCtorEq, Nat.reduceBEq, Nat.reduceEqDiff, Nat.reduceAdd, Nat.reduceSub, Nat.reduceMul, Nat.reduceLT, Nat.reduceLeDiff, Nat.reduceBNe, Int.reduceNeg, Int.reduceAdd, Int.reduceSub, Int.reduceMul, Int.reduceLT, Int.reduceLE, Int.reduceGT, Int.reduceGE, Int.reduceEq, Int.reduceNe, Int.reduceToNat, Int.reduceTMod, Int.reduceTDiv, q4', q5', decide_false]
        refine ⟨by first | omega | (simp only [List.length_cons, List.length_nil]; omega), by first | omega | (simp only [List.length_append, List.length_cons, List.length_nil]; omega), ?_⟩
        refine (itoa65 (n := b) (by omega) (by omega)).at ?_
        simp (disch := omega) only [go_sem, reduceIte, reduceDIte, reduceCtorEq, Nat.reduceBEq, Nat.reduceEqDiff, Nat.reduceAdd, Nat.reduceSub, Nat.reduceMul, Nat.reduceLT, Nat.reduceLeDiff, Nat.reduceBNe, Int.reduceNeg, Int.reduceAdd, Int.reduceSub, Int.reduceMul, Int.reduceLT, Int.reduceLE, Int.reduceGT, Int.reduceGE, Int.reduceEq, Int.reduceNe, Int.reduceToNat, Int.reduceTMod, Int.reduceTDiv]
        exact ⟨by first | omega | (simp only [List.length_append, List.length_cons, List.length_nil]; omega), by first | omega | (simp only [List.length_append, List.length_cons, List.length_nil]; omega), by simp⟩
end Go.Proofs.YtebejiilpedlmaaDoor
set_option linter.unusedVariables false
set_option linter.unusedSimpArgs false
set_option maxRecDepth 100000
namespace Go.Proofs.YtebejiilpedlmaaDoor
open Go Nv Pat

theorem rg_chars {s : List (Int × Int)} (h : properB s = true) : ∀ r, r ∈ s → charB r.1 = true ∧ charB r.2 = true := fun r hr =>
  have := rgB_ok ((proper_ok h).1 r hr)
  ⟨this.1, this.2.1⟩
theorem all_chars : ∀ r, r ∈ allS → charB r.1 = true ∧ charB r.2 = true := rg_chars (s := allS) (by decide)
theorem set_chars {s : List (Int × Int)} (h : properB s = true) : Chars (setC s) ∧ (setC s).length ≤ 5 * s.length + 20 := by
  obtain ⟨a1, a2⟩ := items_chars s (rg_chars h)
  obtain ⟨b1, b2⟩ := items_chars allS all_chars
  unfold setC
  split
  · exact ⟨chars_one (by decide), by simp⟩
  split
  · exact ⟨(Chars.append (chars_cons (by decide) (chars_one (by decide))) b1).append (chars_one (by decide)), by simp [allS] at *; omega⟩
  split
  · rename_i h2
    have hm : s.headD default ∈ s := by
      cases s with
      | nil => simp at h2
      | cons q s => simp
    obtain ⟨c1, c2⟩ := esc_chars (rg_chars h _ hm).1 Pat.spec
    exact ⟨c1, by omega⟩
  · exact ⟨chars_cons (by decide) (a1.append (chars_one (by decide))), by simp; omega⟩

theorem set39 (s : List (Int × Int)) (h : properB s = true) (hl : s.length ≤ 1000000) : PCall Tryd.prog 24 [.d (setD s)] (.d (.str (encS (setC s)))) := by
  refine fn24.pure noHint (Nat.le_refl _) (by simp only [go_sem, setD]) (by simp only [go_sem]) ?_
  obtain ⟨R, hR⟩ : ∃ R, R = encS (setC s) := ⟨_, rfl⟩
  rw [← hR]
  have b91 : encB 91 = [91] := by decide
  have b93 : encB 93 = [93] := by decide
  have b94 : encB 94 = [94] := by decide
  have b46 : encB 46 = [46] := by decide
  have hnil : encS [] = [] := rfl
  obtain ⟨a1, a2⟩ := items_chars s (rg_chars h)
  have ael := encS_len _ a1
  simp (disch := omega) only [go_sem, reduceIte, reduceDIte, reduceCtorEq, Nat.reduceBEq, Nat.reduceEqDiff, Nat.reduceAdd, Nat.reduceSub, Nat.reduceMul, Nat.reduceLT, Nat.reduceLeDiff, Nat.reduceBNe, Int.reduceNeg, Int.reduceAdd, Int.reduceSub, Int.reduceMul, Int.reduceLT, Int.reduceLE, Int.reduceGT, Int.reduceGE, Int.reduceEq, Int.reduceNe, Int.reduceToNat, Int.reduceTMod, Int.reduceTDiv]
  refine all59.at ?_
  simp (disch := omega) only [go_sem, reduceIte, reduceDIte, reduceCtorEq, Nat.reduceBEq, Nat.reduceEqDiff, Nat.reduceAdd, Nat.reduceSub, Nat.reduceMul, Nat.reduceLT, Nat.reduceLeDiff, Nat.reduceBNe, Int.reduceNeg, Int.reduceAdd, Int.reduceSub, Int.reduceMul, Int.reduceLT, Int.reduceLE, Int.reduceGT, Int.reduceGE, Int.reduceEq, Int.reduceNe, Int.reduceToNat, Int.reduceTMod, Int.reduceTDiv]
  refine (equal58 s allS hl).at ?_
  by_cases q1 : s = allS
  · have e : R = [46] := by rw [hR, setC, if_pos q1, encS_cons, b46]; rfl
    have q1' : (s = allS) = True := eq_true q1
    rw [e]
    simp (disch := omega) only [go_sem, reduceIte, reduceDIte, reduceCtorEq, Nat.reduceBEq, Nat.reduceEqDiff, Nat.reduceAdd, Nat.reduceSub, Nat.reduceMul, Nat.reduceLT, Nat.reduceLeDiff, Nat.reduceBNe, Int.reduceNeg, Int.reduceAdd, Int.reduceSub, Int.reduceMul, Int.reduceLT, Int.reduceLE, Int.reduceGT, Int.reduceGE, Int.reduceEq, Int.reduceNe, Int.reduceToNat, Int.reduceTMod, Int.reduceTDiv, q1', decide_true]
  have q1' : (s = allS) = False := eq_false q1
  by_cases q2 : s = []
  · obtain ⟨b1, b2⟩ := items_chars allS all_chars
    have bel := encS_len _ b1
    have e : R = 91 :: 94 :: (encS (itemsC allS) ++ [93]) := by rw [hR, setC, if_neg q1, if_pos q2]; simp [encS_cons, encS_append, b91, b93, b94, hnil]
    rw [e]
    have z : ((s.length : Nat) : Int) = 0 := by rw [q2]; rfl
    have b3 : (itemsC allS).length ≤ 10 := by simp [allS] at b2 ⊢; exact b2
    simp (disch := omega) only [go_sem, reduceIte, reduceDIte, reduceCtorEq, Nat.reduceBEq, Nat.reduceEqDiff, Nat.reduceAdd, Nat.reduceSub, Nat.reduceMul, Nat.reduceLT, Nat.reduceLeDiff, Nat.reduceBNe, Int.reduceNeg, Int.reduceAdd, Int.reduceSub, Int.reduceMul, Int.reduceLT, Int.reduceLE, Int.reduceGT, Int.reduceGE, Int.reduceEq, Int.reduceNe, Int.reduceToNat, Int.reduceTMod, Int.reduceTDiv, q1', setD, List.length_map, z, decide_false]
    refine all59.at ?_
    simp (disch := omega) only [go_sem, reduceIte, reduceDIte, reduceCtorEq, Nat.reduceBEq, Nat.reduceEqDiff, Nat.reduceAdd, Nat.reduceSub, Nat.reduceMul, Nat.reduceLT, Nat.reduceLeDiff, Nat.reduceBNe, Int.reduceNeg, Int.reduceAdd, Int.reduceSub, Int.reduceMul, Int.reduceLT, Int.reduceLE, Int.reduceGT, Int.reduceGE, Int.reduceEq, Int.reduceNe, Int.reduceToNat, Int.reduceTMod, Int.reduceTDiv]
    refine (items60 allS all_chars (by decide)).at ?_
    simp (disch := omega) only [go_sem, reduceIte, reduceDIte, reduceCtorEq, Nat.reduceBEq, Nat.reduceEqDiff, Nat.reduceAdd, Nat.reduceSub, Nat.reduceMul, Nat.reduceLT, Nat.reduceLeDiff, Nat.reduceBNe, Int.reduceNeg, Int.reduceAdd, Int.reduceSub, Int.reduceMul, Int.reduceLT, Int.reduceLE, Int.reduceGT, Int.reduceGE, Int.reduceEq, Int.reduceNe, Int.reduceToNat, Int.reduceTMod, Int.reduceTDiv]
    omega
  have z : ¬ ((s.length : Nat) : Int) = 0 := by
    intro h; exact q2 (List.eq_nil_of_length_eq_zero (by omega))
  by_cases q3 : s.length = 1
  · obtain ⟨r, rfl⟩ : ∃ r, s = [r] := by
      match s, q3 with
      | [r], _ => exact ⟨r, rfl⟩
    have z2 : ¬ ((1 : Nat) : Int) = 0 := by decide
    have z3 : (((1 : Nat) : Int) = 1) = True := eq_true rfl
    have z4 : (0 : Int) < ((1 : Nat) : Int) := by decide
    by_cases q4 : r.1 = r.2
    · have hx := escaped61 r.1 (rg_chars h r (by simp)).1 specB spec_lt (by decide)
      rw [spec_eq] at hx
      have e : R = encS (escC r.1 Pat.spec) := by rw [hR, setC, if_neg q1, if_neg q2, if_pos ⟨by simp, by simpa using q4⟩]; rfl
      have q4' : (r.1 = r.2) = True := eq_true q4
      rw [e]
      simp (disch := omega) only [go_sem, reduceIte, reduceDIte, reduceCtorEq, Nat.reduceBEq, Nat.reduceEqDiff, Nat.reduceAdd, Nat.reduceSub, Nat.reduceMul, Nat.reduceLT, Nat.reduceLeDiff, Nat.reduceBNe, Int.reduceNeg, Int.reduceAdd, Int.reduceSub, Int.reduceMul, Int.reduceLT, Int.reduceLE, Int.reduceGT, Int.reduceGE, Int.reduceEq, Int.reduceNe, Int.reduceToNat, Int.reduceTMod, Int.reduceTDiv, q1', setD, List.length_map, List.map_cons, List.map_nil, rgD, z2, z3, z4, q4', decide_true, decide_false]
      refine hx.at ?_
      simp (disch := omega) only [go_sem, reduceIte, reduceDIte, reduceCtorEq, Nat.reduceBEq, Nat.reduceEqDiff, Nat.reduceAdd, Nat.reduceSub, Nat.reduceMul, Nat.reduceLT, Nat.reduceLeDiff, Nat.reduceBNe, Int.reduceNeg, Int.reduceAdd, Int.reduceSub, Int.reduceMul, Int.reduceLT, Int.reduceLE, Int.reduceGT, Int.reduceGE, Int.reduceEq, Int.reduceNe, Int.reduceToNat, Int.reduceTMod, Int.reduceTDiv]
    · have e : R = 91 :: (encS (itemsC [r]) ++ [93]) := by rw [hR, setC, if_neg q1, if_neg q2, if_neg (fun h => q4 (by simpa using h.2))]; simp [encS_cons, encS_append, b91, b93, hnil]
      have q4' : (r.1 = r.2) = False := eq_false q4
      rw [e]
      simp (disch := omega) only [go_sem, reduceIte, reduceDIte, reduceCtorEq, Nat.reduceBEq, Nat.reduceEqDiff, Nat.reduceAdd, Nat.reduceSub, Nat.reduceMul, Nat.reduceLT, Nat.reduceLeDiff, Nat.reduceBNe, Int.reduceNeg, Int.reduceAdd, Int.reduceSub, Int.reduceMul, Int.reduceLT, Int.reduceLE, Int.reduceGT, Int.reduceGE, Int.reduceEq, Int.reduceNe, Int.reduceToNat, Int.reduceTMod, Int.reduceTDiv, q1', setD, List.length_map, List.map_cons, List.map_nil, rgD, z2, z3, z4, q4', decide_true, decide_false]
      refine (items60 [r] (rg_chars h) (by simp)).at ?_
      simp (disch := omega) only [go_sem, reduceIte, reduceDIte, reduceCtorEq, Nat.reduceBEq, Nat.reduceEqDiff, Nat.reduceAdd, Nat.reduceSub, Nat.reduceMul, Nat.reduceLT, Nat.reduceLeDiff, Nat.reduceBNe, Int.reduceNeg, Int.reduceAdd, Int.reduceSub, Int.reduceMul, Int.reduceLT, Int.reduceLE, Int.reduceGT, Int.reduceGE, Int.reduceEq, Int.reduceNe, Int.reduceToNat, Int.reduceTMod, Int.reduceTDiv]
      simp only [List.length_singleton] at a2
      omega
  · have e : R = 91 :: (encS (itemsC s) ++ [93]) := by rw [hR, setC, if_neg q1, if_neg q2, if_neg (fun h => q3 h.1)]; simp [encS_cons, encS_append, b91, b93, hnil]
    have z3 : ¬ ((s.length : Nat) : Int) = 1 := by omega
    rw [e]
    simp (disch := omega) only [go_sem, reduceIte, reduceDIte, reduceCtorEq, Nat.reduceBEq, Nat.reduceEqDiff, Nat.reduceAdd, Nat.reduceSub, Nat.reduceMul, Nat.reduceLT, Nat.reduceLeDiff, Nat.reduceBNe, Int.reduceNeg, Int.reduceAdd, Int.reduceSub, Int.reduceMul, Int.reduceLT, Int.reduceLE, Int.reduceGT, Int.reduceGE, Int.reduceEq, Int.reduceNe, Int.reduceToNat, Int.reduceTMod, Int.reduceTDiv, q1', setD, List.length_map, z, z3, decide_false]
    refine (items60 s (rg_chars h) hl).at ?_
    simp (disch := omega) only [go_sem, reduceIte, reduceDIte, reduceCtorEq, Nat.reduceBEq, Nat.reduceEqDiff, Nat.reduceAdd, Nat.reduceSub, Nat.reduceMul, Nat.reduceLT, Nat.reduceLeDiff, Nat.reduceBNe, Int.reduceNeg, Int.reduceAdd, Int.reduceSub, Int.reduceMul, Int.reduceLT, Int.reduceLE, Int.reduceGT, Int.reduceGE, Int.reduceEq, Int.reduceNe, Int.reduceToNat, Int.reduceTMod, Int.reduceTDiv]
    omega

theorem enclosed40 (k e : Int) : PCall Tryd.prog 25 [.d (.int .i64 k), .d (.int .i64 e)] (.d (.bool (encl k e))) := by
  refine fn25.pure noHint (Nat.le_refl _) (by simp only [go_sem]) (by simp only [go_sem]) ?_
  unfold encl
  by_cases k3 : k = 3
  · by_cases e3 : e = 3
    · simp (disch := omega) only [go_sem, reduceIte, reduceDIte, reduceCtorEq, Nat.reduceBEq, Nat.reduceEqDiff, Nat.reduceAdd, Nat.reduceSub, Nat.reduceMul, Nat.reduceLT, Nat.reduceLeDiff, Nat.reduceBNe, Int.reduceNeg, Int.reduceAdd, Int.reduceSub, Int.reduceMul, Int.reduceLT, Int.reduceLE, Int.reduceGT, Int.reduceGE, Int.reduceEq, Int.reduceNe, Int.reduceToNat, Int.reduceTMod, Int.reduceTDiv, k3, e3, decide_true, Bool.true_or]
    · by_cases e4 : e = 4
      · simp (disch := omega) only [go_sem, reduceIte, reduceDIte, reduceCtorEq, Nat.reduceBEq, Nat.reduceEqDiff, Nat.reduceAdd, Nat.reduceSub, Nat.reduceMul, Nat.reduceLT, Nat.reduceLeDiff, Nat.reduceBNe, Int.reduceNeg, Int.reduceAdd, Int.reduceSub, Int.reduceMul, Int.reduceLT, Int.reduceLE, Int.reduceGT, Int.reduceGE, Int.reduceEq, Int.reduceNe, Int.reduceToNat, Int.reduceTMod, Int.reduceTDiv, k3, e3, e4, decide_true, decide_false, Bool.true_or, Bool.or_true]
      · simp (disch := omega) only [go_sem, reduceIte, reduceDIte, reduceCtorEq, Nat.reduceBEq, Nat.reduceEqDiff, Nat.reduceAdd, Nat.reduceSub, Nat.reduceMul, Nat.reduceLT, Nat.reduceLeDiff, Nat.reduceBNe, Int.reduceNeg, Int.reduceAdd, Int.reduceSub, Int.reduceMul, Int.reduceLT, Int.reduceLE, Int.reduceGT, Int.reduceGE, Int.reduceEq, Int.reduceNe, Int.reduceToNat, Int.reduceTMod, Int.reduceTDiv, k3, e3, e4, decide_false, Bool.false_or]
  · by_cases k4 : k = 4
    · simp (disch := omega) only [go_sem, reduceIte, reduceDIte, reduceCtorEq, Nat.reduceBEq, Nat.reduceEqDiff, Nat.reduceAdd, Nat.reduceSub, Nat.reduceMul, Nat.reduceLT, Nat.reduceLeDiff, Nat.reduceBNe, Int.reduceNeg, Int.reduceAdd, Int.reduceSub, Int.reduceMul, Int.reduceLT, Int.reduceLE, Int.reduceGT, Int.reduceGE, Int.reduceEq, Int.reduceNe, Int.reduceToNat, Int.reduceTMod, Int.reduceTDiv, k3, k4]
    · simp (disch := omega) only [go_sem, reduceIte, reduceDIte, reduceCtorEq, Nat.reduceBEq, Nat.reduceEqDiff, Nat.reduceAdd, Nat.reduceSub, Nat.reduceMul, Nat.reduceLT, Nat.reduceLeDiff, Nat.reduceBNe, Int.reduceNeg, Int.reduceAdd, Int.reduceSub, Int.reduceMul, Int.reduceLT, Int.reduceLE, Int.reduceGT, Int.reduceGE, Int.reduceEq, Int.reduceNe, Int.reduceToNat, Int.reduceTMod, Int.reduceTDiv, k3, k4]
end Go.Proofs.YtebejiilpedlmaaDoor
set_option linter.unusedVariables false
set_option linter.unusedSimpArgs false
set_option maxRecDepth 100000
namespace Go.Proofs.YtebejiilpedlmaaDoor
open Go Nv Pat

theorem paren_chars {b : Bool} {l : List Int} (h : Chars l) : Chars (paren b l) ∧ (paren b l).length ≤ l.length + 2 := by
  cases b
  · exact ⟨h, by simp [paren]⟩
  · exact ⟨chars_cons (by decide) (h.append (chars_one (by decide))), by simp [paren]⟩
theorem flat_chars : ∀ ps : List (List Int), (∀ p, p ∈ ps → Chars p) → Chars ps.flatten ∧ ps.flatten.length = (ps.map List.length).sum
  | [], _ => ⟨chars_nil', rfl⟩
  | p :: ps, h => by
    obtain ⟨a, b⟩ := flat_chars ps fun q hq => h q (by simp [hq])
    exact ⟨by rw [List.flatten_cons]; exact (h p (by simp)).append a, by simp⟩
theorem sep_chars : ∀ ps : List (List Int), (∀ p, p ∈ ps → Chars p) → Chars (sepC ps) ∧ (sepC ps).length ≤ (ps.map List.length).sum + ps.length
  | [], _ => ⟨chars_nil', by simp [sepC]⟩
  | [p], h => ⟨h p (by simp), by simp [sepC]⟩
  | p :: q :: ps, h => by
    obtain ⟨a, b⟩ := sep_chars (q :: ps) fun r hr => h r (by simp [List.mem_cons.1 hr])
    exact ⟨(h p (by simp)).append (chars_cons (by decide) a), by simp [sepC] at *; omega⟩
theorem fmtL_mem (k : Int) : ∀ (l : List Tree) (p : List Int), p ∈ fmtL k l → ∃ x, x ∈ l ∧ p = paren (encl k x.kind) (fmtC x)
  | [], p, h => by simp [fmtL] at h
  | y :: l, p, h => by
    simp only [fmtL, List.mem_cons] at h
    rcases h with rfl | h
    · exact ⟨y, by simp, rfl⟩
    · obtain ⟨x, hx, e⟩ := fmtL_mem k l p h
      exact ⟨x, by simp [hx], e⟩
theorem fmtL_sum (k : Int) : ∀ l : List Tree, (∀ x, x ∈ l → Chars (fmtC x) ∧ (fmtC x).length + 10 ≤ 6000000 * x.nodes) → ((fmtL k l).map List.length).sum + 8 * l.length ≤ 6000000 * Tree.nodesL l
  | [], _ => by simp [fmtL]
  | x :: l, h => by
    have h1 := fmtL_sum k l fun y hy => h y (by simp [hy])
    obtain ⟨c, h2⟩ := h x (by simp)
    have h3 := (paren_chars (b := encl k x.kind) c).2
    simp only [fmtL, List.map_cons, List.sum_cons, List.length_cons, Tree.nodesL]
    omega
theorem rep_parts {k : Int} {s : List (Int × Int)} {sub : List Tree} {a b : Int} (h : chk (.mk k s sub a b) = 0) (h5 : k = 5) : sub.length = 1 ∧ 0 ≤ a ∧ a ≤ 20 ∧ (b = -1 ∨ (a ≤ b ∧ b ≤ 20)) := by
  obtain ⟨hk, hbad, hL⟩ := chk_ok h
  simp only [badB, Bool.or_eq_false_iff, Bool.not_eq_false', Bool.and_eq_false_iff, decide_eq_false_iff_not, Decidable.not_not] at hbad
  obtain ⟨⟨hp, _⟩, _⟩ := hbad
  simp [partsB, h5] at hp; omega
theorem set_parts {k : Int} {s : List (Int × Int)} {sub : List Tree} {a b : Int} (h : chk (.mk k s sub a b) = 0) (h2 : k = 2) : properB s = true := by
  obtain ⟨hk, hbad, hL⟩ := chk_ok h
  simp only [badB, Bool.or_eq_false_iff, Bool.not_eq_false', Bool.and_eq_false_iff, decide_eq_false_iff_not, Decidable.not_not] at hbad
  obtain ⟨⟨hp, _⟩, _⟩ := hbad
  simp [partsB, h2] at hp; exact hp.2
theorem fmt_chars : ∀ n : Tree, chk n = 0 → Thin n → Chars (fmtC n) ∧ (fmtC n).length + 10 ≤ 6000000 * n.nodes := by
  intro n
  induction n using Tree.ind with
  | h k s sub a b ih =>
    intro hc hthin
    obtain ⟨hk, hbad, hL⟩ := chk_ok hc
    have hsub : ∀ x, x ∈ sub → Chars (fmtC x) ∧ (fmtC x).length + 10 ≤ 6000000 * x.nodes := fun x hx => ih x hx (chkL_mem hL x hx) (thinL_mem hthin.2 hx)
    have hps : ∀ p, p ∈ fmtL k sub → Chars p := fun p hp => by
      obtain ⟨x, hx, rfl⟩ := fmtL_mem k sub p hp
      exact (paren_chars (hsub x hx).1).1
    have hsum := fmtL_sum k sub hsub
    have hn : (Tree.mk k s sub a b).nodes = 1 + Tree.nodesL sub := nodes_eq _
    have hls : s.length ≤ 1000000 := hthin.1
    rw [hn]
    simp only [fmtC]
    split
    · rename_i h2
      obtain ⟨c, l⟩ := set_chars (set_parts hc h2)
      exact ⟨c, by omega⟩
    split
    · obtain ⟨c, l⟩ := sep_chars _ hps
      rw [fmtL_length] at l
      exact ⟨c, by omega⟩
    split
    · rename_i h5
      obtain ⟨p1, p2, p3, p4⟩ := rep_parts hc h5
      obtain ⟨c2, l2⟩ := suf_chars p2 p3 p4
      obtain ⟨x, rfl⟩ : ∃ x, sub = [x] := by
        match sub, p1 with
        | [x], _ => exact ⟨x, rfl⟩
      simp only [fmtL, List.headD_cons, List.map_cons, List.map_nil, List.sum_cons, List.sum_nil, List.length_cons, List.length_nil] at hps hsum ⊢
      exact ⟨(hps _ (by simp)).append c2, by rw [List.length_append]; omega⟩
    · obtain ⟨c, l⟩ := flat_chars _ hps
      exact ⟨c, by omega⟩

theorem join_two (x y : List UInt8) (r : List (List UInt8)) (sep : List UInt8) : Lib.join (x :: y :: r) sep = x ++ (sep ++ Lib.join (y :: r) sep) := by
  rw [Lib.join_cons, Lib.join_cons]
  simp [Lib.joinTail]
theorem join_sep : ∀ ps : List (List Int), Lib.join (ps.map encS) [124] = encS (sepC ps)
  | [] => rfl
  | [p] => by simp [Lib.join_one, sepC]
  | p :: q :: ps => by
    have := join_sep (q :: ps)
    rw [List.map_cons] at this
    rw [List.map_cons, List.map_cons, join_two, this]
    simp only [sepC, encS_append, encS_cons, show encB 124 = [124] by decide]
theorem join_flat : ∀ ps : List (List Int), Lib.join (ps.map encS) [] = encS ps.flatten
  | [] => rfl
  | [p] => by simp [Lib.join_one]
  | p :: q :: ps => by
    have := join_flat (q :: ps)
    rw [List.map_cons] at this
    rw [List.map_cons, List.map_cons, join_two, this]
    simp [encS_append]

def hintF : Nat → Hint := fun i => if i = 3 then .own ⟨1, 9⟩ else if i = 39 then .freeze else if i = 52 then .freeze else .no
@[go_sem] theorem hintF_at (i : Nat) : hintF i = if i = 3 then .own ⟨1, 9⟩ else if i = 39 then .freeze else if i = 52 then .freeze else .no := nrfl rfl
theorem fmtL_snoc (k : Int) (l : List Tree) (x : Tree) : fmtL k (l ++ [x]) = fmtL k l ++ [paren (encl k x.kind) (fmtC x)] := by
  induction l with
  | nil => simp [fmtL]
  | cons y l ih => simp [fmtL, ih]
def strsD (ps : List (List Int)) : List DV := (ps.map encS).map DV.str
theorem strsD_length (ps : List (List Int)) : (strsD ps).length = ps.length := by simp [strsD]

theorem format24 : ∀ n : Tree, chk n = 0 → Thin n → n.nodes ≤ 1000 → PCall Tryd.prog 16 [nodeA n] (.d (.str (encS (fmtC n)))) := by
  intro n
  induction n using Tree.ind with
  | h k s sub a b ih =>
    intro hc hthin hnodes
    refine fn16.pure hintF (Nat.le_refl _) (by simp only [go_sem, nodeA, nodeF, setD]) (by simp only [go_sem]) ?_
    obtain ⟨hk, hbad, hL⟩ := chk_ok hc
    have hnn : (Tree.mk k s sub a b).nodes = 1 + Tree.nodesL sub := nodes_eq _
    have hall := fmt_chars _ hc hthin
    have hel := encS_len _ hall.1
    have hsl : sub.length ≤ 1000 := by have := length_nodesL sub; omega
    obtain ⟨R, hR⟩ : ∃ R, R = encS (fmtC (.mk k s sub a b)) := ⟨_, rfl⟩
    rw [← hR] at hel ⊢
    by_cases k2 : k = 2
    · have e : R = encS (setC s) := by rw [hR]; simp [fmtC, k2]
      rw [e]
      simp (disch := omega) only [go_sem, reduceIte, reduceDIte, reduceCtorEq, Nat.reduceBEq, Nat.reduceEqDiff, Nat.reduceAdd, Nat.reduceSub, Nat.reduceMul, Nat.reduceLT, Nat.reduceLeDiff, Nat.reduceBNe, Int.reduceNeg, Int.reduceAdd, Int.reduceSub, Int.reduceMul, Int.reduceLT, Int.reduceLE, Int.reduceGT, Int.reduceGE, Int.reduceEq, Int.reduceNe, Int.reduceToNat, Int.reduceTMod, Int.reduceTDiv, nodeA, nodeF, Tree.kind, Tree.set, Tree.sub, Tree.min, Tree.max, k2]
      refine (set39 s (set_parts hc k2) hthin.1).at ?_
      simp (disch := omega) only [go_sem, reduceIte, reduceDIte, reduceCtorEq, Nat.reduceBEq, Nat.reduceEqDiff, Nat.reduceAdd, Nat.reduceSub, Nat.reduceMul, Nat.reduceLT, Nat.reduceLeDiff, Nat.reduceBNe, Int.reduceNeg, Int.reduceAdd, Int.reduceSub, Int.reduceMul, Int.reduceLT, Int.reduceLE, Int.reduceGT, Int.reduceGE, Int.reduceEq, Int.reduceNe, Int.reduceToNat, Int.reduceTMod, Int.reduceTDiv]
    simp (disch := omega) only [go_sem, reduceIte, reduceDIte, reduceCtorEq, Nat.reduceBEq, Nat.reduceEqDiff, Nat.reduceAdd, Nat.reduceSub, Nat.reduceMul, Nat.reduceLT, Nat.reduceLeDiff, Nat.reduceBNe, Int.reduceNeg, Int.reduceAdd, Int.reduceSub, Int.reduceMul, Int.reduceLT, Int.reduceLE, Int.reduceGT, Int.reduceGE, Int.reduceEq, Int.reduceNe, Int.reduceToNat, Int.reduceTMod, Int.reduceTDiv, nodeA, nodeF, Tree.kind, Tree.set, Tree.sub, Tree.min, Tree.max, k2]
    refine wL_ind (fun (j : Nat) fr σ => j ≤ sub.length ∧ fr 1 = .ptr 0 0 ∧ fr 14 = .d (.list 5 (sub.map nodeD)) ∧ fr 15 = .d (.int .i64 sub.length) ∧ fr 16 = .d (.int .i64 j) ∧ ∃ (g m : Nat) (rest : Nv.ST), m = j ∧ fr 3 = .own 1 g 0 m ∧
      σ = .box 26 (boxF k s sub a b) :: .arr g ⟨1, 9⟩ (strsD (fmtL k (sub.take j))) :: rest) (fun j => sub.length - j) ?_ 0 ?_
    · rintro j fr σ ⟨hj, f1, f14, f15, f16, g, m, rest, hm, f3, rfl⟩ ihl
      have hsm : (strsD (fmtL k (sub.take j))).length = m := by rw [strsD_length, fmtL_length, List.length_take]; omega
      have hta := take_all (strsD (fmtL k (sub.take j))) m hsm
      by_cases hlt : j < sub.length
      · obtain ⟨x, hx⟩ : ∃ x, x = sub.getD j default := ⟨_, rfl⟩
        have hxm : x ∈ sub := by rw [hx]; exact getD_mem sub j hlt
        have hxc := chkL_mem hL x hxm
        have hxt := thinL_mem hthin.2 hxm
        have hxn := nodes_mem sub x hxm
        obtain ⟨xc, xl⟩ := fmt_chars x hxc hxt
        have xel := encS_len _ xc
        have hcall := ih x hxm hxc hxt (by omega)
        rw [nodeA] at hcall
        simp only [nodeF] at hcall
        have hb1 : (m + 1) * 16 ≤ 140737488355328 := by omega
        have hnx : fmtL k (sub.take (j + 1)) = fmtL k (sub.take j) ++ [paren (encl k x.kind) (fmtC x)] := by rw [take_succ' sub j hlt, ← hx, fmtL_snoc]
        simp (disch := omega) only [go_sem, reduceIte, reduceDIte, reduceCtorEq, Nat.reduceBEq, Nat.reduceEqDiff, Nat.reduceAdd, Nat.reduceSub, Nat.reduceMul, Nat.reduceLT, Nat.reduceLeDiff, Nat.reduceBNe, Int.reduceNeg, Int.reduceAdd, Int.reduceSub, Int.reduceMul, Int.reduceLT, Int.reduceLE, Int.reduceGT, Int.reduceGE, Int.reduceEq, Int.reduceNe, Int.reduceToNat, Int.reduceTMod, Int.reduceTDiv, f1, f14, f15, f16, hlt, nodeD_eq, nodeC, ← hx]
        refine hcall.at ?_
        simp (disch := omega) only [go_sem, reduceIte, reduceDIte, reduceCtorEq, Nat.reduceBEq, Nat.reduceEqDiff, Nat.reduceAdd, Nat.reduceSub, Nat.reduceMul, Nat.reduceLT, Nat.reduceLeDiff, Nat.reduceBNe, Int.reduceNeg, Int.reduceAdd, Int.reduceSub, Int.reduceMul, Int.reduceLT, Int.reduceLE, Int.reduceGT, Int.reduceGE, Int.reduceEq, Int.reduceNe, Int.reduceToNat, Int.reduceTMod, Int.reduceTDiv, f1, boxF]
        refine (enclosed40 k x.kind).at ?_
        cases hen : encl k x.kind
        · simp (disch := omega) only [go_sem, reduceIte, reduceDIte, reduceCtorEq, Nat.reduceBEq, Nat.reduceEqDiff, Nat.reduceAdd, Nat.reduceSub, Nat.reduceMul, Nat.reduceLT, Nat.reduceLeDiff, Nat.reduceBNe, Int.reduceNeg, Int.reduceAdd, Int.reduceSub, Int.reduceMul, Int.reduceLT, Int.reduceLE, Int.reduceGT, Int.reduceGE, Int.reduceEq, Int.reduceNe, Int.reduceToNat, Int.reduceTMod, Int.reduceTDiv, f3, f16, hsm, hta, hb1, Nat.zero_add, Nat.le_refl]
          refine ihl (j + 1) _ _ (by omega) ⟨by omega, ?_, ?_, ?_, ?_, g + 1, m + 1, ?r1, by omega, ?_, ?_⟩
          rotate_right 1
          · rw [hnx, hen]; simp only [strsD, List.map_append, List.map_cons, List.map_nil, paren, Bool.false_eq_true, if_false, boxF]; rfl
          · simp (disch := omega) only [go_sem, reduceIte, reduceDIte, reduceCtorEq, Nat.reduceBEq, Nat.reduceEqDiff, Nat.reduceAdd, Nat.reduceSub, Nat.reduceMul, Nat.reduceLT, Nat.reduceLeDiff, Nat.reduceBNe, Int.reduceNeg, Int.reduceAdd, Int.reduceSub, Int.reduceMul, Int.reduceLT, Int.reduceLE, Int.reduceGT, Int.reduceGE, Int.reduceEq, Int.reduceNe, Int.reduceToNat, Int.reduceTMod, Int.reduceTDiv, f1]
          · simp (disch := omega) only [go_sem, reduceIte, reduceDIte, reduceCtorEq, Nat.reduceBEq, Nat.reduceEqDiff, Nat.reduceAdd, Nat.reduceSub, Nat.reduceMul, Nat.reduceLT, Nat.reduceLeDiff, Nat.reduceBNe, Int.reduceNeg, Int.reduceAdd, Int.reduceSub, Int.reduceMul, Int.reduceLT, Int.reduceLE, Int.reduceGT, Int.reduceGE, Int.reduceEq, Int.reduceNe, Int.reduceToNat, Int.reduceTMod, Int.reduceTDiv, f14]
          · simp (disch := omega) only [go_sem, reduceIte, reduceDIte, reduceCtorEq, Nat.reduceBEq, Nat.reduceEqDiff, Nat.reduceAdd, Nat.reduceSub, Nat.reduceMul, Nat.reduceLT, Nat.reduceLeDiff, Nat.reduceBNe, Int.reduceNeg, Int.reduceAdd, Int.reduceSub, Int.reduceMul, Int.reduceLT, Int.reduceLE, Int.reduceGT, Int.reduceGE, Int.reduceEq, Int.reduceNe, Int.reduceToNat, Int.reduceTMod, Int.reduceTDiv, f15]
          · simp (disch := omega) only [go_sem, reduceIte, reduceDIte, reduceCtorEq, Nat.reduceBEq, Nat.reduceEqDiff, Nat.reduceAdd, Nat.reduceSub, Nat.reduceMul, Nat.reduceLT, Nat.reduceLeDiff, Nat.reduceBNe, Int.reduceNeg, Int.reduceAdd, Int.reduceSub, Int.reduceMul, Int.reduceLT, Int.reduceLE, Int.reduceGT, Int.reduceGE, Int.reduceEq, Int.reduceNe, Int.reduceToNat, Int.reduceTMod, Int.reduceTDiv]
          · simp (disch := omega) only [go_sem, reduceIte, reduceDIte, reduceCtorEq, Nat.reduceBEq, Nat.reduceEqDiff, Nat.reduceAdd, Nat.reduceSub, Nat.reduceMul, Nat.reduceLT, Nat.reduceLeDiff, Nat.reduceBNe, Int.reduceNeg, Int.reduceAdd, Int.reduceSub, Int.reduceMul, Int.reduceLT, Int.reduceLE, Int.reduceGT, Int.reduceGE, Int.reduceEq, Int.reduceNe, Int.reduceToNat, Int.reduceTMod, Int.reduceTDiv]
        · have ep : encS (paren true (fmtC x)) = 40 :: (encS (fmtC x) ++ [41]) := by
            simp [paren, encS_cons, encS_append, show encB 40 = [40] by decide, show encB 41 = [41] by decide, show encS [] = [] from rfl]
          simp (disch := omega) only [go_sem, reduceIte, reduceDIte, reduceCtorEq, Nat.reduceBEq, Nat.reduceEqDiff, Nat.reduceAdd, Nat.reduceSub, Nat.reduceMul, Nat.reduceLT, Nat.reduceLeDiff, Nat.reduceBNe, Int.reduceNeg, Int.reduceAdd, Int.reduceSub, Int.reduceMul, Int.reduceLT, Int.reduceLE, Int.reduceGT, Int.reduceGE, Int.reduceEq, Int.reduceNe, Int.reduceToNat, Int.reduceTMod, Int.reduceTDiv, f3, f16, hsm, hta, hb1, Nat.zero_add, Nat.le_refl]
          refine ⟨by omega, by omega, ?_⟩
          refine ihl (j + 1) _ _ (by omega) ⟨by omega, ?_, ?_, ?_, ?_, g + 1, m + 1, ?r2, by omega, ?_, ?_⟩
          rotate_right 1
          · rw [hnx, hen]; simp only [strsD, List.map_append, List.map_cons, List.map_nil, ep, boxF]; rfl
          · simp (disch := omega) only [go_sem, reduceIte, reduceDIte, reduceCtorEq, Nat.reduceBEq, Nat.reduceEqDiff, Nat.reduceAdd, Nat.reduceSub, Nat.reduceMul, Nat.reduceLT, Nat.reduceLeDiff, Nat.reduceBNe, Int.reduceNeg, Int.reduceAdd, Int.reduceSub, Int.reduceMul, Int.reduceLT, Int.reduceLE, Int.reduceGT, Int.reduceGE, Int.reduceEq, Int.reduceNe, Int.reduceToNat, Int.reduceTMod, Int.reduceTDiv, f1]
          · simp (disch := omega) only [go_sem, reduceIte, reduceDIte, reduceCtorEq, Nat.reduceBEq, Nat.reduceEqDiff, Nat.reduceAdd, Nat.reduceSub, Nat.reduceMul, Nat.reduceLT, Nat.reduceLeDiff, Nat.reduceBNe, Int.reduceNeg, Int.reduceAdd, Int.reduceSub, Int.reduceMul, Int.reduceLT, Int.reduceLE, Int.reduceGT, Int.reduceGE, Int.reduceEq, Int.reduceNe, Int.reduceToNat, Int.reduceTMod, Int.reduceTDiv, f14]
          · simp (disch := omega) only [go_sem, reduceIte, reduceDIte, reduceCtorEq, Nat.reduceBEq, Nat.reduceEqDiff, Nat.reduceAdd, Nat.reduceSub, Nat.reduceMul, Nat.reduceLT, Nat.reduceLeDiff, Nat.reduceBNe, Int.reduceNeg, Int.reduceAdd, Int.reduceSub, Int.reduceMul, Int.reduceLT, Int.reduceLE, Int.reduceGT, Int.reduceGE, Int.reduceEq, Int.reduceNe, Int.reduceToNat, Int.reduceTMod, Int.reduceTDiv, f15]
          · simp (disch := omega) only [go_sem, reduceIte, reduceDIte, reduceCtorEq, Nat.reduceBEq, Nat.reduceEqDiff, Nat.reduceAdd, Nat.reduceSub, Nat.reduceMul, Nat.reduceLT, Nat.reduceLeDiff, Nat.reduceBNe, Int.reduceNeg, Int.reduceAdd, Int.reduceSub, Int.reduceMul, Int.reduceLT, Int.reduceLE, Int.reduceGT, Int.reduceGE, Int.reduceEq, Int.reduceNe, Int.reduceToNat, Int.reduceTMod, Int.reduceTDiv]
          · simp (disch := omega) only [go_sem, reduceIte, reduceDIte, reduceCtorEq, Nat.reduceBEq, Nat.reduceEqDiff, Nat.reduceAdd, Nat.reduceSub, Nat.reduceMul, Nat.reduceLT, Nat.reduceLeDiff, Nat.reduceBNe, Int.reduceNeg, Int.reduceAdd, Int.reduceSub, Int.reduceMul, Int.reduceLT, Int.reduceLE, Int.reduceGT, Int.reduceGE, Int.reduceEq, Int.reduceNe, Int.reduceToNat, Int.reduceTMod, Int.reduceTDiv]
      · have ek : sub.take j = sub := List.take_of_length_le (by omega)
        rw [ek] at hsm hta ⊢
        have hml : (fmtL k sub).length = m := by rw [fmtL_length]; omega
        by_cases k4 : k = 4
        · have e : R = Lib.join ((fmtL k sub).map encS) [124] := by rw [hR, join_sep]; simp [fmtC, k2, k4]
          have hjc := join_call ((fmtL k sub).map encS) [124] (by rw [List.length_map, fmtL_length]; omega) (by rw [← e]; omega)
          rw [← e] at hjc
          subst k4
          simp (disch := omega) only [go_sem, reduceIte, reduceDIte, reduceCtorEq, Nat.reduceBEq, Nat.reduceEqDiff, Nat.reduceAdd, Nat.reduceSub, Nat.reduceMul, Nat.reduceLT, Nat.reduceLeDiff, Nat.reduceBNe, Int.reduceNeg, Int.reduceAdd, Int.reduceSub, Int.reduceMul, Int.reduceLT, Int.reduceLE, Int.reduceGT, Int.reduceGE, Int.reduceEq, Int.reduceNe, Int.reduceToNat, Int.reduceTMod, Int.reduceTDiv, f1, f3, f14, f15, f16, hlt, boxF, hsm, hta, Nat.zero_add, Nat.le_refl]
          refine hjc.at ?_
          simp (disch := omega) only [go_sem, reduceIte, reduceDIte, reduceCtorEq, Nat.reduceBEq, Nat.reduceEqDiff, Nat.reduceAdd, Nat.reduceSub, Nat.reduceMul, Nat.reduceLT, Nat.reduceLeDiff, Nat.reduceBNe, Int.reduceNeg, Int.reduceAdd, Int.reduceSub, Int.reduceMul, Int.reduceLT, Int.reduceLE, Int.reduceGT, Int.reduceGE, Int.reduceEq, Int.reduceNe, Int.reduceToNat, Int.reduceTMod, Int.reduceTDiv]
        by_cases k5 : k = 5
        · obtain ⟨p1, p2, p3, p4⟩ := rep_parts hc k5
          subst k5
          obtain ⟨x, rfl⟩ : ∃ x, sub = [x] := by
            match sub, p1 with
            | [x], _ => exact ⟨x, rfl⟩
          obtain ⟨sc, sl⟩ := suf_chars p2 p3 p4
          have sel := encS_len _ sc
          have hxm : x ∈ [x] := by simp
          obtain ⟨xc, xl⟩ := fmt_chars x (chkL_mem hL x hxm) (thinL_mem hthin.2 hxm)
          obtain ⟨pc, pl⟩ := paren_chars (b := encl 5 x.kind) xc
          have pel := encS_len _ pc
          have hxn := nodes_mem [x] x hxm
          have e : R = encS (paren (encl 5 x.kind) (fmtC x)) ++ encS (sufC a b) := by rw [hR, ← encS_append]; simp [fmtC, fmtL]
          have hg : strsD (fmtL 5 [x]) = [.str (encS (paren (encl 5 x.kind) (fmtC x)))] := by simp [strsD, fmtL]
          have m1 : m = 1 := by rw [← hml]; simp [fmtL]
          have z1 : (0 : Int) < (m : Int) := by omega
          have hlt1 : ¬ j < 1 := by simpa using hlt
          rw [e, hg]
          simp (disch := omega) only [go_sem, reduceIte, reduceDIte, reduceCtorEq, Nat.reduceBEq, Nat.reduceEqDiff, Nat.reduceAdd, Nat.reduceSub, Nat.reduceMul, Nat.reduceLT, Nat.reduceLeDiff, Nat.reduceBNe, Int.reduceNeg, Int.reduceAdd, Int.reduceSub, Int.reduceMul, Int.reduceLT, Int.reduceLE, Int.reduceGT, Int.reduceGE, Int.reduceEq, Int.reduceNe, Int.reduceToNat, Int.reduceTMod, Int.reduceTDiv, f1, f3, f14, f15, f16, hlt1, boxF, z1, Nat.zero_add, List.length_cons, List.length_nil]
          refine (suffix42 p2 p3 p4).dat ?_
          simp (disch := omega) only [go_sem, reduceIte, reduceDIte, reduceCtorEq, Nat.reduceBEq, Nat.reduceEqDiff, Nat.reduceAdd, Nat.reduceSub, Nat.reduceMul, Nat.reduceLT, Nat.reduceLeDiff, Nat.reduceBNe, Int.reduceNeg, Int.reduceAdd, Int.reduceSub, Int.reduceMul, Int.reduceLT, Int.reduceLE, Int.reduceGT, Int.reduceGE, Int.reduceEq, Int.reduceNe, Int.reduceToNat, Int.reduceTMod, Int.reduceTDiv]
          omega
        · have k3 : R = Lib.join ((fmtL k sub).map encS) [] := by rw [hR, join_flat]; simp [fmtC, k2, k4, k5]
          have hjc := join_call ((fmtL k sub).map encS) [] (by rw [List.length_map, fmtL_length]; omega) (by rw [← k3]; omega)
          rw [← k3] at hjc
          simp (disch := omega) only [go_sem, reduceIte, reduceDIte, reduceCtorEq, Nat.reduceBEq, Nat.reduceEqDiff, Nat.reduceAdd, Nat.reduceSub, Nat.reduceMul, Nat.reduceLT, Nat.reduceLeDiff, Nat.reduceBNe, Int.reduceNeg, Int.reduceAdd, Int.reduceSub, Int.reduceMul, Int.reduceLT, Int.reduceLE, Int.reduceGT, Int.reduceGE, Int.reduceEq, Int.reduceNe, Int.reduceToNat, Int.reduceTMod, Int.reduceTDiv, f1, f3, f14, f15, f16, hlt, boxF, k4, k5, hsm, hta, Nat.zero_add, Nat.le_refl]
          refine hjc.at ?_
          simp (disch := omega) only [go_sem, reduceIte, reduceDIte, reduceCtorEq, Nat.reduceBEq, Nat.reduceEqDiff, Nat.reduceAdd, Nat.reduceSub, Nat.reduceMul, Nat.reduceLT, Nat.reduceLeDiff, Nat.reduceBNe, Int.reduceNeg, Int.reduceAdd, Int.reduceSub, Int.reduceMul, Int.reduceLT, Int.reduceLE, Int.reduceGT, Int.reduceGE, Int.reduceEq, Int.reduceNe, Int.reduceToNat, Int.reduceTMod, Int.reduceTDiv]
    · refine ⟨by omega, ?_, ?_, ?_, ?_, 0, 0, [], rfl, ?_, ?_⟩
      · simp (disch := omega) only [go_sem, reduceIte, reduceDIte, reduceCtorEq, Nat.reduceBEq, Nat.reduceEqDiff, Nat.reduceAdd, Nat.reduceSub, Nat.reduceMul, Nat.reduceLT, Nat.reduceLeDiff, Nat.reduceBNe, Int.reduceNeg, Int.reduceAdd, Int.reduceSub, Int.reduceMul, Int.reduceLT, Int.reduceLE, Int.reduceGT, Int.reduceGE, Int.reduceEq, Int.reduceNe, Int.reduceToNat, Int.reduceTMod, Int.reduceTDiv]
      · simp (disch := omega) only [go_sem, reduceIte, reduceDIte, reduceCtorEq, Nat.reduceBEq, Nat.reduceEqDiff, Nat.reduceAdd, Nat.reduceSub, Nat.reduceMul, Nat.reduceLT, Nat.reduceLeDiff, Nat.reduceBNe, Int.reduceNeg, Int.reduceAdd, Int.reduceSub, Int.reduceMul, Int.reduceLT, Int.reduceLE, Int.reduceGT, Int.reduceGE, Int.reduceEq, Int.reduceNe, Int.reduceToNat, Int.reduceTMod, Int.reduceTDiv]
      · simp (disch := omega) only [go_sem, reduceIte, reduceDIte, reduceCtorEq, Nat.reduceBEq, Nat.reduceEqDiff, Nat.reduceAdd, Nat.reduceSub, Nat.reduceMul, Nat.reduceLT, Nat.reduceLeDiff, Nat.reduceBNe, Int.reduceNeg, Int.reduceAdd, Int.reduceSub, Int.reduceMul, Int.reduceLT, Int.reduceLE, Int.reduceGT, Int.reduceGE, Int.reduceEq, Int.reduceNe, Int.reduceToNat, Int.reduceTMod, Int.reduceTDiv]
      · simp (disch := omega) only [go_sem, reduceIte, reduceDIte, reduceCtorEq, Nat.reduceBEq, Nat.reduceEqDiff, Nat.reduceAdd, Nat.reduceSub, Nat.reduceMul, Nat.reduceLT, Nat.reduceLeDiff, Nat.reduceBNe, Int.reduceNeg, Int.reduceAdd, Int.reduceSub, Int.reduceMul, Int.reduceLT, Int.reduceLE, Int.reduceGT, Int.reduceGE, Int.reduceEq, Int.reduceNe, Int.reduceToNat, Int.reduceTMod, Int.reduceTDiv]
      · simp (disch := omega) only [go_sem, reduceIte, reduceDIte, reduceCtorEq, Nat.reduceBEq, Nat.reduceEqDiff, Nat.reduceAdd, Nat.reduceSub, Nat.reduceMul, Nat.reduceLT, Nat.reduceLeDiff, Nat.reduceBNe, Int.reduceNeg, Int.reduceAdd, Int.reduceSub, Int.reduceMul, Int.reduceLT, Int.reduceLE, Int.reduceGT, Int.reduceGE, Int.reduceEq, Int.reduceNe, Int.reduceToNat, Int.reduceTMod, Int.reduceTDiv]
      · rfl
end Go.Proofs.YtebejiilpedlmaaDoor
set_option linter.unusedVariables false
set_option linter.unusedSimpArgs false
set_option maxRecDepth 100000
namespace Go.Proofs.YtebejiilpedlmaaDoor
open Go Nv Pat

/-- What Format hands back: a pattern and the number of an error. -/
def formatM (n : Tree) : List UInt8 × Int := if chkE n = 0 then (if 60 < (encS (fmtC n)).length then ([], 5) else (encS (fmtC n), 0)) else ([], chkE n)
theorem format12 (n : Tree) (h : Thin n) : PCall Tryd.prog 7 [nodeA n] (.tuple [.d (.str (formatM n).1), .d (.int .i64 (formatM n).2)]) := by
  refine fn7.pure noHint (Nat.le_refl _) (by simp only [go_sem, nodeA, nodeF, setD]) (by simp only [go_sem]) ?_
  simp (disch := omega) only [go_sem, reduceIte, reduceDIte, reduceCtorEq, Nat.reduceBEq, Nat.reduceEqDiff, Nat.reduceAdd, Nat.reduceSub, Nat.reduceMul, Nat.reduceLT, Nat.reduceLeDiff, Nat.reduceBNe, Int.reduceNeg, Int.reduceAdd, Int.reduceSub, Int.reduceMul, Int.reduceLT, Int.reduceLE, Int.reduceGT, Int.reduceGE, Int.reduceEq, Int.reduceNe, Int.reduceToNat, Int.reduceTMod, Int.reduceTDiv, nodeA, nodeF]
  refine (check13 n h).at ?_
  by_cases h0 : chkE n = 0
  · obtain ⟨hn, hc⟩ := chkE_ok h0
    have hf := format24 n hc h (by omega)
    simp only [nodeA, nodeF] at hf
    simp (disch := omega) only [go_sem, reduceIte, reduceDIte, reduceCtorEq, Nat.reduceBEq, Nat.reduceEqDiff, Nat.reduceAdd, Nat.reduceSub, Nat.reduceMul, Nat.reduceLT, Nat.reduceLeDiff, Nat.reduceBNe, Int.reduceNeg, Int.reduceAdd, Int.reduceSub, Int.reduceMul, Int.reduceLT, Int.reduceLE, Int.reduceGT, Int.reduceGE, Int.reduceEq, Int.reduceNe, Int.reduceToNat, Int.reduceTMod, Int.reduceTDiv, h0]
    refine hf.at ?_
    by_cases hl : 60 < (encS (fmtC n)).length
    · have e : formatM n = ([], 5) := by rw [formatM, if_pos h0, if_pos hl]
      have hl' : (60 : Int) < ((encS (fmtC n)).length : Nat) := by omega
      simp (disch := omega) only [go_sem, reduceIte, reduceDIte, reduceCtorEq, Nat.reduceBEq, Nat.reduceEqDiff, Nat.reduceAdd, Nat.reduceSub, Nat.reduceMul, Nat.reduceLT, Nat.reduceLeDiff, Nat.reduceBNe, Int.reduceNeg, Int.reduceAdd, Int.reduceSub, Int.reduceMul, Int.reduceLT, Int.reduceLE, Int.reduceGT, Int.reduceGE, Int.reduceEq, Int.reduceNe, Int.reduceToNat, Int.reduceTMod, Int.reduceTDiv, hl', e]
    · have e : formatM n = (encS (fmtC n), 0) := by rw [formatM, if_pos h0, if_neg hl]
      have hl' : ¬ (60 : Int) < ((encS (fmtC n)).length : Nat) := by omega
      simp (disch := omega) only [go_sem, reduceIte, reduceDIte, reduceCtorEq, Nat.reduceBEq, Nat.reduceEqDiff, Nat.reduceAdd, Nat.reduceSub, Nat.reduceMul, Nat.reduceLT, Nat.reduceLeDiff, Nat.reduceBNe, Int.reduceNeg, Int.reduceAdd, Int.reduceSub, Int.reduceMul, Int.reduceLT, Int.reduceLE, Int.reduceGT, Int.reduceGE, Int.reduceEq, Int.reduceNe, Int.reduceToNat, Int.reduceTMod, Int.reduceTDiv, hl', e]
  · have e : formatM n = ([], chkE n) := by rw [formatM, if_neg h0]
    simp (disch := omega) only [go_sem, reduceIte, reduceDIte, reduceCtorEq, Nat.reduceBEq, Nat.reduceEqDiff, Nat.reduceAdd, Nat.reduceSub, Nat.reduceMul, Nat.reduceLT, Nat.reduceLeDiff, Nat.reduceBNe, Int.reduceNeg, Int.reduceAdd, Int.reduceSub, Int.reduceMul, Int.reduceLT, Int.reduceLE, Int.reduceGT, Int.reduceGE, Int.reduceEq, Int.reduceNe, Int.reduceToNat, Int.reduceTMod, Int.reduceTDiv, h0, e]

theorem same15 : ∀ n : Tree, n.nodes ≤ 1000000 → Thin n → PCall Tryd.prog 8 [nodeA n, nodeA n] (.d (.bool true)) := by
  intro n
  induction n using Tree.ind with
  | h k s sub a b ih =>
    intro hn hthin
    refine fn8.pure noHint (Nat.le_refl _) (by simp only [go_sem, nodeA, nodeF, setD]) (by simp only [go_sem]) ?_
    have hnn : (Tree.mk k s sub a b).nodes = 1 + Tree.nodesL sub := nodes_eq _
    have hsl : sub.length ≤ 1000000 := by have := length_nodesL sub; omega
    have hss : s.length ≤ 1000000 := hthin.1
    have bt : (!(true && true)) = false := rfl
    simp (disch := omega) only [go_sem, reduceIte, reduceDIte, reduceCtorEq, Nat.reduceBEq, Nat.reduceEqDiff, Nat.reduceAdd, Nat.reduceSub, Nat.reduceMul, Nat.reduceLT, Nat.reduceLeDiff, Nat.reduceBNe, Int.reduceNeg, Int.reduceAdd, Int.reduceSub, Int.reduceMul, Int.reduceLT, Int.reduceLE, Int.reduceGT, Int.reduceGE, Int.reduceEq, Int.reduceNe, Int.reduceToNat, Int.reduceTMod, Int.reduceTDiv, nodeA, nodeF, Tree.kind, Tree.set, Tree.sub, Tree.min, Tree.max, setD, List.length_map, decide_true, Bool.not_true]
    refine wL_ind (fun (j : Nat) fr σ => j ≤ s.length ∧ fr 2 = .ptr 0 0 ∧ fr 3 = .ptr 1 0 ∧ fr 5 = .d (.int .i64 j) ∧ σ = [.box 26 (boxF k s sub a b), .box 26 (boxF k s sub a b)]) (fun j => s.length - j) ?_ 0 ?_
    · rintro j fr σ ⟨hj, f2, f3, f5, rfl⟩ ihl
      by_cases hlt : j < s.length
      · have g1 : (s.map rgD).getD j default = rgD (s.getD j default) := by simp [List.getD_eq_getElem?_getD, hlt]
        simp (disch := omega) only [go_sem, reduceIte, reduceDIte, reduceCtorEq, Nat.reduceBEq, Nat.reduceEqDiff, Nat.reduceAdd, Nat.reduceSub, Nat.reduceMul, Nat.reduceLT, Nat.reduceLeDiff, Nat.reduceBNe, Int.reduceNeg, Int.reduceAdd, Int.reduceSub, Int.reduceMul, Int.reduceLT, Int.reduceLE, Int.reduceGT, Int.reduceGE, Int.reduceEq, Int.reduceNe, Int.reduceToNat, Int.reduceTMod, Int.reduceTDiv, f2, f3, f5, boxF, setD, List.length_map, hlt, g1, rgD, decide_true, bt]
        refine ihl (j + 1) _ _ (by omega) ⟨by omega, ?_, ?_, ?_, ?_⟩
        · simp (disch := omega) only [go_sem, reduceIte, reduceDIte, reduceCtorEq, Nat.reduceBEq, Nat.reduceEqDiff, Nat.reduceAdd, Nat.reduceSub, Nat.reduceMul, Nat.reduceLT, Nat.reduceLeDiff, Nat.reduceBNe, Int.reduceNeg, Int.reduceAdd, Int.reduceSub, Int.reduceMul, Int.reduceLT, Int.reduceLE, Int.reduceGT, Int.reduceGE, Int.reduceEq, Int.reduceNe, Int.reduceToNat, Int.reduceTMod, Int.reduceTDiv, f2]
        · simp (disch := omega) only [go_sem, reduceIte, reduceDIte, reduceCtorEq, Nat.reduceBEq, Nat.reduceEqDiff, Nat.reduceAdd, Nat.reduceSub, Nat.reduceMul, Nat.reduceLT, Nat.reduceLeDiff, Nat.reduceBNe, Int.reduceNeg, Int.reduceAdd, Int.reduceSub, Int.reduceMul, Int.reduceLT, Int.reduceLE, Int.reduceGT, Int.reduceGE, Int.reduceEq, Int.reduceNe, Int.reduceToNat, Int.reduceTMod, Int.reduceTDiv, f3]
        · simp (disch := omega) only [go_sem, reduceIte, reduceDIte, reduceCtorEq, Nat.reduceBEq, Nat.reduceEqDiff, Nat.reduceAdd, Nat.reduceSub, Nat.reduceMul, Nat.reduceLT, Nat.reduceLeDiff, Nat.reduceBNe, Int.reduceNeg, Int.reduceAdd, Int.reduceSub, Int.reduceMul, Int.reduceLT, Int.reduceLE, Int.reduceGT, Int.reduceGE, Int.reduceEq, Int.reduceNe, Int.reduceToNat, Int.reduceTMod, Int.reduceTDiv]
        · simp only [boxF, setD]
      · simp (disch := omega) only [go_sem, reduceIte, reduceDIte, reduceCtorEq, Nat.reduceBEq, Nat.reduceEqDiff, Nat.reduceAdd, Nat.reduceSub, Nat.reduceMul, Nat.reduceLT, Nat.reduceLeDiff, Nat.reduceBNe, Int.reduceNeg, Int.reduceAdd, Int.reduceSub, Int.reduceMul, Int.reduceLT, Int.reduceLE, Int.reduceGT, Int.reduceGE, Int.reduceEq, Int.reduceNe, Int.reduceToNat, Int.reduceTMod, Int.reduceTDiv, f2, f3, f5, boxF, setD, List.length_map, hlt]
        refine wL_ind (fun (j : Nat) fr σ => j ≤ sub.length ∧ fr 2 = .ptr 0 0 ∧ fr 3 = .ptr 1 0 ∧ fr 6 = .d (.int .i64 j) ∧ σ = [.box 26 (boxF k s sub a b), .box 26 (boxF k s sub a b)]) (fun j => sub.length - j) ?_ 0 ?_
        · rintro j fr σ ⟨hj, f2, f3, f6, rfl⟩ ihl
          by_cases hlt : j < sub.length
          · obtain ⟨x, hx⟩ : ∃ x, x = sub.getD j default := ⟨_, rfl⟩
            have hxm : x ∈ sub := by rw [hx]; exact getD_mem sub j hlt
            have hxn := nodes_mem sub x hxm
            have hcall := ih x hxm (by omega) (thinL_mem hthin.2 hxm)
            simp only [nodeA, nodeF] at hcall
            simp (disch := omega) only [go_sem, reduceIte, reduceDIte, reduceCtorEq, Nat.reduceBEq, Nat.reduceEqDiff, Nat.reduceAdd, Nat.reduceSub, Nat.reduceMul, Nat.reduceLT, Nat.reduceLeDiff, Nat.reduceBNe, Int.reduceNeg, Int.reduceAdd, Int.reduceSub, Int.reduceMul, Int.reduceLT, Int.reduceLE, Int.reduceGT, Int.reduceGE, Int.reduceEq, Int.reduceNe, Int.reduceToNat, Int.reduceTMod, Int.reduceTDiv, f2, f3, f6, boxF, List.length_map, hlt, nodeD_eq, nodeC, ← hx]
            refine hcall.dat ?_
            simp (disch := omega) only [go_sem, reduceIte, reduceDIte, reduceCtorEq, Nat.reduceBEq, Nat.reduceEqDiff, Nat.reduceAdd, Nat.reduceSub, Nat.reduceMul, Nat.reduceLT, Nat.reduceLeDiff, Nat.reduceBNe, Int.reduceNeg, Int.reduceAdd, Int.reduceSub, Int.reduceMul, Int.reduceLT, Int.reduceLE, Int.reduceGT, Int.reduceGE, Int.reduceEq, Int.reduceNe, Int.reduceToNat, Int.reduceTMod, Int.reduceTDiv, f6]
            refine ihl (j + 1) _ _ (by omega) ⟨by omega, ?_, ?_, ?_, ?_⟩
            · simp (disch := omega) only [go_sem, reduceIte, reduceDIte, reduceCtorEq, Nat.reduceBEq, Nat.reduceEqDiff, Nat.reduceAdd, Nat.reduceSub, Nat.reduceMul, Nat.reduceLT, Nat.reduceLeDiff, Nat.reduceBNe, Int.reduceNeg, Int.reduceAdd, Int.reduceSub, Int.reduceMul, Int.reduceLT, Int.reduceLE, Int.reduceGT, Int.reduceGE, Int.reduceEq, Int.reduceNe, Int.reduceToNat, Int.reduceTMod, Int.reduceTDiv, f2]
            · simp (disch := omega) only [go_sem, reduceIte, reduceDIte, reduceCtorEq, Nat.reduceBEq, Nat.reduceEqDiff, Nat.reduceAdd, Nat.reduceSub, Nat.reduceMul, Nat.reduceLT, Nat.reduceLeDiff, Nat.reduceBNe, Int.reduceNeg, Int.reduceAdd, Int.reduceSub, Int.reduceMul, Int.reduceLT, Int.reduceLE, Int.reduceGT, Int.reduceGE, Int.reduceEq, Int.reduceNe, Int.reduceToNat, Int.reduceTMod, Int.reduceTDiv, f3]
            · simp (disch := omega) only [go_sem, reduceIte, reduceDIte, reduceCtorEq, Nat.reduceBEq, Nat.reduceEqDiff, Nat.reduceAdd, Nat.reduceSub, Nat.reduceMul, Nat.reduceLT, Nat.reduceLeDiff, Nat.reduceBNe, Int.reduceNeg, Int.reduceAdd, Int.reduceSub, Int.reduceMul, Int.reduceLT, Int.reduceLE, Int.reduceGT, Int.reduceGE, Int.reduceEq, Int.reduceNe, Int.reduceToNat, Int.reduceTMod, Int.reduceTDiv]
            · simp only [boxF, nodeD_eq, nodeC]
          · simp (disch := omega) only [go_sem, reduceIte, reduceDIte, reduceCtorEq, Nat.reduceBEq, Nat.reduceEqDiff, Nat.reduceAdd, Nat.reduceSub, Nat.reduceMul, Nat.reduceLT, Nat.reduceLeDiff, Nat.reduceBNe, Int.reduceNeg, Int.reduceAdd, Int.reduceSub, Int.reduceMul, Int.reduceLT, Int.reduceLE, Int.reduceGT, Int.reduceGE, Int.reduceEq, Int.reduceNe, Int.reduceToNat, Int.reduceTMod, Int.reduceTDiv, f2, f3, f6, boxF, List.length_map, hlt]
        · refine ⟨by omega, ?_, ?_, ?_, ?_⟩
          · simp (disch := omega) only [go_sem, reduceIte, reduceDIte, reduceCtorEq, Nat.reduceBEq, Nat.reduceEqDiff, Nat.reduceAdd, Nat.reduceSub, Nat.reduceMul, Nat.reduceLT, Nat.reduceLeDiff, Nat.reduceBNe, Int.reduceNeg, Int.reduceAdd, Int.reduceSub, Int.reduceMul, Int.reduceLT, Int.reduceLE, Int.reduceGT, Int.reduceGE, Int.reduceEq, Int.reduceNe, Int.reduceToNat, Int.reduceTMod, Int.reduceTDiv, f2]
          · simp (disch := omega) only [go_sem, reduceIte, reduceDIte, reduceCtorEq, Nat.reduceBEq, Nat.reduceEqDiff, Nat.reduceAdd, Nat.reduceSub, Nat.reduceMul, Nat.reduceLT, Nat.reduceLeDiff, Nat.reduceBNe, Int.reduceNeg, Int.reduceAdd, Int.reduceSub, Int.reduceMul, Int.reduceLT, Int.reduceLE, Int.reduceGT, Int.reduceGE, Int.reduceEq, Int.reduceNe, Int.reduceToNat, Int.reduceTMod, Int.reduceTDiv, f3]
          · simp (disch := omega) only [go_sem, reduceIte, reduceDIte, reduceCtorEq, Nat.reduceBEq, Nat.reduceEqDiff, Nat.reduceAdd, Nat.reduceSub, Nat.reduceMul, Nat.reduceLT, Nat.reduceLeDiff, Nat.reduceBNe, Int.reduceNeg, Int.reduceAdd, Int.reduceSub, Int.reduceMul, Int.reduceLT, Int.reduceLE, Int.reduceGT, Int.reduceGE, Int.reduceEq, Int.reduceNe, Int.reduceToNat, Int.reduceTMod, Int.reduceTDiv]
          · simp only [boxF, setD]
    · refine ⟨by omega, ?_, ?_, ?_, ?_⟩
      · simp (disch := omega) only [go_sem, reduceIte, reduceDIte, reduceCtorEq, Nat.reduceBEq, Nat.reduceEqDiff, Nat.reduceAdd, Nat.reduceSub, Nat.reduceMul, Nat.reduceLT, Nat.reduceLeDiff, Nat.reduceBNe, Int.reduceNeg, Int.reduceAdd, Int.reduceSub, Int.reduceMul, Int.reduceLT, Int.reduceLE, Int.reduceGT, Int.reduceGE, Int.reduceEq, Int.reduceNe, Int.reduceToNat, Int.reduceTMod, Int.reduceTDiv]
      · simp (disch := omega) only [go_sem, reduceIte, reduceDIte, reduceCtorEq, Nat.reduceBEq, Nat.reduceEqDiff, Nat.reduceAdd, Nat.reduceSub, Nat.reduceMul, Nat.reduceLT, Nat.reduceLeDiff, Nat.reduceBNe, Int.reduceNeg, Int.reduceAdd, Int.reduceSub, Int.reduceMul, Int.reduceLT, Int.reduceLE, Int.reduceGT, Int.reduceGE, Int.reduceEq, Int.reduceNe, Int.reduceToNat, Int.reduceTMod, Int.reduceTDiv]
      · simp (disch := omega) only [go_sem, reduceIte, reduceDIte, reduceCtorEq, Nat.reduceBEq, Nat.reduceEqDiff, Nat.reduceAdd, Nat.reduceSub, Nat.reduceMul, Nat.reduceLT, Nat.reduceLeDiff, Nat.reduceBNe, Int.reduceNeg, Int.reduceAdd, Int.reduceSub, Int.reduceMul, Int.reduceLT, Int.reduceLE, Int.reduceGT, Int.reduceGE, Int.reduceEq, Int.reduceNe, Int.reduceToNat, Int.reduceTMod, Int.reduceTDiv]
      · simp only [boxF, setD]

theorem sortOK : SortOK sortR := fun s h => sort_same s h
/-- The tree of the canonical pattern of a proper tree is this tree. -/
theorem parse_format {n : Tree} (h0 : chkE n = 0) (hth : Thin n) (hl : (encS (fmtC n)).length ≤ 60) : parseM (encS (fmtC n)) = (n, 0) := by
  obtain ⟨hn, hc⟩ := chkE_ok h0
  obtain ⟨hch, _⟩ := fmt_chars n hc hth
  rw [parseM, if_neg (by omega), if_neg (by rw [valid_enc _ hch]; simp), charsOf_enc hch, parse_fmt sortR sortOK hc]

end Go.Proofs.YtebejiilpedlmaaDoor
