/- Part of a proof about the functions of this seat. -/
import Derived.Test.YtoenpoefcmikgaaJ26
set_option linter.unusedVariables false
set_option linter.unusedSimpArgs false
set_option maxRecDepth 100000
namespace Go.Proofs.Ytoenpoefcmikgaa
open Go Nv

def endsIn (s t : List UInt8) : Bool := decide (t.length ≤ s.length) && decide (s.drop (s.length - t.length) = t)
def trimmed (s t : List UInt8) : List UInt8 := if endsIn s t then s.take (s.length - t.length) else s

theorem suffix40 (s t : List UInt8) (hs : s.length ≤ 1048576) (ht : t.length ≤ 1048576) : PCall Try.prog 40 [.d (.str s), .d (.str t)] (.d (.bool (endsIn s t))) := by
  refine fn40.pure noHint (Nat.le_refl _) (by simp only [go_sem]) (by simp only [go_sem]) ?_
  by_cases h : t.length ≤ s.length
  · have h' : (t.length : Int) ≤ s.length := by omega
    obtain ⟨m, hm⟩ : ∃ m, s.length = m + t.length := ⟨s.length - t.length, by omega⟩
    have e1 : (s.length : Int) - t.length = m := by omega
    have e2 : s.length - t.length = m := by omega
    have e3 : m ≤ s.length := by omega
    have e4 : endsIn s t = decide (List.drop m s = t) := by simp only [endsIn, h, decide_true, Bool.true_and, e2]
    simp (disch := omega) only [go_sem, reduceIte, reduceDIte, reduceCtorEq, Nat.reduceBEq, Nat.reduceEqDiff, Nat.reduceAdd, Nat.reduceSub, Nat.reduceMul, Nat.reduceLT, Nat.reduceLeDiff, Nat.reduceBNe, Int.reduceNeg, Int.reduceAdd, Int.reduceSub, Int.reduceMul, Int.reduceLT, Int.reduceLE, Int.reduceGT, Int.reduceGE, Int.reduceEq, Int.reduceNe, Int.reduceToNat, Int.reduceTMod, Int.reduceTDiv, h, h', e1, e3, List.take_length, Nat.le_refl, e4]
  · have h' : ¬ (t.length : Int) ≤ s.length := by omega
    have : endsIn s t = false := by simp [endsIn, h]
    simp (disch := omega) only [go_sem, reduceIte, reduceDIte, reduceCtorEq, Nat.reduceBEq, Nat.reduceEqDiff, Nat.reduceAdd, Nat.reduceSub, Nat.reduceMul, Nat.reduceLT, Nat.reduceLeDiff, Nat.reduceBNe, Int.reduceNeg, Int.reduceAdd, Int.reduceSub, Int.reduceMul, Int.reduceLT, Int.reduceLE, Int.reduceGT, Int.reduceGE, Int.reduceEq, Int.reduceNe, Int.reduceToNat, Int.reduceTMod, Int.reduceTDiv, h, h', this]

theorem trim37 (s t : List UInt8) (hs : s.length ≤ 1048576) (ht : t.length ≤ 1048576) : PCall Try.prog 37 [.d (.str s), .d (.str t)] (.d (.str (trimmed s t))) := by
  refine fn37.pure noHint (Nat.le_refl _) (by simp only [go_sem]) (by simp only [go_sem]) ?_
  simp (disch := omega) only [go_sem, reduceIte, reduceDIte, reduceCtorEq, Nat.reduceBEq, Nat.reduceEqDiff, Nat.reduceAdd, Nat.reduceSub, Nat.reduceMul, Nat.reduceLT, Nat.reduceLeDiff, Nat.reduceBNe, Int.reduceNeg, Int.reduceAdd, Int.reduceSub, Int.reduceMul, Int.reduceLT, Int.reduceLE, Int.reduceGT, Int.reduceGE, Int.reduceEq, Int.reduceNe, Int.reduceToNat, Int.reduceTMod, Int.reduceTDiv]
  refine (suffix40 s t hs ht).at ?_
  cases h : endsIn s t
  · have e : trimmed s t = s := by simp [trimmed, h]
    simp (disch := omega) only [go_sem, reduceIte, reduceDIte, reduceCtorEq, Nat.reduceBEq, Nat.reduceEqDiff, Nat.reduceAdd, Nat.reduceSub, Nat.reduceMul, Nat.reduceLT, Nat.reduceLeDiff, Nat.reduceBNe, Int.reduceNeg, Int.reduceAdd, Int.reduceSub, Int.reduceMul, Int.reduceLT, Int.reduceLE, Int.reduceGT, Int.reduceGE, Int.reduceEq, Int.reduceNe, Int.reduceToNat, Int.reduceTMod, Int.reduceTDiv, e]
  · have hl : t.length ≤ s.length := by
      simp only [endsIn, Bool.and_eq_true, decide_eq_true_eq] at h
      exact h.1
    obtain ⟨m, hm⟩ : ∃ m, s.length = m + t.length := ⟨s.length - t.length, by omega⟩
    have e1 : (s.length : Int) - t.length = m := by omega
    have e2 : s.length - t.length = m := by omega
    have e3 : m ≤ s.length := by omega
    have e : trimmed s t = s.take m := by simp [trimmed, h, e2]
    simp (disch := omega) only [go_sem, reduceIte, reduceDIte, reduceCtorEq, Nat.reduceBEq, Nat.reduceEqDiff, Nat.reduceAdd, Nat.reduceSub, Nat.reduceMul, Nat.reduceLT, Nat.reduceLeDiff, Nat.reduceBNe, Int.reduceNeg, Int.reduceAdd, Int.reduceSub, Int.reduceMul, Int.reduceLT, Int.reduceLE, Int.reduceGT, Int.reduceGE, Int.reduceEq, Int.reduceNe, Int.reduceToNat, Int.reduceTMod, Int.reduceTDiv, e1, e3, e]

theorem trim31 (s t : List UInt8) (hs : s.length ≤ 1048576) (ht : t.length ≤ 1048576) : PCall Try.prog 31 [.d (.str s), .d (.str t)] (.d (.str (trimmed s t))) := by
  refine fn31.pure noHint (Nat.le_refl _) (by simp only [go_sem]) (by simp only [go_sem]) ?_
  simp (disch := omega) only [go_sem, reduceIte, reduceDIte, reduceCtorEq, Nat.reduceBEq, Nat.reduceEqDiff, Nat.reduceAdd, Nat.reduceSub, Nat.reduceMul, Nat.reduceLT, Nat.reduceLeDiff, Nat.reduceBNe, Int.reduceNeg, Int.reduceAdd, Int.reduceSub, Int.reduceMul, Int.reduceLT, Int.reduceLE, Int.reduceGT, Int.reduceGE, Int.reduceEq, Int.reduceNe, Int.reduceToNat, Int.reduceTMod, Int.reduceTDiv]
  refine (trim37 s t hs ht).at ?_
  simp (disch := omega) only [go_sem, reduceIte, reduceDIte, reduceCtorEq, Nat.reduceBEq, Nat.reduceEqDiff, Nat.reduceAdd, Nat.reduceSub, Nat.reduceMul, Nat.reduceLT, Nat.reduceLeDiff, Nat.reduceBNe, Int.reduceNeg, Int.reduceAdd, Int.reduceSub, Int.reduceMul, Int.reduceLT, Int.reduceLE, Int.reduceGT, Int.reduceGE, Int.reduceEq, Int.reduceNe, Int.reduceToNat, Int.reduceTMod, Int.reduceTDiv]

/-- The label of a prompt. -/
def labelOf (l : List Glyph) : List UInt8 := if 0 < ends l ∧ isBlank (l.getD (ends l - 1) default) = true then text (l.take (ends l - 1)) else text (l.take (ends l))

theorem text_take_le {l : List Glyph} (h : okRow l) (k : Nat) : (l.take k).length ≤ 1048576 ∧ (text (l.take k)).length ≤ 1048576 := by
  have : text l = text (l.take k) ++ text (l.drop k) := by rw [text, text, text, ← List.flatMap_append, List.take_append_drop]
  have h2 := h.2
  rw [this, List.length_append] at h2
  have := h.1
  exact ⟨by rw [List.length_take]; omega, by omega⟩

theorem label32 (l : List Glyph) (h : okRow l) : PCall Try.prog 32 [glyphs l] (.d (.str (labelOf l))) := by
  refine fn32.pure noHint (Nat.le_refl _) (by simp only [go_sem, glyphs]) (by simp only [go_sem]) ?_
  have hle := ends_le l
  have hl := h.1
  simp (disch := omega) only [go_sem, reduceIte, reduceDIte, reduceCtorEq, Nat.reduceBEq, Nat.reduceEqDiff, Nat.reduceAdd, Nat.reduceSub, Nat.reduceMul, Nat.reduceLT, Nat.reduceLeDiff, Nat.reduceBNe, Int.reduceNeg, Int.reduceAdd, Int.reduceSub, Int.reduceMul, Int.reduceLT, Int.reduceLE, Int.reduceGT, Int.reduceGE, Int.reduceEq, Int.reduceNe, Int.reduceToNat, Int.reduceTMod, Int.reduceTDiv, glyphs]
  refine (ends14 l h.1).at ?_
  by_cases h0 : 0 < ends l
  · obtain ⟨m, hm⟩ : ∃ m, ends l = m + 1 := ⟨ends l - 1, by omega⟩
    have e1 : (0 : Int) < ends l := by omega
    have e2 : (ends l : Int) - 1 = m := by omega
    have e3 : m < l.length := by omega
    have e5 : ends l - 1 = m := by omega
    simp (disch := omega) only [go_sem, reduceIte, reduceDIte, reduceCtorEq, Nat.reduceBEq, Nat.reduceEqDiff, Nat.reduceAdd, Nat.reduceSub, Nat.reduceMul, Nat.reduceLT, Nat.reduceLeDiff, Nat.reduceBNe, Int.reduceNeg, Int.reduceAdd, Int.reduceSub, Int.reduceMul, Int.reduceLT, Int.reduceLE, Int.reduceGT, Int.reduceGE, Int.reduceEq, Int.reduceNe, Int.reduceToNat, Int.reduceTMod, Int.reduceTDiv, e1, e2, e3, Glyph.dv, Glyph.cs]
    by_cases hb : (l.getD m default).text = [32]
    · have e4 : labelOf l = text (l.take m) := by unfold labelOf; rw [if_pos ⟨h0, by rw [e5]; simp only [isBlank, hb, decide_true]⟩, e5]
      have e6 : m ≤ l.length := by omega
      simp (disch := omega) only [go_sem, reduceIte, reduceDIte, reduceCtorEq, Nat.reduceBEq, Nat.reduceEqDiff, Nat.reduceAdd, Nat.reduceSub, Nat.reduceMul, Nat.reduceLT, Nat.reduceLeDiff, Nat.reduceBNe, Int.reduceNeg, Int.reduceAdd, Int.reduceSub, Int.reduceMul, Int.reduceLT, Int.reduceLE, Int.reduceGT, Int.reduceGE, Int.reduceEq, Int.reduceNe, Int.reduceToNat, Int.reduceTMod, Int.reduceTDiv, hb, e2, e6, ← List.map_take]
      refine (text16 (l.take m) (text_take_le h m).1 (text_take_le h m).2).at ?_
      simp (disch := omega) only [go_sem, reduceIte, reduceDIte, reduceCtorEq, Nat.reduceBEq, Nat.reduceEqDiff, Nat.reduceAdd, Nat.reduceSub, Nat.reduceMul, Nat.reduceLT, Nat.reduceLeDiff, Nat.reduceBNe, Int.reduceNeg, Int.reduceAdd, Int.reduceSub, Int.reduceMul, Int.reduceLT, Int.reduceLE, Int.reduceGT, Int.reduceGE, Int.reduceEq, Int.reduceNe, Int.reduceToNat, Int.reduceTMod, Int.reduceTDiv, e4]
    · have e4 : labelOf l = text (l.take (ends l)) := by
        unfold labelOf
        rw [if_neg]
        rintro ⟨_, h⟩
        rw [e5] at h
        exact hb (of_decide_eq_true h)
      simp (disch := omega) only [go_sem, reduceIte, reduceDIte, reduceCtorEq, Nat.reduceBEq, Nat.reduceEqDiff, Nat.reduceAdd, Nat.reduceSub, Nat.reduceMul, Nat.reduceLT, Nat.reduceLeDiff, Nat.reduceBNe, Int.reduceNeg, Int.reduceAdd, Int.reduceSub, Int.reduceMul, Int.reduceLT, Int.reduceLE, Int.reduceGT, Int.reduceGE, Int.reduceEq, Int.reduceNe, Int.reduceToNat, Int.reduceTMod, Int.reduceTDiv, hb, hle, ← List.map_take]
      refine (text16 (l.take (ends l)) (text_take_le h _).1 (text_take_le h _).2).at ?_
      simp (disch := omega) only [go_sem, reduceIte, reduceDIte, reduceCtorEq, Nat.reduceBEq, Nat.reduceEqDiff, Nat.reduceAdd, Nat.reduceSub, Nat.reduceMul, Nat.reduceLT, Nat.reduceLeDiff, Nat.reduceBNe, Int.reduceNeg, Int.reduceAdd, Int.reduceSub, Int.reduceMul, Int.reduceLT, Int.reduceLE, Int.reduceGT, Int.reduceGE, Int.reduceEq, Int.reduceNe, Int.reduceToNat, Int.reduceTMod, Int.reduceTDiv, e4]
  · have e1 : ¬ (0 : Int) < ends l := by omega
    have e4 : labelOf l = text (l.take (ends l)) := by unfold labelOf; rw [if_neg (fun hh => h0 hh.1)]
    simp (disch := omega) only [go_sem, reduceIte, reduceDIte, reduceCtorEq, Nat.reduceBEq, Nat.reduceEqDiff, Nat.reduceAdd, Nat.reduceSub, Nat.reduceMul, Nat.reduceLT, Nat.reduceLeDiff, Nat.reduceBNe, Int.reduceNeg, Int.reduceAdd, Int.reduceSub, Int.reduceMul, Int.reduceLT, Int.reduceLE, Int.reduceGT, Int.reduceGE, Int.reduceEq, Int.reduceNe, Int.reduceToNat, Int.reduceTMod, Int.reduceTDiv, e1, hle, ← List.map_take]
    refine (text16 (l.take (ends l)) (text_take_le h _).1 (text_take_le h _).2).at ?_
    simp (disch := omega) only [go_sem, reduceIte, reduceDIte, reduceCtorEq, Nat.reduceBEq, Nat.reduceEqDiff, Nat.reduceAdd, Nat.reduceSub, Nat.reduceMul, Nat.reduceLT, Nat.reduceLeDiff, Nat.reduceBNe, Int.reduceNeg, Int.reduceAdd, Int.reduceSub, Int.reduceMul, Int.reduceLT, Int.reduceLE, Int.reduceGT, Int.reduceGE, Int.reduceEq, Int.reduceNe, Int.reduceToNat, Int.reduceTMod, Int.reduceTDiv, e4]

theorem take_succ_text (l : List Glyph) (m : Nat) (h : m < l.length) : text (l.take (m + 1)) = text (l.take m) ++ (l.getD m default).text := by
  rw [List.take_succ_eq_append_getElem h, text, List.flatMap_append, ← text]
  simp [List.getD_eq_getElem?_getD, h]

theorem sign_one {t : List UInt8} (h : isSign t = true) : ∃ c, t = [c] ∧ c ≠ 32 := by
  simp only [isSign, Bool.or_eq_true, decide_eq_true_eq] at h
  rcases h with h | h | h | h | h <;> exact ⟨_, h, by decide⟩

/-- The prompt's text without a blank at its end is the label. -/
theorem label_trim (l : List Glyph) (h0 : 0 < ends l) : trimmed (text (l.take (ends l))) [32] = labelOf l := by
  have key : ∀ m, ends l = m + 1 → m < l.length → (isBlank (l.getD m default) = true ∨ isSign (l.getD m default).text = true) → trimmed (text (l.take (ends l))) [32] = labelOf l := by
    intro m hm hlt hc
    have e5 : ends l - 1 = m := by omega
    rw [hm, take_succ_text l m hlt]
    rcases hc with hb | hs
    · have e4 : labelOf l = text (l.take m) := by unfold labelOf; rw [if_pos ⟨h0, by rw [e5]; exact hb⟩, e5]
      have hb' : (l.getD m default).text = [32] := of_decide_eq_true hb
      rw [e4, hb']
      simp [trimmed, endsIn]
    · have e4 : labelOf l = text (l.take (m + 1)) := by
        unfold labelOf
        rw [if_neg, hm]
        rintro ⟨_, h⟩
        rw [e5, sign_not_blank hs] at h
        cases h
      obtain ⟨c, hc, hne⟩ := sign_one hs
      rw [e4, take_succ_text l m hlt, hc]
      simp [trimmed, endsIn, hne]
  rcases ends_cases l 0 with ⟨h1, _⟩ | ⟨h1, h2, h3, _⟩ | ⟨k, h1, h2, h3, h4, _⟩
  · exact absurd (show ends l = 0 from h1) (by omega)
  · have h2' : ends l = l.length := by have : ends l = 0 + l.length := h2; omega
    exact key (l.length - 1) (by omega) (by omega) (.inr h3)
  · have h2' : ends l = k + 2 := by have : ends l = 0 + k + 2 := h2; omega
    exact key (k + 1) (by omega) (by omega) (.inl h4)

theorem split21 (v : View) (r : Region) (hv : v.rows.length ≤ 1048576) (hr : ∀ l ∈ v.rows, okRow l) :
    PCall Try.prog 21 [v.av, r.av] (.tuple [.d (.str (split v r).1), .d (.str (split v r).2)]) := by
  refine fn21.pure noHint (Nat.le_refl _) (by simp only [go_sem, View.av, Region.av]) (by simp only [go_sem, glyphs]) ?_
  simp (disch := omega) only [go_sem, reduceIte, reduceDIte, reduceCtorEq, Nat.reduceBEq, Nat.reduceEqDiff, Nat.reduceAdd, Nat.reduceSub, Nat.reduceMul, Nat.reduceLT, Nat.reduceLeDiff, Nat.reduceBNe, Int.reduceNeg, Int.reduceAdd, Int.reduceSub, Int.reduceMul, Int.reduceLT, Int.reduceLE, Int.reduceGT, Int.reduceGE, Int.reduceEq, Int.reduceNe, Int.reduceToNat, Int.reduceTMod, Int.reduceTDiv, View.av, Region.av]
  by_cases h1 : r.top < 0
  · have e : split v r = ([], []) := by simp [split, h1]
    simp (disch := omega) only [go_sem, reduceIte, reduceDIte, reduceCtorEq, Nat.reduceBEq, Nat.reduceEqDiff, Nat.reduceAdd, Nat.reduceSub, Nat.reduceMul, Nat.reduceLT, Nat.reduceLeDiff, Nat.reduceBNe, Int.reduceNeg, Int.reduceAdd, Int.reduceSub, Int.reduceMul, Int.reduceLT, Int.reduceLE, Int.reduceGT, Int.reduceGE, Int.reduceEq, Int.reduceNe, Int.reduceToNat, Int.reduceTMod, Int.reduceTDiv, h1, e]
  simp (disch := omega) only [go_sem, reduceIte, reduceDIte, reduceCtorEq, Nat.reduceBEq, Nat.reduceEqDiff, Nat.reduceAdd, Nat.reduceSub, Nat.reduceMul, Nat.reduceLT, Nat.reduceLeDiff, Nat.reduceBNe, Int.reduceNeg, Int.reduceAdd, Int.reduceSub, Int.reduceMul, Int.reduceLT, Int.reduceLE, Int.reduceGT, Int.reduceGE, Int.reduceEq, Int.reduceNe, Int.reduceToNat, Int.reduceTMod, Int.reduceTDiv, h1]
  by_cases h2 : r.top ≥ v.rows.length
  · have e : split v r = ([], []) := by simp [split, h2]
    simp (disch := omega) only [go_sem, reduceIte, reduceDIte, reduceCtorEq, Nat.reduceBEq, Nat.reduceEqDiff, Nat.reduceAdd, Nat.reduceSub, Nat.reduceMul, Nat.reduceLT, Nat.reduceLeDiff, Nat.reduceBNe, Int.reduceNeg, Int.reduceAdd, Int.reduceSub, Int.reduceMul, Int.reduceLT, Int.reduceLE, Int.reduceGT, Int.reduceGE, Int.reduceEq, Int.reduceNe, Int.reduceToNat, Int.reduceTMod, Int.reduceTDiv, h2, e]
  obtain ⟨l, hl⟩ : ∃ l, l = v.rows.getD r.top.toNat default := ⟨_, rfl⟩
  have hok : okRow l := hr l (by rw [hl, List.getD_eq_getElem?_getD, List.getElem?_eq_getElem (by omega)]; exact List.getElem_mem _)
  have e : split v r = (text (l.take (ends l)), text (l.drop (ends l))) := by simp [split, h1, h2, hl]
  have h3 : 0 ≤ r.top ∧ r.top < v.rows.length := by omega
  have hle' := ends_le l
  have ht1 : (text (l.take (ends l))).length ≤ 1048576 ∧ (text (l.drop (ends l))).length ≤ 1048576 := by
    have : text l = text (l.take (ends l)) ++ text (l.drop (ends l)) := by rw [text, text, text, ← List.flatMap_append, List.take_append_drop]
    have h := hok.2
    rw [this, List.length_append] at h
    omega
  simp (disch := omega) only [go_sem, reduceIte, reduceDIte, reduceCtorEq, Nat.reduceBEq, Nat.reduceEqDiff, Nat.reduceAdd, Nat.reduceSub, Nat.reduceMul, Nat.reduceLT, Nat.reduceLeDiff, Nat.reduceBNe, Int.reduceNeg, Int.reduceAdd, Int.reduceSub, Int.reduceMul, Int.reduceLT, Int.reduceLE, Int.reduceGT, Int.reduceGE, Int.reduceEq, Int.reduceNe, Int.reduceToNat, Int.reduceTMod, Int.reduceTDiv, h2, h3, e, ← hl, rowD]
  refine (ends14 l hok.1).at ?_
  simp (disch := omega) only [go_sem, reduceIte, reduceDIte, reduceCtorEq, Nat.reduceBEq, Nat.reduceEqDiff, Nat.reduceAdd, Nat.reduceSub, Nat.reduceMul, Nat.reduceLT, Nat.reduceLeDiff, Nat.reduceBNe, Int.reduceNeg, Int.reduceAdd, Int.reduceSub, Int.reduceMul, Int.reduceLT, Int.reduceLE, Int.reduceGT, Int.reduceGE, Int.reduceEq, Int.reduceNe, Int.reduceToNat, Int.reduceTMod, Int.reduceTDiv, glyphs, hle', ← List.map_take, ← List.map_drop]
  refine (text16 (l.take (ends l)) (by rw [List.length_take]; have := hok.1; omega) ht1.1).dat ?_
  simp (disch := omega) only [go_sem, reduceIte, reduceDIte, reduceCtorEq, Nat.reduceBEq, Nat.reduceEqDiff, Nat.reduceAdd, Nat.reduceSub, Nat.reduceMul, Nat.reduceLT, Nat.reduceLeDiff, Nat.reduceBNe, Int.reduceNeg, Int.reduceAdd, Int.reduceSub, Int.reduceMul, Int.reduceLT, Int.reduceLE, Int.reduceGT, Int.reduceGE, Int.reduceEq, Int.reduceNe, Int.reduceToNat, Int.reduceTMod, Int.reduceTDiv, glyphs, hle', ← List.map_take, ← List.map_drop, Nat.le_refl, List.take_length]
  refine (text16 (l.drop (ends l)) (by rw [List.length_drop]; have := hok.1; omega) ht1.2).dat ?_
  simp (disch := omega) only [go_sem, reduceIte, reduceDIte, reduceCtorEq, Nat.reduceBEq, Nat.reduceEqDiff, Nat.reduceAdd, Nat.reduceSub, Nat.reduceMul, Nat.reduceLT, Nat.reduceLeDiff, Nat.reduceBNe, Int.reduceNeg, Int.reduceAdd, Int.reduceSub, Int.reduceMul, Int.reduceLT, Int.reduceLE, Int.reduceGT, Int.reduceGE, Int.reduceEq, Int.reduceNe, Int.reduceToNat, Int.reduceTMod, Int.reduceTDiv, e]
end Go.Proofs.Ytoenpoefcmikgaa
