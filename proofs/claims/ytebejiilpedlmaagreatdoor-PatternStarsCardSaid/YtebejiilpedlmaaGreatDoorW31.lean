/- Part of a proof about the functions of this seat. -/
import Derived.Test.YtebejiilpedlmaaGreatDoorV31
set_option linter.unusedVariables false
set_option linter.unusedSimpArgs false
set_option maxRecDepth 100000
namespace Go.Proofs.YtebejiilpedlmaaGreatDoor
open Go Nv Pat

def finM (s : List UInt8) : List Int := (decM s).out ++ if restM s = [] then [] else [65533]
def charsM (s : List UInt8) : List Int := (decM s).out ++ finM (restM s)
theorem decL_ok : ∀ (l : List UInt8) (i : Nat) (d : Dec), (0 ≤ d.q.missing ∧ d.q.missing ≤ 3) → d.start ≤ i → d.out.length ≤ 2 * i → (decL l i d).out.length ≤ 2 * (i + l.length)
  | [], i, d, _, _, h => by simpa [decL] using h
  | b :: l, i, d, h1, h2, h3 => by
    obtain ⟨k1, k2, k3⟩ := step_ok d i (bt b) h1 h2 h3
    have := decL_ok l (i + 1) _ k1 k2 k3
    rw [decL, List.length_cons]; omega
theorem dec_len (s : List UInt8) : (decM s).out.length ≤ 2 * s.length := by
  have := decL_ok s 0 dec0 (by simp [dec0]) (Nat.le_refl _) (by simp [dec0])
  simpa [decM] using this
theorem rest_len (s : List UInt8) : (restM s).length ≤ s.length := by unfold restM; split <;> simp
theorem fin_len (s : List UInt8) : (finM s).length ≤ 2 * s.length + 1 := by
  have := dec_len s
  unfold finM; split <;> simp <;> omega
theorem chars_len (s : List UInt8) : (charsM s).length ≤ 4 * s.length + 1 := by
  have h1 := dec_len s; have h2 := rest_len s; have h3 := fin_len (restM s)
  unfold charsM; rw [List.length_append]; omega

theorem finish32 (s : List UInt8) (hs : s.length ≤ 100000) (σ : Nv.ST) : RCall Tryz.prog 32 [.d (.str s)] σ fun v σ' =>
    ∃ g n τ, n = (finM s).length ∧ v = .own σ.length g 0 n ∧ σ' = σ ++ .arr g ⟨1, 21⟩ (runesD (finM s)) :: τ := by
  refine fn32.rel noHint (Nat.le_refl _) ?_
  simp (disch := omega) only [go_sem, reduceIte, reduceDIte, reduceCtorEq, Nat.reduceBEq, Nat.reduceEqDiff, Nat.reduceAdd, Nat.reduceSub, Nat.reduceMul, Nat.reduceLT, Nat.reduceLeDiff, Nat.reduceBNe, Int.reduceNeg, Int.reduceAdd, Int.reduceSub, Int.reduceMul, Int.reduceLT, Int.reduceLE, Int.reduceGT, Int.reduceGE, Int.reduceEq, Int.reduceNe, Int.reduceToNat, Int.reduceTMod, Int.reduceTDiv]
  refine (decode31 s hs σ).at ?_
  rintro v σ' ⟨g, n, τ, hn, rfl, rfl⟩
  have hl := dec_len s
  have hn2 : (n + 1) * 4 ≤ 140737488355328 := by omega
  have hta := take_all (runesD (decM s).out) n (by rw [runesD_length, hn])
  by_cases h : restM s = []
  · have e : finM s = (decM s).out := by rw [finM, if_pos h, List.append_nil]
    simp (disch := omega) only [go_sem, reduceIte, reduceDIte, reduceCtorEq, Nat.reduceBEq, Nat.reduceEqDiff, Nat.reduceAdd, Nat.reduceSub, Nat.reduceMul, Nat.reduceLT, Nat.reduceLeDiff, Nat.reduceBNe, Int.reduceNeg, Int.reduceAdd, Int.reduceSub, Int.reduceMul, Int.reduceLT, Int.reduceLE, Int.reduceGT, Int.reduceGE, Int.reduceEq, Int.reduceNe, Int.reduceToNat, Int.reduceTMod, Int.reduceTDiv, h]
    exact ⟨_, rfl, g, n, τ, by rw [e, hn], rfl, by rw [e]⟩
  · have e : finM s = (decM s).out ++ [65533] := by rw [finM, if_neg h]
    simp (disch := omega) only [go_sem, reduceIte, reduceDIte, reduceCtorEq, Nat.reduceBEq, Nat.reduceEqDiff, Nat.reduceAdd, Nat.reduceSub, Nat.reduceMul, Nat.reduceLT, Nat.reduceLeDiff, Nat.reduceBNe, Int.reduceNeg, Int.reduceAdd, Int.reduceSub, Int.reduceMul, Int.reduceLT, Int.reduceLE, Int.reduceGT, Int.reduceGE, Int.reduceEq, Int.reduceNe, Int.reduceToNat, Int.reduceTMod, Int.reduceTDiv, h, hn2, hta, runesD_length, ← hn, Nat.zero_add, Nat.le_refl, List.append_assoc, List.cons_append, List.nil_append, List.length_append, stGet_app, stGet_app0, stSet_app, stSet_app0]
    exact ⟨_, rfl, g + 1, n + 1, _, by rw [e, hn]; simp, rfl, by rw [e]; simp only [runesD, List.map_append]; rfl⟩

open Classical in
/-- Whether a text is in a tree's language. -/
noncomputable def matchB (n : Tree) (s : List UInt8) : Bool := decide (chkE n = 0 ∧ Lang n (charsM s))
theorem matchB_iff (n : Tree) (s : List UInt8) : matchB n s = true ↔ chkE n = 0 ∧ Lang n (charsM s) := by simp [matchB]

def hintsM : Nat → Hint := fun i => if i = 19 then .freeze else if i = 28 then .freeze else .no
@[go_sem] theorem hintsM_at (i : Nat) : hintsM i = if i = 19 then .freeze else if i = 28 then .freeze else .no := nrfl rfl

theorem match17 (n : Tree) (hn : Thin n) (s : List UInt8) (hs : s.length ≤ 10000) : PCall Tryz.prog 17 [nodeA n, .d (.str s)] (.d (.bool (matchB n s))) := by
  refine fn17.pure hintsM (Nat.le_refl _) (by simp only [go_sem, nodeA, nodeF, setD]) (by simp only [go_sem]) ?_
  simp (disch := omega) only [go_sem, reduceIte, reduceDIte, reduceCtorEq, Nat.reduceBEq, Nat.reduceEqDiff, Nat.reduceAdd, Nat.reduceSub, Nat.reduceMul, Nat.reduceLT, Nat.reduceLeDiff, Nat.reduceBNe, Int.reduceNeg, Int.reduceAdd, Int.reduceSub, Int.reduceMul, Int.reduceLT, Int.reduceLE, Int.reduceGT, Int.reduceGE, Int.reduceEq, Int.reduceNe, Int.reduceToNat, Int.reduceTMod, Int.reduceTDiv, nodeA, nodeF]
  refine (check13 n hn).at ?_
  by_cases h0 : chkE n = 0
  · simp (disch := omega) only [go_sem, reduceIte, reduceDIte, reduceCtorEq, Nat.reduceBEq, Nat.reduceEqDiff, Nat.reduceAdd, Nat.reduceSub, Nat.reduceMul, Nat.reduceLT, Nat.reduceLeDiff, Nat.reduceBNe, Int.reduceNeg, Int.reduceAdd, Int.reduceSub, Int.reduceMul, Int.reduceLT, Int.reduceLE, Int.reduceGT, Int.reduceGE, Int.reduceEq, Int.reduceNe, Int.reduceToNat, Int.reduceTMod, Int.reduceTDiv, h0, List.append_assoc, List.cons_append, List.nil_append, List.length_append, stGet_app, stGet_app0, stSet_app, stSet_app0]
    refine (decode31 s (by omega) _).at ?_
    rintro v σ' ⟨g, m, τ, hm, rfl, rfl⟩
    simp (disch := omega) only [go_sem, reduceIte, reduceDIte, reduceCtorEq, Nat.reduceBEq, Nat.reduceEqDiff, Nat.reduceAdd, Nat.reduceSub, Nat.reduceMul, Nat.reduceLT, Nat.reduceLeDiff, Nat.reduceBNe, Int.reduceNeg, Int.reduceAdd, Int.reduceSub, Int.reduceMul, Int.reduceLT, Int.reduceLE, Int.reduceGT, Int.reduceGE, Int.reduceEq, Int.reduceNe, Int.reduceToNat, Int.reduceTMod, Int.reduceTDiv]
    have hrl := rest_len s
    refine (finish32 (restM s) (by omega) _).at ?_
    rintro v σ' ⟨g', m', τ', hm', rfl, rfl⟩
    have hl := dec_len s
    have hl2 := fin_len (restM s)
    have hta := take_all (runesD (decM s).out) m (by rw [runesD_length, hm])
    have hta' := take_all (runesD (finM (restM s))) m' (by rw [runesD_length, hm'])
    have hmm : (m + m') * 4 ≤ 140737488355328 := by omega
    obtain ⟨t, ht⟩ : ∃ t, t = charsM s := ⟨_, rfl⟩
    have htl : t.length = m + m' := by rw [ht, charsM, List.length_append, hm, hm']
    have hcat : List.take (m + m') (runesD (decM s).out ++ runesD (finM (restM s))) = runesD t := by
      rw [ht, charsM, List.take_of_length_le (by rw [List.length_append, runesD_length, runesD_length]; omega)]
      simp only [runesD, List.map_append]
    have hb1 : t.length ≤ 100000 := by omega
    have hb2 : (0 : Int) < ((t.length + 1 : Nat) : Int) := by omega
    have hb3 : (((t.length + 1 : Nat) : Int)) * ((1 : Nat) : Int) ≤ 140737488355328 := by omega
    have efr : boolsA (places t fun j => j = 0) = .d (.list 1 (DV.bool true :: List.replicate t.length (DV.bool false))) := by
      have : places t (fun j => j = 0) = true :: List.replicate t.length false := by
        refine List.ext_getElem (by rw [places_length]; simp) fun j h1 h2 => ?_
        cases j <;> simp [Pat.places]
      rw [boolsA, this]; simp [boolsD]
    have etk : List.take t.length (List.replicate t.length (DV.bool false)) = List.replicate t.length (DV.bool false) := List.take_of_length_le (by simp)
    have hnodes : ¬ 120 < n.nodes := fun h => by rw [chkE, if_pos h] at h0; cases h0
    have hchk : chk n = 0 := by rw [chkE, if_neg hnodes] at h0; exact h0
    have hr := reach33 n hchk (by omega) hn t (fun j => j = 0) hb1
    rw [efr] at hr
    have hpl := places_length t (Pat.Post t (Lang n) fun j => j = 0)
    have hlt : t.length < t.length + 1 := by omega
    have hget := boolsD_get (places t (Pat.Post t (Lang n) fun j => j = 0)) t.length (by omega)
    have hfin : (places t (Pat.Post t (Lang n) fun j => j = 0)).getD t.length false = matchB n s := by
      rw [Bool.eq_iff_iff, places_get (Nat.le_refl _), matchB_iff, ← ht]
      have ep : Pat.part t 0 t.length = t := by simp [Pat.part]
      constructor
      · rintro ⟨i, rfl, _, _, h⟩; rw [ep] at h; exact ⟨h0, h⟩
      · rintro ⟨_, h⟩; exact ⟨0, rfl, by omega, Nat.le_refl _, by rw [ep]; exact h⟩
    rw [hfin] at hget
    simp (disch := omega) only [go_sem, reduceIte, reduceDIte, reduceCtorEq, Nat.reduceBEq, Nat.reduceEqDiff, Nat.reduceAdd, Nat.reduceSub, Nat.reduceMul, Nat.reduceLT, Nat.reduceLeDiff, Nat.reduceBNe, Int.reduceNeg, Int.reduceAdd, Int.reduceSub, Int.reduceMul, Int.reduceLT, Int.reduceLE, Int.reduceGT, Int.reduceGE, Int.reduceEq, Int.reduceNe, Int.reduceToNat, Int.reduceTMod, Int.reduceTDiv, hta, hta', hmm, runesD_length, ← hm, ← hm', Nat.zero_add, Nat.le_refl, hcat, hb2, hb3, List.length_replicate, List.replicate_succ, etk, List.append_assoc, List.cons_append, List.nil_append, List.length_append, stGet_app, stGet_app0, stSet_app, stSet_app0]
    refine ⟨by omega, ?_⟩
    refine hr.at ?_
    simp (disch := omega) only [go_sem, reduceIte, reduceDIte, reduceCtorEq, Nat.reduceBEq, Nat.reduceEqDiff, Nat.reduceAdd, Nat.reduceSub, Nat.reduceMul, Nat.reduceLT, Nat.reduceLeDiff, Nat.reduceBNe, Int.reduceNeg, Int.reduceAdd, Int.reduceSub, Int.reduceMul, Int.reduceLT, Int.reduceLE, Int.reduceGT, Int.reduceGE, Int.reduceEq, Int.reduceNe, Int.reduceToNat, Int.reduceTMod, Int.reduceTDiv, boolsA, hpl, hlt, hget, hcat, hmm, runesD_length, List.append_assoc, List.cons_append, List.nil_append, List.length_append, stGet_app, stGet_app0, stSet_app, stSet_app0]
  · have e : matchB n s = false := by rw [← Bool.not_eq_true, matchB_iff]; exact fun h => h0 h.1
    simp (disch := omega) only [go_sem, reduceIte, reduceDIte, reduceCtorEq, Nat.reduceBEq, Nat.reduceEqDiff, Nat.reduceAdd, Nat.reduceSub, Nat.reduceMul, Nat.reduceLT, Nat.reduceLeDiff, Nat.reduceBNe, Int.reduceNeg, Int.reduceAdd, Int.reduceSub, Int.reduceMul, Int.reduceLT, Int.reduceLE, Int.reduceGT, Int.reduceGE, Int.reduceEq, Int.reduceNe, Int.reduceToNat, Int.reduceTMod, Int.reduceTDiv, h0, e]
end Go.Proofs.YtebejiilpedlmaaGreatDoor
