/- Part of a proof about the functions of this seat. -/
import Derived.Test.YtebejiilpedlmaaGreatDoorG20V31
import Derived.Test.YtebejiilpedlmaaGreatDoorG09Base31
import Derived.Test.YtebejiilpedlmaaGreatDoorG18G131
import Derived.Lib.ValidLaws
set_option linter.unusedVariables false
set_option linter.unusedSimpArgs false
set_option maxRecDepth 100000
namespace Go.Proofs.YtebejiilpedlmaaGreatDoor
open Go Nv Pat

def finM (s : List UInt8) : List Int := (decM s).out ++ if restM s = [] then [] else [65533]
def charsM (s : List UInt8) : List Int := (decM s).out ++ finM (restM s)
theorem decL_ok : ∀ (l : List UInt8) (i : Nat) (d : Dec), (0 ≤ d.q.missing ∧ d.q.missing ≤ 3) → d.start ≤ i → d.out.length ≤ 2 * i → (decL l i d).out.length ≤ 2 * (i + l.length)
  | [], i, d, _, _, h => by simpa [decL] using h
  | b :: l, i, d, h1, h2, h3 => by
    obtain ⟨k1, k2, k3⟩ := step_ok d i (bt b) h1 h2 h3
    have := decL_ok l (i + 1) _ k1 k2 k3
    rw [decL, List.length_cons]; omega
theorem dec_len (s : List UInt8) : (decM s).out.length ≤ 2 * s.length := by
  have := decL_ok s 0 dec0 (by simp [dec0]) (Nat.le_refl _) (by simp [dec0])
  simpa [decM] using this
theorem rest_len (s : List UInt8) : (restM s).length ≤ s.length := by unfold restM; split <;> simp
theorem fin_len (s : List UInt8) : (finM s).length ≤ 2 * s.length + 1 := by
  have := dec_len s
  unfold finM; split <;> simp <;> omega
theorem chars_len (s : List UInt8) : (charsM s).length ≤ 4 * s.length + 1 := by
  have h1 := dec_len s; have h2 := rest_len s; have h3 := fin_len (restM s)
  unfold charsM; rw [List.length_append]; omega

theorem finish32 (s : List UInt8) (hs : s.length ≤ 100000) (σ : Nv.ST) : RCall Tryz.prog 32 [.d (.str s)] σ fun v σ' =>
    ∃ g n τ, n = (finM s).length ∧ v = .own σ.length g 0 n ∧ σ' = σ ++ .arr g ⟨1, 21⟩ (runesD (finM s)) :: τ := by
  refine fn32.rel noHint (Nat.le_refl _) ?_
  simp (disch := omega) only [go_sem, reduceIte, reduceDIte, reduceCtorEq, Nat.reduceBEq, Nat.reduceEqDiff, Nat.reduceAdd, Nat.reduceSub, Nat.reduceMul, Nat.reduceLT, Nat.reduceLeDiff, Nat.reduceBNe, Int.reduceNeg, Int.reduceAdd, Int.reduceSub, Int.reduceMul, Int.reduceLT, Int.reduceLE, Int.reduceGT, Int.reduceGE, Int.reduceEq, Int.reduceNe, Int.reduceToNat, Int.reduceTMod, Int.reduceTDiv]
  refine (decode31 s hs σ).at ?_
  rintro v σ' ⟨g, n, τ, hn, rfl, rfl⟩
  have hl := dec_len s
  have hn2 : (n + 1) * 4 ≤ 140737488355328 := by omega
  have hta := take_all (runesD (decM s).out) n (by rw [runesD_length, hn])
  by_cases h : restM s = []
  · have e : finM s = (decM s).out := by rw [finM, if_pos h, List.append_nil]
    simp (disch := omega) only [go_sem, reduceIte, reduceDIte, reduceCtorEq, Nat.reduceBEq, Nat.reduceEqDiff, Nat.reduceAdd, Nat.reduceSub, Nat.reduceMul, Nat.reduceLT, Nat.reduceLeDiff, Nat.reduceBNe, Int.reduceNeg, Int.reduceAdd, Int.reduceSub, Int.reduceMul, Int.reduceLT, Int.reduceLE, Int.reduceGT, Int.reduceGE, Int.reduceEq, Int.reduceNe, Int.reduceToNat, Int.reduceTMod, Int.reduceTDiv, h]
    exact ⟨_, rfl, g, n, τ, by rw [e, hn], rfl, by rw [e]⟩
  · have e : finM s = (decM s).out ++ [65533] := by rw [finM, if_neg h]
    simp (disch := omega) only [go_sem, reduceIte, reduceDIte, reduceCtorEq, Nat.reduceBEq, Nat.reduceEqDiff, Nat.reduceAdd, Nat.reduceSub, Nat.reduceMul, Nat.reduceLT, Nat.reduceLeDiff, Nat.reduceBNe, Int.reduceNeg, Int.reduceAdd, Int.reduceSub, Int.reduceMul, Int.reduceLT, Int.reduceLE, Int.reduceGT, Int.reduceGE, Int.reduceEq, Int.reduceNe, Int.reduceToNat, Int.reduceTMod, Int.reduceTDiv, h, hn2, hta, runesD_length, ← hn, Nat.zero_add, Nat.le_refl, List.append_assoc, List.cons_append, List.nil_append, List.length_append, stGet_app, stGet_app0, stSet_app, stSet_app0]
    exact ⟨_, rfl, g + 1, n + 1, _, by rw [e, hn]; simp, rfl, by rw [e]; simp only [runesD, List.map_append]; rfl⟩

open Classical in
/-- Whether a text is in a tree's language. -/
noncomputable def matchB (n : Tree) (s : List UInt8) : Bool := decide (chkE n = 0 ∧ Lang n (charsM s))
theorem matchB_iff (n : Tree) (s : List UInt8) : matchB n s = true ↔ chkE n = 0 ∧ Lang n (charsM s) := by simp [matchB]

def hintsM : Nat → Hint := fun i => if i = 19 then .freeze else if i = 28 then .freeze else .no
@[go_sem] theorem hintsM_at (i : Nat) : hintsM i = if i = 19 then .freeze else if i = 28 then .freeze else .no := nrfl rfl

theorem match17 (n : Tree) (hn : Thin n) (s : List UInt8) (hs : s.length ≤ 10000) : PCall Tryz.prog 17 [nodeA n, .d (.str s)] (.d (.bool (matchB n s))) := by
  refine fn17.pure hintsM (Nat.le_refl _) (by simp only [go_sem, nodeA, nodeF, setD]) (by simp only [go_sem]) ?_
  simp (disch := omega) only [go_sem, reduceIte, reduceDIte, reduceCtorEq, Nat.reduceBEq, Nat.reduceEqDiff, Nat.reduceAdd, Nat.reduceSub, Nat.reduceMul, Nat.reduceLT, Nat.reduceLeDiff, Nat.reduceBNe, Int.reduceNeg, Int.reduceAdd, Int.reduceSub, Int.reduceMul, Int.reduceLT, Int.reduceLE, Int.reduceGT, Int.reduceGE, Int.reduceEq, Int.reduceNe, Int.reduceToNat, Int.reduceTMod, Int.reduceTDiv, nodeA, nodeF]
  refine (check13 n hn).at ?_
  by_cases h0 : chkE n = 0
  · simp (disch := omega) only [go_sem, reduceIte, reduceDIte, reduceCtorEq, Nat.reduceBEq, Nat.reduceEqDiff, Nat.reduceAdd, Nat.reduceSub, Nat.reduceMul, Nat.reduceLT, Nat.reduceLeDiff, Nat.reduceBNe, Int.reduceNeg, Int.reduceAdd, Int.reduceSub, Int.reduceMul, Int.reduceLT, Int.reduceLE, Int.reduceGT, Int.reduceGE, Int.reduceEq, Int.reduceNe, Int.reduceToNat, Int.reduceTMod, Int.reduceTDiv, h0, List.append_assoc, List.cons_append, List.nil_append, List.length_append, stGet_app, stGet_app0, stSet_app, stSet_app0]
    refine (decode31 s (by omega) _).at ?_
    rintro v σ' ⟨g, m, τ, hm, rfl, rfl⟩
    simp (disch := omega) only [go_sem, reduceIte, reduceDIte, reduceCtorEq, Nat.reduceBEq, Nat.reduceEqDiff, Nat.reduceAdd, Nat.reduceSub, Nat.reduceMul, Nat.reduceLT, Nat.reduceLeDiff, Nat.reduceBNe, Int.reduceNeg, Int.reduceAdd, Int.reduceSub, Int.reduceMul, Int.reduceLT, Int.reduceLE, Int.reduceGT, Int.reduceGE, Int.reduceEq, Int.reduceNe, Int.reduceToNat, Int.reduceTMod, Int.reduceTDiv]
    have hrl := rest_len s
    refine (finish32 (restM s) (by omega) _).at ?_
    rintro v σ' ⟨g', m', τ', hm', rfl, rfl⟩
    have hl := dec_len s
    have hl2 := fin_len (restM s)
    have hta := take_all (runesD (decM s).out) m (by rw [runesD_length, hm])
    have hta' := take_all (runesD (finM (restM s))) m' (by rw [runesD_length, hm'])
    have hmm : (m + m') * 4 ≤ 140737488355328 := by omega
    obtain ⟨t, ht⟩ : ∃ t, t = charsM s := ⟨_, rfl⟩
    have htl : t.length = m + m' := by rw [ht, charsM, List.length_append, hm, hm']
    have hcat : List.take (m + m') (runesD (decM s).out ++ runesD (finM (restM s))) = runesD t := by
      rw [ht, charsM, List.take_of_length_le (by rw [List.length_append, runesD_length, runesD_length]; omega)]
      simp only [runesD, List.map_append]
    have hb1 : t.length ≤ 100000 := by omega
    have hb2 : (0 : Int) < ((t.length + 1 : Nat) : Int) := by omega
    have hb3 : (((t.length + 1 : Nat) : Int)) * ((1 : Nat) : Int) ≤ 140737488355328 := by omega
    have efr : boolsA (places t fun j => j = 0) = .d (.list 1 (DV.bool true :: List.replicate t.length (DV.bool false))) := by
      have : places t (fun j => j = 0) = true :: List.replicate t.length false := by
        refine List.ext_getElem (by rw [places_length]; simp) fun j h1 h2 => ?_
        cases j <;> simp [Pat.places]
      rw [boolsA, this]; simp [boolsD]
    have etk : List.take t.length (List.replicate t.length (DV.bool false)) = List.replicate t.length (DV.bool false) := List.take_of_length_le (by simp)
    have hnodes : ¬ 120 < n.nodes := fun h => by rw [chkE, if_pos h] at h0; cases h0
    have hchk : chk n = 0 := by rw [chkE, if_neg hnodes] at h0; exact h0
    have hr := reach33 n hchk (by omega) hn t (fun j => j = 0) hb1
    rw [efr] at hr
    have hpl := places_length t (Pat.Post t (Lang n) fun j => j = 0)
    have hlt : t.length < t.length + 1 := by omega
    have hget := boolsD_get (places t (Pat.Post t (Lang n) fun j => j = 0)) t.length (by omega)
    have hfin : (places t (Pat.Post t (Lang n) fun j => j = 0)).getD t.length false = matchB n s := by
      rw [Bool.eq_iff_iff, places_get (Nat.le_refl _), matchB_iff, ← ht]
      have ep : Pat.part t 0 t.length = t := by simp [Pat.part]
      constructor
      · rintro ⟨i, rfl, _, _, h⟩; rw [ep] at h; exact ⟨h0, h⟩
      · rintro ⟨_, h⟩; exact ⟨0, rfl, by omega, Nat.le_refl _, by rw [ep]; exact h⟩
    rw [hfin] at hget
    simp (disch := omega) only [go_sem, reduceIte, reduceDIte, reduceCtorEq, Nat.reduceBEq, Nat.reduceEqDiff, Nat.reduceAdd, Nat.reduceSub, Nat.reduceMul, Nat.reduceLT, Nat.reduceLeDiff, Nat.reduceBNe, Int.reduceNeg, Int.reduceAdd, Int.reduceSub, Int.reduceMul, Int.reduceLT, Int.reduceLE, Int.reduceGT, Int.reduceGE, Int.reduceEq, Int.reduceNe, Int.reduceToNat, Int.reduceTMod, Int.reduceTDiv, hta, hta', hmm, runesD_length, ← hm, ← hm', Nat.zero_add, Nat.le_refl, hcat, hb2, hb3, List.length_replicate, List.replicate_succ, etk, List.append_assoc, List.cons_append, List.nil_append, List.length_append, stGet_app, stGet_app0, stSet_app, stSet_app0]
    refine ⟨by omega, ?_⟩
    refine hr.at ?_
    simp (disch := omega) only [go_sem, reduceIte, reduceDIte, reduceCtorEq, Nat.reduceBEq, Nat.reduceEqDiff, Nat.reduceAdd, Nat.reduceSub, Nat.reduceMul, Nat.reduceLT, Nat.reduceLeDiff, Nat.reduceBNe, Int.reduceNeg, Int.reduceAdd, Int.reduceSub, Int.reduceMul, Int.reduceLT, Int.reduceLE, Int.reduceGT, Int.reduceGE, Int.reduceEq, Int.reduceNe, Int.reduceToNat, Int.reduceTMod, Int.reduceTDiv, boolsA, hpl, hlt, hget, hcat, hmm, runesD_length, List.append_assoc, List.cons_append, List.nil_append, List.length_append, stGet_app, stGet_app0, stSet_app, stSet_app0]
  · have e : matchB n s = false := by rw [← Bool.not_eq_true, matchB_iff]; exact fun h => h0 h.1
    simp (disch := omega) only [go_sem, reduceIte, reduceDIte, reduceCtorEq, Nat.reduceBEq, Nat.reduceEqDiff, Nat.reduceAdd, Nat.reduceSub, Nat.reduceMul, Nat.reduceLT, Nat.reduceLeDiff, Nat.reduceBNe, Int.reduceNeg, Int.reduceAdd, Int.reduceSub, Int.reduceMul, Int.reduceLT, Int.reduceLE, Int.reduceGT, Int.reduceGE, Int.reduceEq, Int.reduceNe, Int.reduceToNat, Int.reduceTMod, Int.reduceTDiv, h0, e]
end Go.Proofs.YtebejiilpedlmaaGreatDoor
/- The prepared code of further functions. Written by a program of mine (gen.py) out of what the loaded dump prints. -/

set_option linter.unusedVariables false
set_option maxRecDepth 100000
namespace Go.Proofs.YtebejiilpedlmaaGreatDoor
open Go Nv

/-- narrator.narratorlaw31.PatternJoins -/
theorem fn5 : FnIs Tryz.prog 5 3 [Go.ResultVar.tmp 6] (.seq (.region [⟨some 3, Go.Op.box 25 (Go.Operand.tmp 0), 0, none⟩,
      ⟨some 4, Go.Op.box 25 (Go.Operand.tmp 1), 0, none⟩,
      ⟨some 6, Go.Op.assign (Go.Operand.const (Go.Value.bool false)), 4, none⟩])
    (.seq (.seq (.region [⟨some 10, Go.Op.load 25 (Go.Operand.tmp 3), 25, none⟩,
      ⟨some 11, Go.Op.move (Go.Operand.tmp 2), 9, none⟩,
      ⟨some 12, Go.Op.call { callee := Go.Callee.value (Go.Operand.func 16), args := #[Go.Operand.tmp 10, Go.Operand.tmp 11], argTypes := #[25, 9] }, 4, none⟩,
      ⟨some 13, Go.Op.move (Go.Operand.tmp 12), 4, none⟩,
      ⟨some 14, Go.Op.load 25 (Go.Operand.tmp 4), 25, (some (13, false))⟩,
      ⟨some 15, Go.Op.move (Go.Operand.tmp 2), 9, (some (13, false))⟩,
      ⟨some 16, Go.Op.call { callee := Go.Callee.value (Go.Operand.func 16), args := #[Go.Operand.tmp 14, Go.Operand.tmp 15], argTypes := #[25, 9] }, 4, (some (13, false))⟩,
      ⟨some 17, Go.Op.pick (Go.Operand.tmp 13) (Go.Operand.const (Go.Value.bool true)) (Go.Operand.tmp 16), 4, none⟩,
      ⟨some 18, Go.Op.move (Go.Operand.tmp 17), 4, none⟩,
      ⟨some 19, Go.Op.move (Go.Operand.tmp 2), 9, (some (18, false))⟩,
      ⟨some 20, Go.Op.call { callee := Go.Callee.builtin Go.Builtin.len, args := #[Go.Operand.tmp 19], argTypes := #[9] }, 3, (some (18, false))⟩,
      ⟨some 21, Go.Op.binOp Go.BinOp.gtr 3 (Go.Operand.tmp 20) (Go.Operand.const (Go.Value.int Go.IntKind.i64 12)) 3, 4, (some (18, false))⟩,
      ⟨some 22, Go.Op.pick (Go.Operand.tmp 18) (Go.Operand.const (Go.Value.bool true)) (Go.Operand.tmp 21), 4, none⟩,
      ⟨some 23, Go.Op.move (Go.Operand.tmp 22), 4, none⟩,
      ⟨some 24, Go.Op.move (Go.Operand.tmp 2), 9, (some (23, false))⟩,
      ⟨some 25, Go.Op.call { callee := Go.Callee.value (Go.Operand.func 18), args := #[Go.Operand.tmp 24], argTypes := #[9] }, 4, (some (23, false))⟩,
      ⟨some 26, Go.Op.unOp Go.UnOp.not 4 (Go.Operand.tmp 25), 4, (some (23, false))⟩,
      ⟨some 27, Go.Op.pick (Go.Operand.tmp 23) (Go.Operand.const (Go.Value.bool true)) (Go.Operand.tmp 26), 4, none⟩,
      ⟨some 28, Go.Op.move (Go.Operand.tmp 27), 4, none⟩,
      ⟨some 29, Go.Op.load 25 (Go.Operand.tmp 3), 25, (some (28, false))⟩,
      ⟨some 30, Go.Op.call { callee := Go.Callee.value (Go.Operand.func 13), args := #[Go.Operand.tmp 29], argTypes := #[25] }, 28, (some (28, false))⟩,
      ⟨some 31, Go.Op.binOp Go.BinOp.neq 28 (Go.Operand.tmp 30) (Go.Operand.const (Go.Value.int Go.IntKind.i64 0)) 28, 4, (some (28, false))⟩,
      ⟨some 32, Go.Op.pick (Go.Operand.tmp 28) (Go.Operand.const (Go.Value.bool true)) (Go.Operand.tmp 31), 4, none⟩,
      ⟨some 33, Go.Op.move (Go.Operand.tmp 32), 4, none⟩,
      ⟨some 34, Go.Op.load 25 (Go.Operand.tmp 4), 25, (some (33, false))⟩,
      ⟨some 35, Go.Op.call { callee := Go.Callee.value (Go.Operand.func 13), args := #[Go.Operand.tmp 34], argTypes := #[25] }, 28, (some (33, false))⟩,
      ⟨some 36, Go.Op.binOp Go.BinOp.neq 28 (Go.Operand.tmp 35) (Go.Operand.const (Go.Value.int Go.IntKind.i64 0)) 28, 4, (some (33, false))⟩,
      ⟨some 37, Go.Op.pick (Go.Operand.tmp 33) (Go.Operand.const (Go.Value.bool true)) (Go.Operand.tmp 36), 4, none⟩])
    (.cond (Go.Operand.tmp 37)
      (.seq (.region [⟨some 38, Go.Op.call { callee := Go.Callee.value (Go.Operand.func 11), args := #[], argTypes := #[] }, 4, none⟩,
        ⟨some 6, Go.Op.assign (Go.Operand.tmp 38), 4, none⟩])
      .ret)
      .skip))
    (.seq (.region [⟨some 39, Go.Op.load 25 (Go.Operand.tmp 3), 25, none⟩,
      ⟨some 40, Go.Op.load 25 (Go.Operand.tmp 4), 25, none⟩,
      ⟨some 41, Go.Op.buildSlice 23 2 #[(0, Go.Operand.tmp 39), (1, Go.Operand.tmp 40)], 23, none⟩,
      ⟨some 42, Go.Op.build 25 #[(0, Go.Operand.const (Go.Value.int Go.IntKind.i64 3)), (2, Go.Operand.tmp 41)], 25, none⟩,
      ⟨some 7, Go.Op.alloc 25, 0, none⟩,
      ⟨none, Go.Op.store 25 (Go.Operand.tmp 7) (Go.Operand.tmp 42), 0, none⟩])
    (.seq (.seq (.region [⟨some 43, Go.Op.load 25 (Go.Operand.tmp 7), 25, none⟩,
      ⟨some 44, Go.Op.call { callee := Go.Callee.value (Go.Operand.func 13), args := #[Go.Operand.tmp 43], argTypes := #[25] }, 28, none⟩,
      ⟨some 45, Go.Op.binOp Go.BinOp.neq 28 (Go.Operand.tmp 44) (Go.Operand.const (Go.Value.int Go.IntKind.i64 0)) 28, 4, none⟩])
    (.cond (Go.Operand.tmp 45)
      (.seq (.region [⟨some 46, Go.Op.call { callee := Go.Callee.value (Go.Operand.func 11), args := #[], argTypes := #[] }, 4, none⟩,
        ⟨some 6, Go.Op.assign (Go.Operand.tmp 46), 4, none⟩])
      .ret)
      .skip))
    (.seq (.region [⟨some 8, Go.Op.assign (Go.Operand.const (Go.Value.bool false)), 4, none⟩])
    (.seq (.seq (.region [⟨some 9, Go.Op.assign (Go.Operand.const (Go.Value.int Go.IntKind.i64 0)), 3, none⟩])
    (.block 0
      (.loop
        (.seq (.seq (.region [⟨some 47, Go.Op.move (Go.Operand.tmp 9), 3, none⟩,
          ⟨some 48, Go.Op.move (Go.Operand.tmp 2), 9, none⟩,
          ⟨some 49, Go.Op.call { callee := Go.Callee.builtin Go.Builtin.len, args := #[Go.Operand.tmp 48], argTypes := #[9] }, 3, none⟩,
          ⟨some 50, Go.Op.binOp Go.BinOp.leq 3 (Go.Operand.tmp 47) (Go.Operand.tmp 49) 3, 4, none⟩])
        (.cond (Go.Operand.tmp 50)
          .skip
          (.exit 0)))
        (.seq (.block 1
          (.seq (.region [⟨some 53, Go.Op.move (Go.Operand.tmp 2), 9, none⟩,
            ⟨some 54, Go.Op.move (Go.Operand.tmp 9), 3, none⟩,
            ⟨some 55, Go.Op.slice 9 (Go.Operand.tmp 53) none (some (Go.Operand.tmp 54)) none, 9, none⟩,
            ⟨some 56, Go.Op.call { callee := Go.Callee.value (Go.Operand.func 18), args := #[Go.Operand.tmp 55], argTypes := #[9] }, 4, none⟩])
          (.cond (Go.Operand.tmp 56)
            (.draw [⟨⟨some 57, Go.Op.move (Go.Operand.tmp 8), 4, none⟩, false, false, false⟩,
              ⟨⟨some 58, Go.Op.move (Go.Operand.tmp 57), 4, none⟩, false, false, false⟩,
              ⟨⟨some 59, Go.Op.load 25 (Go.Operand.tmp 3), 25, (some (58, false))⟩, false, false, false⟩,
              ⟨⟨some 60, Go.Op.move (Go.Operand.tmp 2), 9, (some (58, false))⟩, false, false, false⟩,
              ⟨⟨some 61, Go.Op.move (Go.Operand.tmp 9), 3, (some (58, false))⟩, false, false, false⟩,
              ⟨⟨some 62, Go.Op.slice 9 (Go.Operand.tmp 60) none (some (Go.Operand.tmp 61)) none, 9, (some (58, false))⟩, false, false, false⟩,
              ⟨⟨some 63, Go.Op.call { callee := Go.Callee.value (Go.Operand.func 17), args := #[Go.Operand.tmp 59, Go.Operand.tmp 62], argTypes := #[25, 9] }, 4, (some (58, false))⟩, false, false, false⟩,
              ⟨⟨some 64, Go.Op.move (Go.Operand.tmp 63), 4, (some (58, false))⟩, false, false, false⟩,
              ⟨⟨some 65, Go.Op.load 25 (Go.Operand.tmp 4), 25, (some (64, true))⟩, false, false, false⟩,
              ⟨⟨some 66, Go.Op.move (Go.Operand.tmp 2), 9, (some (64, true))⟩, false, false, false⟩,
              ⟨⟨some 67, Go.Op.move (Go.Operand.tmp 9), 3, (some (64, true))⟩, false, false, false⟩,
              ⟨⟨some 68, Go.Op.slice 9 (Go.Operand.tmp 66) (some (Go.Operand.tmp 67)) none none, 9, (some (64, true))⟩, false, false, false⟩,
              ⟨⟨some 69, Go.Op.call { callee := Go.Callee.value (Go.Operand.func 17), args := #[Go.Operand.tmp 65, Go.Operand.tmp 68], argTypes := #[25, 9] }, 4, (some (64, true))⟩, false, false, false⟩,
              ⟨⟨some 70, Go.Op.pick (Go.Operand.tmp 64) (Go.Operand.tmp 69) (Go.Operand.const (Go.Value.bool false)), 4, (some (58, false))⟩, false, false, false⟩,
              ⟨⟨some 71, Go.Op.pick (Go.Operand.tmp 58) (Go.Operand.const (Go.Value.bool true)) (Go.Operand.tmp 70), 4, none⟩, false, false, false⟩,
              ⟨⟨some 8, Go.Op.assign (Go.Operand.tmp 71), 4, none⟩, false, false, false⟩])
            .skip)))
        (.region [⟨some 51, Go.Op.move (Go.Operand.tmp 9), 3, none⟩,
          ⟨some 52, Go.Op.binOp Go.BinOp.add 3 (Go.Operand.tmp 51) (Go.Operand.const (Go.Value.int Go.IntKind.i64 1)) 3, 3, none⟩,
          ⟨some 9, Go.Op.assign (Go.Operand.tmp 52), 3, none⟩]))))))
    (.seq (.region [⟨some 72, Go.Op.load 25 (Go.Operand.tmp 7), 25, none⟩,
      ⟨some 73, Go.Op.move (Go.Operand.tmp 2), 9, none⟩,
      ⟨some 74, Go.Op.call { callee := Go.Callee.value (Go.Operand.func 17), args := #[Go.Operand.tmp 72, Go.Operand.tmp 73], argTypes := #[25, 9] }, 4, none⟩,
      ⟨some 75, Go.Op.move (Go.Operand.tmp 8), 4, none⟩,
      ⟨some 76, Go.Op.binOp Go.BinOp.eql 4 (Go.Operand.tmp 74) (Go.Operand.tmp 75) 4, 4, none⟩,
      ⟨some 77, Go.Op.move (Go.Operand.tmp 76), 4, none⟩,
      ⟨some 78, Go.Op.call { callee := Go.Callee.value (Go.Operand.func 11), args := #[], argTypes := #[] }, 4, (some (77, true))⟩,
      ⟨some 79, Go.Op.pick (Go.Operand.tmp 77) (Go.Operand.tmp 78) (Go.Operand.const (Go.Value.bool false)), 4, none⟩,
      ⟨some 6, Go.Op.assign (Go.Operand.tmp 79), 4, none⟩])
    .ret))))))) :=
  ⟨foll, Tryz.f5, Tryz.func5, by kernel_rfl, by kernel_rfl, by kernel_rfl, by rw [Tryz.ntmps5]; decide⟩

/-- narrator.narratorlaw31.PatternMatch -/
theorem fn7 : FnIs Tryz.prog 7 2 [Go.ResultVar.tmp 4] (.seq (.region [⟨some 2, Go.Op.box 25 (Go.Operand.tmp 0), 0, none⟩,
      ⟨some 4, Go.Op.assign (Go.Operand.const (Go.Value.bool false)), 4, none⟩])
    (.seq (.seq (.region [⟨some 5, Go.Op.load 25 (Go.Operand.tmp 2), 25, none⟩,
      ⟨some 6, Go.Op.move (Go.Operand.tmp 1), 9, none⟩,
      ⟨some 7, Go.Op.call { callee := Go.Callee.value (Go.Operand.func 16), args := #[Go.Operand.tmp 5, Go.Operand.tmp 6], argTypes := #[25, 9] }, 4, none⟩])
    (.cond (Go.Operand.tmp 7)
      (.seq (.region [⟨some 8, Go.Op.call { callee := Go.Callee.value (Go.Operand.func 11), args := #[], argTypes := #[] }, 4, none⟩,
        ⟨some 4, Go.Op.assign (Go.Operand.tmp 8), 4, none⟩])
      .ret)
      .skip))
    (.seq (.draw [⟨⟨some 9, Go.Op.load 25 (Go.Operand.tmp 2), 25, none⟩, false, false, false⟩,
      ⟨⟨some 10, Go.Op.move (Go.Operand.tmp 1), 9, none⟩, false, false, false⟩,
      ⟨⟨some 11, Go.Op.call { callee := Go.Callee.value (Go.Operand.func 17), args := #[Go.Operand.tmp 9, Go.Operand.tmp 10], argTypes := #[25, 9] }, 4, none⟩, false, false, false⟩,
      ⟨⟨some 12, Go.Op.load 25 (Go.Operand.tmp 2), 25, none⟩, false, false, false⟩,
      ⟨⟨some 13, Go.Op.move (Go.Operand.tmp 1), 9, none⟩, false, false, false⟩,
      ⟨⟨some 14, Go.Op.call { callee := Go.Callee.value (Go.Operand.func 19), args := #[Go.Operand.tmp 12, Go.Operand.tmp 13], argTypes := #[25, 9] }, 4, none⟩, false, false, false⟩,
      ⟨⟨some 15, Go.Op.binOp Go.BinOp.eql 4 (Go.Operand.tmp 11) (Go.Operand.tmp 14) 4, 4, none⟩, false, false, false⟩,
      ⟨⟨some 16, Go.Op.move (Go.Operand.tmp 15), 4, none⟩, false, false, false⟩,
      ⟨⟨some 17, Go.Op.load 25 (Go.Operand.tmp 2), 25, (some (16, true))⟩, false, false, false⟩,
      ⟨⟨some 18, Go.Op.call { callee := Go.Callee.value (Go.Operand.func 20), args := #[Go.Operand.tmp 17], argTypes := #[25] }, 4, (some (16, true))⟩, false, false, false⟩,
      ⟨⟨some 19, Go.Op.load 25 (Go.Operand.tmp 2), 25, (some (16, true))⟩, false, false, false⟩,
      ⟨⟨some 20, Go.Op.call { callee := Go.Callee.value (Go.Operand.func 19), args := #[Go.Operand.tmp 19, Go.Operand.const (Go.Value.string { data := #[] })], argTypes := #[25, 9] }, 4, (some (16, true))⟩, false, false, false⟩,
      ⟨⟨some 21, Go.Op.binOp Go.BinOp.eql 4 (Go.Operand.tmp 18) (Go.Operand.tmp 20) 4, 4, (some (16, true))⟩, false, false, false⟩,
      ⟨⟨some 22, Go.Op.pick (Go.Operand.tmp 16) (Go.Operand.tmp 21) (Go.Operand.const (Go.Value.bool false)), 4, none⟩, false, false, false⟩,
      ⟨⟨some 23, Go.Op.move (Go.Operand.tmp 22), 4, none⟩, false, false, false⟩,
      ⟨⟨some 24, Go.Op.call { callee := Go.Callee.value (Go.Operand.func 11), args := #[], argTypes := #[] }, 4, (some (23, true))⟩, false, false, false⟩,
      ⟨⟨some 25, Go.Op.pick (Go.Operand.tmp 23) (Go.Operand.tmp 24) (Go.Operand.const (Go.Value.bool false)), 4, none⟩, false, false, false⟩,
      ⟨⟨some 4, Go.Op.assign (Go.Operand.tmp 25), 4, none⟩, false, false, false⟩])
    .ret))) :=
  ⟨foll, Tryz.f7, Tryz.func7, by kernel_rfl, by kernel_rfl, by kernel_rfl, by rw [Tryz.ntmps7]; decide⟩

/-- narrator.narratorlaw31.PatternStars -/
theorem fn8 : FnIs Tryz.prog 8 3 [Go.ResultVar.tmp 6] (.seq (.region [⟨some 3, Go.Op.box 25 (Go.Operand.tmp 0), 0, none⟩,
      ⟨some 6, Go.Op.assign (Go.Operand.const (Go.Value.bool false)), 4, none⟩])
    (.seq (.region [⟨some 8, Go.Op.load 25 (Go.Operand.tmp 3), 25, none⟩,
      ⟨some 9, Go.Op.buildSlice 23 1 #[(0, Go.Operand.tmp 8)], 23, none⟩,
      ⟨some 10, Go.Op.build 25 #[(0, Go.Operand.const (Go.Value.int Go.IntKind.i64 5)), (2, Go.Operand.tmp 9), (4, Go.Operand.const (Go.Value.int Go.IntKind.i64 (-1)))], 25, none⟩,
      ⟨some 7, Go.Op.alloc 25, 0, none⟩,
      ⟨none, Go.Op.store 25 (Go.Operand.tmp 7) (Go.Operand.tmp 10), 0, none⟩])
    (.seq (.seq (.region [⟨some 11, Go.Op.load 25 (Go.Operand.tmp 7), 25, none⟩,
      ⟨some 12, Go.Op.move (Go.Operand.tmp 1), 9, none⟩,
      ⟨some 13, Go.Op.move (Go.Operand.tmp 2), 9, none⟩,
      ⟨some 14, Go.Op.binOp Go.BinOp.add 9 (Go.Operand.tmp 12) (Go.Operand.tmp 13) 9, 9, none⟩,
      ⟨some 15, Go.Op.call { callee := Go.Callee.value (Go.Operand.func 16), args := #[Go.Operand.tmp 11, Go.Operand.tmp 14], argTypes := #[25, 9] }, 4, none⟩,
      ⟨some 16, Go.Op.move (Go.Operand.tmp 15), 4, none⟩,
      ⟨some 17, Go.Op.move (Go.Operand.tmp 1), 9, (some (16, false))⟩,
      ⟨some 18, Go.Op.call { callee := Go.Callee.builtin Go.Builtin.len, args := #[Go.Operand.tmp 17], argTypes := #[9] }, 3, (some (16, false))⟩,
      ⟨some 19, Go.Op.binOp Go.BinOp.gtr 3 (Go.Operand.tmp 18) (Go.Operand.const (Go.Value.int Go.IntKind.i64 20)) 3, 4, (some (16, false))⟩,
      ⟨some 20, Go.Op.pick (Go.Operand.tmp 16) (Go.Operand.const (Go.Value.bool true)) (Go.Operand.tmp 19), 4, none⟩,
      ⟨some 21, Go.Op.move (Go.Operand.tmp 20), 4, none⟩,
      ⟨some 22, Go.Op.move (Go.Operand.tmp 2), 9, (some (21, false))⟩,
      ⟨some 23, Go.Op.call { callee := Go.Callee.builtin Go.Builtin.len, args := #[Go.Operand.tmp 22], argTypes := #[9] }, 3, (some (21, false))⟩,
      ⟨some 24, Go.Op.binOp Go.BinOp.gtr 3 (Go.Operand.tmp 23) (Go.Operand.const (Go.Value.int Go.IntKind.i64 20)) 3, 4, (some (21, false))⟩,
      ⟨some 25, Go.Op.pick (Go.Operand.tmp 21) (Go.Operand.const (Go.Value.bool true)) (Go.Operand.tmp 24), 4, none⟩,
      ⟨some 26, Go.Op.move (Go.Operand.tmp 25), 4, none⟩,
      ⟨some 27, Go.Op.move (Go.Operand.tmp 1), 9, (some (26, false))⟩,
      ⟨some 28, Go.Op.call { callee := Go.Callee.value (Go.Operand.func 18), args := #[Go.Operand.tmp 27], argTypes := #[9] }, 4, (some (26, false))⟩,
      ⟨some 29, Go.Op.unOp Go.UnOp.not 4 (Go.Operand.tmp 28), 4, (some (26, false))⟩,
      ⟨some 30, Go.Op.pick (Go.Operand.tmp 26) (Go.Operand.const (Go.Value.bool true)) (Go.Operand.tmp 29), 4, none⟩,
      ⟨some 31, Go.Op.move (Go.Operand.tmp 30), 4, none⟩,
      ⟨some 32, Go.Op.move (Go.Operand.tmp 2), 9, (some (31, false))⟩,
      ⟨some 33, Go.Op.call { callee := Go.Callee.value (Go.Operand.func 18), args := #[Go.Operand.tmp 32], argTypes := #[9] }, 4, (some (31, false))⟩,
      ⟨some 34, Go.Op.unOp Go.UnOp.not 4 (Go.Operand.tmp 33), 4, (some (31, false))⟩,
      ⟨some 35, Go.Op.pick (Go.Operand.tmp 31) (Go.Operand.const (Go.Value.bool true)) (Go.Operand.tmp 34), 4, none⟩,
      ⟨some 36, Go.Op.move (Go.Operand.tmp 35), 4, none⟩,
      ⟨some 37, Go.Op.load 25 (Go.Operand.tmp 7), 25, (some (36, false))⟩,
      ⟨some 38, Go.Op.call { callee := Go.Callee.value (Go.Operand.func 13), args := #[Go.Operand.tmp 37], argTypes := #[25] }, 28, (some (36, false))⟩,
      ⟨some 39, Go.Op.binOp Go.BinOp.neq 28 (Go.Operand.tmp 38) (Go.Operand.const (Go.Value.int Go.IntKind.i64 0)) 28, 4, (some (36, false))⟩,
      ⟨some 40, Go.Op.pick (Go.Operand.tmp 36) (Go.Operand.const (Go.Value.bool true)) (Go.Operand.tmp 39), 4, none⟩])
    (.cond (Go.Operand.tmp 40)
      (.seq (.region [⟨some 41, Go.Op.call { callee := Go.Callee.value (Go.Operand.func 11), args := #[], argTypes := #[] }, 4, none⟩,
        ⟨some 6, Go.Op.assign (Go.Operand.tmp 41), 4, none⟩])
      .ret)
      .skip))
    (.seq (.seq (.region [⟨some 42, Go.Op.load 25 (Go.Operand.tmp 7), 25, none⟩,
      ⟨some 43, Go.Op.call { callee := Go.Callee.value (Go.Operand.func 20), args := #[Go.Operand.tmp 42], argTypes := #[25] }, 4, none⟩,
      ⟨some 44, Go.Op.unOp Go.UnOp.not 4 (Go.Operand.tmp 43), 4, none⟩,
      ⟨some 45, Go.Op.move (Go.Operand.tmp 44), 4, none⟩,
      ⟨some 46, Go.Op.load 25 (Go.Operand.tmp 3), 25, (some (45, false))⟩,
      ⟨some 47, Go.Op.move (Go.Operand.tmp 1), 9, (some (45, false))⟩,
      ⟨some 48, Go.Op.call { callee := Go.Callee.value (Go.Operand.func 17), args := #[Go.Operand.tmp 46, Go.Operand.tmp 47], argTypes := #[25, 9] }, 4, (some (45, false))⟩,
      ⟨some 49, Go.Op.move (Go.Operand.tmp 48), 4, (some (45, false))⟩,
      ⟨some 50, Go.Op.load 25 (Go.Operand.tmp 7), 25, (some (49, true))⟩,
      ⟨some 51, Go.Op.move (Go.Operand.tmp 1), 9, (some (49, true))⟩,
      ⟨some 52, Go.Op.call { callee := Go.Callee.value (Go.Operand.func 17), args := #[Go.Operand.tmp 50, Go.Operand.tmp 51], argTypes := #[25, 9] }, 4, (some (49, true))⟩,
      ⟨some 53, Go.Op.unOp Go.UnOp.not 4 (Go.Operand.tmp 52), 4, (some (49, true))⟩,
      ⟨some 54, Go.Op.pick (Go.Operand.tmp 49) (Go.Operand.tmp 53) (Go.Operand.const (Go.Value.bool false)), 4, (some (45, false))⟩,
      ⟨some 55, Go.Op.pick (Go.Operand.tmp 45) (Go.Operand.const (Go.Value.bool true)) (Go.Operand.tmp 54), 4, none⟩])
    (.cond (Go.Operand.tmp 55)
      (.seq (.region [⟨some 6, Go.Op.assign (Go.Operand.const (Go.Value.bool false)), 4, none⟩])
      .ret)
      .skip))
    (.seq (.region [⟨some 56, Go.Op.load 25 (Go.Operand.tmp 7), 25, none⟩,
      ⟨some 57, Go.Op.move (Go.Operand.tmp 1), 9, none⟩,
      ⟨some 58, Go.Op.call { callee := Go.Callee.value (Go.Operand.func 17), args := #[Go.Operand.tmp 56, Go.Operand.tmp 57], argTypes := #[25, 9] }, 4, none⟩,
      ⟨some 59, Go.Op.unOp Go.UnOp.not 4 (Go.Operand.tmp 58), 4, none⟩,
      ⟨some 60, Go.Op.move (Go.Operand.tmp 59), 4, none⟩,
      ⟨some 61, Go.Op.load 25 (Go.Operand.tmp 7), 25, (some (60, false))⟩,
      ⟨some 62, Go.Op.move (Go.Operand.tmp 2), 9, (some (60, false))⟩,
      ⟨some 63, Go.Op.call { callee := Go.Callee.value (Go.Operand.func 17), args := #[Go.Operand.tmp 61, Go.Operand.tmp 62], argTypes := #[25, 9] }, 4, (some (60, false))⟩,
      ⟨some 64, Go.Op.unOp Go.UnOp.not 4 (Go.Operand.tmp 63), 4, (some (60, false))⟩,
      ⟨some 65, Go.Op.pick (Go.Operand.tmp 60) (Go.Operand.const (Go.Value.bool true)) (Go.Operand.tmp 64), 4, none⟩,
      ⟨some 66, Go.Op.move (Go.Operand.tmp 65), 4, none⟩,
      ⟨some 67, Go.Op.load 25 (Go.Operand.tmp 7), 25, (some (66, false))⟩,
      ⟨some 68, Go.Op.move (Go.Operand.tmp 1), 9, (some (66, false))⟩,
      ⟨some 69, Go.Op.move (Go.Operand.tmp 2), 9, (some (66, false))⟩,
      ⟨some 70, Go.Op.binOp Go.BinOp.add 9 (Go.Operand.tmp 68) (Go.Operand.tmp 69) 9, 9, (some (66, false))⟩,
      ⟨some 71, Go.Op.call { callee := Go.Callee.value (Go.Operand.func 17), args := #[Go.Operand.tmp 67, Go.Operand.tmp 70], argTypes := #[25, 9] }, 4, (some (66, false))⟩,
      ⟨some 72, Go.Op.pick (Go.Operand.tmp 66) (Go.Operand.const (Go.Value.bool true)) (Go.Operand.tmp 71), 4, none⟩,
      ⟨some 73, Go.Op.move (Go.Operand.tmp 72), 4, none⟩,
      ⟨some 74, Go.Op.call { callee := Go.Callee.value (Go.Operand.func 11), args := #[], argTypes := #[] }, 4, (some (73, true))⟩,
      ⟨some 75, Go.Op.pick (Go.Operand.tmp 73) (Go.Operand.tmp 74) (Go.Operand.const (Go.Value.bool false)), 4, none⟩,
      ⟨some 6, Go.Op.assign (Go.Operand.tmp 75), 4, none⟩])
    .ret))))) :=
  ⟨foll, Tryz.f8, Tryz.func8, by kernel_rfl, by kernel_rfl, by kernel_rfl, by rw [Tryz.ntmps8]; decide⟩

/-- narrator.narratorref31.Match -/
theorem fn19 : FnIs Tryz.prog 19 2 [Go.ResultVar.tmp 4] (.seq (.region [⟨some 2, Go.Op.box 25 (Go.Operand.tmp 0), 0, none⟩,
      ⟨some 4, Go.Op.assign (Go.Operand.const (Go.Value.bool false)), 4, none⟩])
    (.seq (.seq (.region [⟨some 7, Go.Op.load 25 (Go.Operand.tmp 2), 25, none⟩,
      ⟨some 8, Go.Op.call { callee := Go.Callee.value (Go.Operand.func 35), args := #[Go.Operand.tmp 7], argTypes := #[25] }, 3, none⟩,
      ⟨some 9, Go.Op.binOp Go.BinOp.neq 3 (Go.Operand.tmp 8) (Go.Operand.const (Go.Value.int Go.IntKind.i64 0)) 3, 4, none⟩])
    (.cond (Go.Operand.tmp 9)
      (.seq (.region [⟨some 4, Go.Op.assign (Go.Operand.const (Go.Value.bool false)), 4, none⟩])
      .ret)
      .skip))
    (.seq (.region [⟨some 10, Go.Op.move (Go.Operand.tmp 1), 9, none⟩,
      ⟨some 11, Go.Op.call { callee := Go.Callee.value (Go.Operand.func 36), args := #[Go.Operand.tmp 10], argTypes := #[9] }, 42, none⟩,
      ⟨some 5, Go.Op.assign (Go.Operand.tmp 11), 42, none⟩])
    (.seq (.region [⟨some 12, Go.Op.move (Go.Operand.tmp 5), 42, none⟩,
      ⟨some 13, Go.Op.call { callee := Go.Callee.builtin Go.Builtin.len, args := #[Go.Operand.tmp 12], argTypes := #[42] }, 3, none⟩,
      ⟨some 14, Go.Op.binOp Go.BinOp.add 3 (Go.Operand.tmp 13) (Go.Operand.const (Go.Value.int Go.IntKind.i64 1)) 3, 3, none⟩,
      ⟨some 15, Go.Op.makeSlice 60 (Go.Operand.tmp 14) (Go.Operand.tmp 14), 60, none⟩,
      ⟨some 6, Go.Op.assign (Go.Operand.tmp 15), 60, none⟩])
    (.seq (.region [⟨some 16, Go.Op.move (Go.Operand.tmp 6), 60, none⟩,
      ⟨some 17, Go.Op.indexAddr 60 (Go.Operand.tmp 16) (Go.Operand.const (Go.Value.int Go.IntKind.i64 0)), 0, none⟩,
      ⟨none, Go.Op.store 4 (Go.Operand.tmp 17) (Go.Operand.const (Go.Value.bool true)), 0, none⟩])
    (.seq (.region [⟨some 18, Go.Op.load 25 (Go.Operand.tmp 2), 25, none⟩,
      ⟨some 19, Go.Op.move (Go.Operand.tmp 5), 42, none⟩,
      ⟨some 20, Go.Op.move (Go.Operand.tmp 6), 60, none⟩,
      ⟨some 21, Go.Op.call { callee := Go.Callee.value (Go.Operand.func 37), args := #[Go.Operand.tmp 18, Go.Operand.tmp 19, Go.Operand.tmp 20], argTypes := #[25, 42, 60] }, 60, none⟩,
      ⟨some 22, Go.Op.move (Go.Operand.tmp 5), 42, none⟩,
      ⟨some 23, Go.Op.call { callee := Go.Callee.builtin Go.Builtin.len, args := #[Go.Operand.tmp 22], argTypes := #[42] }, 3, none⟩,
      ⟨some 24, Go.Op.indexAddr 60 (Go.Operand.tmp 21) (Go.Operand.tmp 23), 0, none⟩,
      ⟨some 25, Go.Op.load 4 (Go.Operand.tmp 24), 4, none⟩,
      ⟨some 4, Go.Op.assign (Go.Operand.tmp 25), 4, none⟩])
    .ret)))))) :=
  ⟨foll, Tryz.f19, Tryz.func19, by kernel_rfl, by kernel_rfl, by kernel_rfl, by rw [Tryz.ntmps19]; decide⟩

end Go.Proofs.YtebejiilpedlmaaGreatDoor
set_option linter.unusedVariables false
set_option linter.unusedSimpArgs false
set_option maxRecDepth 100000
namespace Go.Proofs.YtebejiilpedlmaaGreatDoor
open Go Nv Pat

/- The reference's Match, given its Characters. -/
def CharsC : Prop := ∀ s : List UInt8, s.length ≤ 10000 → PCall Tryz.prog 36 [.d (.str s)] (runesA (charsM s))
def hint20 : Nat → Hint := fun i => if i = 20 then .freeze else .no
@[go_sem] theorem hint20_at (i : Nat) : hint20 i = if i = 20 then .freeze else .no := nrfl rfl
theorem match19 (hC : CharsC) (n : Tree) (hn : Thin n) (s : List UInt8) (hs : s.length ≤ 10000) : PCall Tryz.prog 19 [nodeA n, .d (.str s)] (.d (.bool (matchB n s))) := by
  refine fn19.pure hint20 (Nat.le_refl _) (by simp only [go_sem, nodeA, nodeF, setD]) (by simp only [go_sem]) ?_
  have hck := check35 n hn
  simp only [nodeA, nodeF] at hck
  simp (disch := omega) only [go_sem, reduceIte, reduceCtorEq, Nat.reduceBEq, Nat.reduceEqDiff, Nat.reduceAdd, Nat.reduceLT, Nat.reduceLeDiff, Int.reduceNeg, Int.reduceAdd, Int.reduceLT, Int.reduceLE, Int.reduceEq, Int.reduceNe, nodeA, nodeF]
  refine hck.at ?_
  by_cases h0 : chkE n = 0
  · have hcs := hC s hs
    obtain ⟨t, ht⟩ : ∃ t, t = charsM s := ⟨_, rfl⟩
    have hb1 : t.length ≤ 100000 := by rw [ht]; have := chars_len s; omega
    rw [← ht, runesA] at hcs
    simp (disch := omega) only [go_sem, reduceIte, reduceCtorEq, Nat.reduceBEq, Nat.reduceEqDiff, Nat.reduceAdd, Nat.reduceLT, Nat.reduceLeDiff, Int.reduceNeg, Int.reduceAdd, Int.reduceLT, Int.reduceLE, Int.reduceEq, Int.reduceNe, h0]
    refine hcs.at ?_
    have hnodes : ¬ 120 < n.nodes := fun h => by rw [chkE, if_pos h] at h0; cases h0
    have hchk : chk n = 0 := by rw [chkE, if_neg hnodes] at h0; exact h0
    have hr := ends37 n hchk (by omega) hn t (fun j => j = 0) hb1
    have efr : boolsA (places t fun j => j = 0) = .d (.list 1 (DV.bool true :: List.replicate t.length (DV.bool false))) := by
      have : places t (fun j => j = 0) = true :: List.replicate t.length false := by
        refine List.ext_getElem (by rw [places_length]; simp) fun j h1 h2 => ?_
        cases j <;> simp [Pat.places]
      rw [boolsA, this]; simp [boolsD]
    rw [efr] at hr
    have hpl := places_length t (Pat.Post t (Lang n) fun j => j = 0)
    have hlt : t.length < t.length + 1 := by omega
    have hget := boolsD_get (places t (Pat.Post t (Lang n) fun j => j = 0)) t.length (by omega)
    have hfin : (places t (Pat.Post t (Lang n) fun j => j = 0)).getD t.length false = matchB n s := by
      rw [Bool.eq_iff_iff, places_get (Nat.le_refl _), matchB_iff, ← ht]
      have ep : Pat.part t 0 t.length = t := by simp [Pat.part]
      constructor
      · rintro ⟨i, rfl, _, _, h⟩; rw [ep] at h; exact ⟨h0, h⟩
      · rintro ⟨_, h⟩; exact ⟨0, rfl, by omega, Nat.le_refl _, by rw [ep]; exact h⟩
    rw [hfin] at hget
    have hb2 : (0 : Int) < ((t.length + 1 : Nat) : Int) := by omega
    have hb3 : (((t.length + 1 : Nat) : Int)) * ((1 : Nat) : Int) ≤ 140737488355328 := by omega
    have etk : List.take t.length (List.replicate t.length (DV.bool false)) = List.replicate t.length (DV.bool false) := List.take_of_length_le (by simp)
    simp only [nodeA, nodeF, runesA] at hr
    simp (disch := omega) only [go_sem, reduceIte, reduceCtorEq, Nat.reduceBEq, Nat.reduceEqDiff, Nat.reduceAdd, Nat.reduceLT, Nat.reduceLeDiff, Int.reduceNeg, Int.reduceAdd, Int.reduceLT, Int.reduceLE, Int.reduceEq, Int.reduceNe, List.length_map, hb2, hb3, List.length_replicate, List.replicate_succ, etk, Nat.zero_add]
    refine ⟨Nat.le_refl _, by omega, Nat.le_refl _, ?_⟩
    refine hr.at ?_
    simp (disch := omega) only [go_sem, reduceIte, reduceCtorEq, Nat.reduceBEq, Nat.reduceEqDiff, Nat.reduceAdd, Nat.reduceLT, Nat.reduceLeDiff, Int.reduceNeg, Int.reduceAdd, Int.reduceLT, Int.reduceLE, Int.reduceEq, Int.reduceNe, boolsA, List.length_map, hpl, hlt, hget]
  · have e : matchB n s = false := by rw [← Bool.not_eq_true, matchB_iff]; exact fun h => h0 h.1
    simp (disch := omega) only [go_sem, reduceIte, reduceCtorEq, Nat.reduceBEq, Nat.reduceEqDiff, Nat.reduceAdd, Nat.reduceLT, Nat.reduceLeDiff, Int.reduceNeg, Int.reduceAdd, Int.reduceLT, Int.reduceLE, Int.reduceEq, Int.reduceNe, h0, e]
end Go.Proofs.YtebejiilpedlmaaGreatDoor
set_option linter.unusedVariables false
set_option linter.unusedSimpArgs false
set_option maxRecDepth 100000
namespace Go.Proofs.YtebejiilpedlmaaGreatDoor
open Go Nv Pat

/- The characters of two texts one after the other. -/
def shiftD (o : List Int) (k : Nat) (d : Dec) : Dec := ⟨o ++ d.out, d.q, d.start + k⟩
theorem step_shift (o : List Int) (k i : Nat) (d : Dec) (b : Int) : stepD (shiftD o k d) (i + k) b = shiftD o k (stepD d i b) := by
  unfold stepD
  by_cases h : goesOn d.q b
  · rw [if_pos (show goesOn (shiftD o k d).q b from h), if_pos h]
    by_cases h0 : d.q.missing - 1 = 0
    · simp only [shiftD, h0, if_true, List.append_assoc]
    · simp only [shiftD, h0, if_false]
  · rw [if_neg (show ¬ goesOn (shiftD o k d).q b from h), if_neg h]
    simp only [shiftD]
    by_cases hm : 0 < d.q.missing <;> by_cases hb : b < 128 <;> by_cases h0 : (beginM b).missing = 0 <;> simp only [hm, hb, h0, if_true, if_false, List.append_assoc]
theorem decL_shift (o : List Int) (k : Nat) : ∀ (l : List UInt8) (i : Nat) (d : Dec), decL l (i + k) (shiftD o k d) = shiftD o k (decL l i d)
  | [], _, _ => rfl
  | b :: l, i, d => by
    rw [decL, step_shift, show i + k + 1 = (i + 1) + k by omega, decL_shift o k l (i + 1), decL]
theorem decL_append : ∀ (a b : List UInt8) (i : Nat) (d : Dec), decL (a ++ b) i d = decL b (i + a.length) (decL a i d)
  | [], b, i, d => rfl
  | x :: a, b, i, d => by
    rw [List.cons_append, decL, decL_append a b (i + 1), decL, List.length_cons, show i + 1 + a.length = i + (a.length + 1) by omega]
/-- A text that ends with a whole character. -/
def Closed (a : List UInt8) : Prop := (decM a).q.missing = 0
theorem closed_nil : Closed [] := rfl
theorem step_closed {d : Dec} (h : d.q.missing = 0) (i : Nat) (b : Int) : stepD d i b = shiftD d.out i (stepD dec0 0 b) := by
  have h1 : ¬ goesOn d.q b := fun g => by have := g.1; omega
  have h2 : ¬ goesOn dec0.q b := fun g => by have := g.1; simp [dec0] at this
  have h3 : ¬ (0 < d.q.missing) := by omega
  have h4 : ¬ (0 < dec0.q.missing) := by simp [dec0]
  unfold stepD
  rw [if_neg h1, if_neg h2]
  simp only [h3, h4, if_false, shiftD, dec0, List.nil_append, Nat.zero_add]
  split <;> (try split) <;> simp
theorem decM_append {a : List UInt8} (h : Closed a) (b : List UInt8) (hb : b ≠ []) : decM (a ++ b) = shiftD (decM a).out a.length (decM b) := by
  cases b with
  | nil => exact absurd rfl hb
  | cons x b =>
    rw [decM, decL_append, decL, step_closed (show (decL a 0 dec0).q.missing = 0 from h)]
    rw [show 0 + a.length + 1 = (0 + 1) + a.length by omega, show 0 + a.length = a.length by omega, decL_shift]
    rfl
theorem closed_append {a b : List UInt8} (ha : Closed a) (hb : Closed b) : Closed (a ++ b) := by
  by_cases h : b = []
  · subst h; simpa using ha
  · unfold Closed; rw [decM_append ha b h]; exact hb
theorem chars_nil : charsM [] = [] := rfl
theorem chars_closed {a : List UInt8} (ha : Closed a) : charsM a = (decM a).out := by
  have e : restM a = [] := if_pos ha
  rw [charsM, e]; simp [show finM [] = [] from rfl]
theorem chars_append {a : List UInt8} (ha : Closed a) (b : List UInt8) : charsM (a ++ b) = charsM a ++ charsM b := by
  by_cases h : b = []
  · subst h; simp [chars_nil]
  · have e : restM (a ++ b) = restM b := by
      unfold restM
      rw [decM_append ha b h]
      simp only [shiftD]
      rw [show (decM b).start + a.length = a.length + (decM b).start by omega, ← List.drop_drop, List.drop_left]
      rfl
    rw [charsM, e, decM_append ha b h, chars_closed ha, charsM]
    simp [shiftD]

theorem step0 (b : UInt8) (h : (beginM (bt b)).missing ≠ 0) : stepD dec0 0 (bt b) = ⟨[], beginM (bt b), 0⟩ := by
  have hb := begin_big h
  unfold stepD
  rw [if_neg (fun g => by have := g.1; simp [dec0] at this)]
  simp only [dec0, show ¬ (0 : Int) < 0 by omega, if_false, show ¬ bt b < 128 by unfold bt; omega, h]
theorem seq_dec {p : List UInt8} (hp : OkSeq p) : Closed p ∧ ∃ c, (decM p).out = [c] := by
  cases hp with
  | @one b h =>
    have h1 : ¬ goesOn dec0.q (bt b) := fun g => by have := g.1; simp [dec0] at this
    have e : stepD dec0 0 (bt b) = ⟨[bt b], beginM (bt b), 0⟩ := by
      unfold stepD; rw [if_neg h1]
      simp only [dec0, show ¬ (0 : Int) < 0 by omega, if_false, show bt b < 128 by unfold bt; omega, if_true, List.nil_append]
    have e0 : (beginM (bt b)).missing = 0 := by unfold beginM bt; rw [if_neg (by omega), if_neg (by omega), if_neg (by omega)]
    refine ⟨?_, bt b, ?_⟩
    · show (stepD dec0 0 (bt b)).q.missing = 0
      rw [e]; exact e0
    · show (stepD dec0 0 (bt b)).out = _
      rw [e]
  | @two b c h1 h2 h3 =>
    have e : decM [b, c] = stepD (stepD dec0 0 (bt b)) 1 (bt c) := rfl
    rw [step0 b (by omega), stepD, if_pos (show goesOn (beginM (bt b)) (bt c) from ⟨by omega, h2, h3⟩)] at e
    simp only [h1, show (1 : Int) - 1 = 0 by omega, if_true] at e
    exact ⟨by show (decM [b, c]).q.missing = 0; rw [e]; simp only [more]; omega, _, by rw [e]; rfl⟩
  | @three b c d h1 h2 h3 h4 h5 =>
    have e : decM [b, c, d] = stepD (stepD (stepD dec0 0 (bt b)) 1 (bt c)) 2 (bt d) := rfl
    rw [step0 b (by omega), stepD, stepD, if_pos (show goesOn (beginM (bt b)) (bt c) from ⟨by omega, h2, h3⟩)] at e
    simp only [h1, show ¬ (2 : Int) - 1 = 0 by omega, if_false] at e
    rw [if_pos (show goesOn (more (beginM (bt b)) (bt c)) (bt d) from ⟨by simp only [more]; omega, h4, h5⟩)] at e
    simp only [more, h1, show (2 : Int) - 1 - 1 = 0 by omega, if_true] at e
    exact ⟨by show (decM [b, c, d]).q.missing = 0; rw [e], _, by rw [e]; rfl⟩
  | @four b c d f h1 h2 h3 h4 h5 h6 h7 =>
    have e : decM [b, c, d, f] = stepD (stepD (stepD (stepD dec0 0 (bt b)) 1 (bt c)) 2 (bt d)) 3 (bt f) := rfl
    rw [step0 b (by omega), stepD, stepD, stepD, if_pos (show goesOn (beginM (bt b)) (bt c) from ⟨by omega, h2, h3⟩)] at e
    simp only [h1, show ¬ (3 : Int) - 1 = 0 by omega, if_false] at e
    rw [if_pos (show goesOn (more (beginM (bt b)) (bt c)) (bt d) from ⟨by simp only [more]; omega, h4, h5⟩)] at e
    simp only [more, h1, show ¬ (3 : Int) - 1 - 1 = 0 by omega, if_false] at e
    rw [if_pos (show goesOn ⟨_, 3 - 1 - 1, 128, 191⟩ (bt f) from ⟨by simp, h6, h7⟩)] at e
    simp only [show (3 : Int) - 1 - 1 - 1 = 0 by omega, if_true] at e
    exact ⟨by show (decM [b, c, d, f]).q.missing = 0; rw [e], _, by rw [e]; rfl⟩
theorem valid_closed {s : List UInt8} (h : Lib.validD s = true) : Closed s :=
  valid_ind (P := Closed) closed_nil (fun p r hp _ ih => closed_append (seq_dec hp).1 ih) s.length s (Nat.le_refl _) h
/-- Where the characters of a valid text divide, the text divides. -/
theorem valid_cut {s : List UInt8} (h : Lib.validD s = true) : ∀ u v : List Int, charsM s = u ++ v → ∃ i, i ≤ s.length ∧ Lib.validD (s.take i) = true ∧ charsM (s.take i) = u ∧ charsM (s.drop i) = v := by
  refine valid_ind (P := fun s => ∀ u v : List Int, charsM s = u ++ v → ∃ i, i ≤ s.length ∧ Lib.validD (s.take i) = true ∧ charsM (s.take i) = u ∧ charsM (s.drop i) = v) ?_ ?_ s.length s (Nat.le_refl _) h
  · intro u v e
    rw [chars_nil] at e
    obtain ⟨rfl, rfl⟩ := List.append_eq_nil_iff.1 e.symm
    exact ⟨0, Nat.le_refl _, rfl, rfl, rfl⟩
  · intro p r hp hr ih u v e
    cases u with
    | nil => exact ⟨0, by omega, rfl, rfl, by simpa using e⟩
    | cons x u =>
      obtain ⟨hc, c, ec⟩ := seq_dec hp
      rw [chars_append hc, chars_closed hc, ec] at e
      simp only [List.cons_append, List.nil_append, List.cons.injEq] at e
      obtain ⟨i, hi, h1, h2, h3⟩ := ih u v e.2
      refine ⟨p.length + i, by rw [List.length_append]; omega, ?_, ?_, ?_⟩
      · rw [List.take_length_add_append, valid_seq hp]; exact h1
      · rw [List.take_length_add_append, chars_append hc, chars_closed hc, ec, h2, e.1]; rfl
      · rw [List.drop_length_add_append]; exact h3

def join (a b : Tree) : Tree := .mk 3 [] [a, b] 0 0
theorem lang_join (a b : Tree) (w : List Int) : Lang (join a b) w ↔ ∃ u v, w = u ++ v ∧ Lang a u ∧ Lang b v := by
  have e1 : Lang (join a b) w ↔ LangJ [a, b] w := by simp [join, Lang]
  rw [e1, langJ_cons]
  constructor
  · rintro ⟨u, v, rfl, hu, hv⟩
    obtain ⟨x, y, rfl, hx, hy⟩ := (langJ_cons b [] v).1 hv
    obtain rfl : y = [] := (langJ_nil y).1 hy
    exact ⟨u, x, by simp, hu, hx⟩
  · rintro ⟨u, v, rfl, hu, hv⟩
    exact ⟨u, v, rfl, hu, (langJ_cons b [] v).2 ⟨v, [], by simp, hv, (langJ_nil []).2 rfl⟩⟩
/-- What the law counts together. -/
noncomputable def cuts (a b : Tree) (s : List UInt8) (i : Nat) : Bool := (List.range i).any fun j => Lib.validD (s.take j) && (matchB a (s.take j) && matchB b (s.drop j))
theorem cuts_zero (a b : Tree) (s : List UInt8) : cuts a b s 0 = false := rfl
theorem cuts_succ (a b : Tree) (s : List UInt8) (i : Nat) : cuts a b s (i + 1) = (cuts a b s i || (Lib.validD (s.take i) && (matchB a (s.take i) && matchB b (s.drop i)))) := by
  simp [cuts, List.range_succ, List.any_append]
theorem join_cuts {a b : Tree} {s : List UInt8} (hv : Lib.validD s = true) (ha : chkE a = 0) (hb : chkE b = 0) (hj : chkE (join a b) = 0) : cuts a b s (s.length + 1) = matchB (join a b) s := by
  rw [Bool.eq_iff_iff, matchB_iff, lang_join, cuts, List.any_eq_true]
  constructor
  · rintro ⟨j, hj', h⟩
    simp only [Bool.and_eq_true, matchB_iff] at h
    obtain ⟨h1, ⟨_, h2⟩, _, h3⟩ := h
    refine ⟨hj, _, _, ?_, h2, h3⟩
    rw [← chars_append (valid_closed h1), List.take_append_drop]
  · rintro ⟨_, u, v, e, hu, hv'⟩
    obtain ⟨i, hi, h1, h2, h3⟩ := valid_cut hv u v e
    refine ⟨i, List.mem_range.2 (by omega), ?_⟩
    simp only [Bool.and_eq_true, matchB_iff, h2, h3]
    exact ⟨h1, ⟨ha, hu⟩, hb, hv'⟩
end Go.Proofs.YtebejiilpedlmaaGreatDoor
set_option linter.unusedVariables false
set_option linter.unusedSimpArgs false
set_option maxRecDepth 100000
namespace Go.Proofs.YtebejiilpedlmaaGreatDoor
open Go Nv Pat

def fac1 (a : Int) : Int := (if 100 < (if a < 0 then 0 else a) then 100 else if a < 0 then 0 else a) + 15
def fac2 (b : Int) : Int := if 100 < (if b < 1 then 1 else b) then 100 else if b < 1 then 1 else b
theorem fac1_ok (a : Int) : 15 ≤ fac1 a ∧ fac1 a ≤ 115 := by unfold fac1; split <;> split at * <;> omega
theorem fac2_ok (b : Int) : 1 ≤ fac2 b ∧ fac2 b ≤ 100 := by unfold fac2; split <;> split at * <;> omega
def scale (k a b w : Int) : Int := if k = 5 then (if b < 0 then w * fac1 a else w * fac2 b) else w
def cap6 (z : Int) : Int := if 1000000 < z then 1000000 else z
mutual
def wt : Tree → Int
  | .mk k _ l a b => cap6 (scale k a b (1 + wtL l))
def wtL : List Tree → Int
  | [] => 0
  | x :: l => wt x + wtL l
end
theorem scale_pos {k a b w : Int} (h : 1 ≤ w) : 1 ≤ scale k a b w := by
  have h1 := fac1_ok a
  have h2 := fac2_ok b
  unfold scale
  split
  · split
    · calc (1 : Int) = 1 * 1 := rfl
        _ ≤ w * fac1 a := Int.mul_le_mul h (by omega) (by omega) (by omega)
    · calc (1 : Int) = 1 * 1 := rfl
        _ ≤ w * fac2 b := Int.mul_le_mul h (by omega) (by omega) (by omega)
  · exact h
mutual
theorem wt_bound : ∀ n : Tree, 1 ≤ wt n ∧ wt n ≤ 1000000
  | .mk k s l a b => by
    rw [wt]
    have h := wtL_bound l
    have := scale_pos (k := k) (a := a) (b := b) (w := 1 + wtL l) (by omega)
    unfold cap6; split <;> omega
theorem wtL_bound : ∀ l : List Tree, 0 ≤ wtL l ∧ wtL l ≤ 1000000 * l.length
  | [] => by simp [wtL]
  | x :: l => by
    have h1 := wt_bound x
    have h2 := wtL_bound l
    rw [wtL, List.length_cons]; omega
end
theorem wtL_append : ∀ l m : List Tree, wtL (l ++ m) = wtL l + wtL m
  | [], m => by simp [wtL]
  | x :: l, m => by rw [List.cons_append, wtL, wtL, wtL_append l m]; omega

theorem weight30 : ∀ (n : Tree), n.nodes ≤ 1000000 → PCall Tryz.prog 30 [nodeA n] (.d (.int .i64 (wt n))) := by
  intro n
  induction n using Tree.ind with
  | h k s sub a b ih =>
    intro hnd
    have hn : (Tree.mk k s sub a b).nodes = 1 + Tree.nodesL sub := nodes_eq _
    have hsub : sub.length ≤ 1000000 := by have h1 := length_nodesL sub; omega
    refine fn30.pure noHint (Nat.le_refl _) (by simp only [go_sem, nodeA, nodeF, setD]) (by simp only [go_sem]) ?_
    simp (disch := omega) only [go_sem, reduceIte, reduceCtorEq, Nat.reduceBEq, Nat.reduceEqDiff, Nat.reduceAdd, Nat.reduceLT, Nat.reduceLeDiff, Int.reduceNeg, Int.reduceAdd, Int.reduceLT, Int.reduceLE, Int.reduceEq, Int.reduceNe, nodeA, nodeF, Tree.kind, Tree.set, Tree.sub, Tree.min, Tree.max]
    refine wL_ind (fun (j : Nat) fr σ => j ≤ sub.length ∧ fr 1 = .ptr 0 0 ∧ fr 3 = .d (.int .i64 (1 + wtL (sub.take j))) ∧ fr 4 = .d (.int .i64 j) ∧ σ = [.box 25 (boxF k s sub a b)]) (fun j => sub.length - j) ?_ 0 ?_
    · rintro j fr σ ⟨hj, f1, f3, f4, rfl⟩ ih2
      have hb := wtL_bound (sub.take j)
      rw [List.length_take] at hb
      by_cases hlt : j < sub.length
      · obtain ⟨x, hx⟩ : ∃ x, x = sub.getD j default := ⟨_, rfl⟩
        have hxm : x ∈ sub := by rw [hx]; exact getD_mem sub j hlt
        have hxn := nodes_mem sub x hxm
        have hwx := wt_bound x
        simp (disch := omega) only [go_sem, reduceIte, reduceCtorEq, Nat.reduceBEq, Nat.reduceEqDiff, Nat.reduceAdd, Nat.reduceLT, Nat.reduceLeDiff, Int.reduceNeg, Int.reduceAdd, Int.reduceLT, Int.reduceLE, Int.reduceEq, Int.reduceNe, f1, f3, f4, hlt, boxF, nodeD_eq, nodeC, ← hx]
        refine (ih x hxm (by omega)).at ?_
        have e : 1 + wtL (sub.take (j + 1)) = 1 + wtL (sub.take j) + wt x := by
          rw [take_succ' sub j hlt, wtL_append, ← hx]; simp only [wtL]; omega
        have hw : IntKind.i64.wrap (1 + wtL (sub.take j) + wt x) = 1 + wtL (sub.take j) + wt x := wrap_id (by omega) (by omega)
        simp (disch := omega) only [go_sem, reduceIte, reduceCtorEq, Nat.reduceBEq, Nat.reduceEqDiff, Nat.reduceAdd, Nat.reduceLT, Nat.reduceLeDiff, Int.reduceNeg, Int.reduceAdd, Int.reduceLT, Int.reduceLE, Int.reduceEq, Int.reduceNe, f4, hw]
        refine ih2 (j + 1) _ _ (by omega) ⟨by omega, ?_, ?_, ?_, ?_⟩
        · simp (disch := omega) only [go_sem, reduceIte, reduceCtorEq, Nat.reduceBEq, Nat.reduceEqDiff, Nat.reduceAdd, Nat.reduceLT, Nat.reduceLeDiff, Int.reduceNeg, Int.reduceAdd, Int.reduceLT, Int.reduceLE, Int.reduceEq, Int.reduceNe, f1]
        · rw [e]; simp (disch := omega) only [go_sem, reduceIte, reduceCtorEq, Nat.reduceBEq, Nat.reduceEqDiff, Nat.reduceAdd, Nat.reduceLT, Nat.reduceLeDiff, Int.reduceNeg, Int.reduceAdd, Int.reduceLT, Int.reduceLE, Int.reduceEq, Int.reduceNe]
        · simp (disch := omega) only [go_sem, reduceIte, reduceCtorEq, Nat.reduceBEq, Nat.reduceEqDiff, Nat.reduceAdd, Nat.reduceLT, Nat.reduceLeDiff, Int.reduceNeg, Int.reduceAdd, Int.reduceLT, Int.reduceLE, Int.reduceEq, Int.reduceNe]
        · simp (disch := omega) only [go_sem, reduceIte, reduceCtorEq, Nat.reduceBEq, Nat.reduceEqDiff, Nat.reduceAdd, Nat.reduceLT, Nat.reduceLeDiff, Int.reduceNeg, Int.reduceAdd, Int.reduceLT, Int.reduceLE, Int.reduceEq, Int.reduceNe, boxF, nodeD_eq, nodeC]
      · have ek : sub.take j = sub := List.take_of_length_le (by omega)
        rw [ek] at f3 hb
        obtain ⟨w, hw⟩ : ∃ w, w = 1 + wtL sub := ⟨_, rfl⟩
        rw [← hw] at f3
        have hwb : 1 ≤ w ∧ w ≤ 1000000000001 := by omega
        have hf1 := fac1_ok a
        have hf2 := fac2_ok b
        by_cases k5 : k = 5
        · by_cases hb0 : b < 0
          · have e : wt (.mk k s sub a b) = cap6 (w * fac1 a) := by rw [wt, ← hw, scale, if_pos k5, if_pos hb0]
            have h1 : 0 ≤ w * fac1 a := Int.mul_nonneg (by omega) (by omega)
            have h2 : w * fac1 a ≤ 1000000000001 * 115 := Int.mul_le_mul hwb.2 (by omega) (by omega) (by omega)
            have hwr : IntKind.i64.wrap (w * fac1 a) = w * fac1 a := wrap_id (by omega) (by omega)
            rw [← hwr] at e
            rw [e]
            clear e hwr h1 h2
            simp (disch := omega) only [go_sem, reduceIte, reduceCtorEq, Nat.reduceBEq, Nat.reduceEqDiff, Nat.reduceAdd, Nat.reduceLT, Nat.reduceLeDiff, Int.reduceNeg, Int.reduceAdd, Int.reduceLT, Int.reduceLE, Int.reduceEq, Int.reduceNe, f1, f3, f4, hlt, boxF, k5, hb0, cap6, fac1]
          · have e : wt (.mk k s sub a b) = cap6 (w * fac2 b) := by rw [wt, ← hw, scale, if_pos k5, if_neg hb0]
            have h1 : 0 ≤ w * fac2 b := Int.mul_nonneg (by omega) (by omega)
            have h2 : w * fac2 b ≤ 1000000000001 * 100 := Int.mul_le_mul hwb.2 (by omega) (by omega) (by omega)
            have hwr : IntKind.i64.wrap (w * fac2 b) = w * fac2 b := wrap_id (by omega) (by omega)
            rw [← hwr] at e
            rw [e]
            clear e hwr h1 h2
            simp (disch := omega) only [go_sem, reduceIte, reduceCtorEq, Nat.reduceBEq, Nat.reduceEqDiff, Nat.reduceAdd, Nat.reduceLT, Nat.reduceLeDiff, Int.reduceNeg, Int.reduceAdd, Int.reduceLT, Int.reduceLE, Int.reduceEq, Int.reduceNe, f1, f3, f4, hlt, boxF, k5, hb0, cap6, fac2]
        · have e : wt (.mk k s sub a b) = cap6 w := by rw [wt, ← hw, scale, if_neg k5]
          simp (disch := omega) only [go_sem, reduceIte, reduceCtorEq, Nat.reduceBEq, Nat.reduceEqDiff, Nat.reduceAdd, Nat.reduceLT, Nat.reduceLeDiff, Int.reduceNeg, Int.reduceAdd, Int.reduceLT, Int.reduceLE, Int.reduceEq, Int.reduceNe, f1, f3, f4, hlt, boxF, k5, e, cap6]
    · refine ⟨by omega, ?_, ?_, ?_, rfl⟩
      · simp (disch := omega) only [go_sem, reduceIte, reduceCtorEq, Nat.reduceBEq, Nat.reduceEqDiff, Nat.reduceAdd, Nat.reduceLT, Nat.reduceLeDiff, Int.reduceNeg, Int.reduceAdd, Int.reduceLT, Int.reduceLE, Int.reduceEq, Int.reduceNe]
      · simp (disch := omega) only [go_sem, reduceIte, reduceCtorEq, Nat.reduceBEq, Nat.reduceEqDiff, Nat.reduceAdd, Nat.reduceLT, Nat.reduceLeDiff, Int.reduceNeg, Int.reduceAdd, Int.reduceLT, Int.reduceLE, Int.reduceEq, Int.reduceNe, wtL]; try rfl
      · simp (disch := omega) only [go_sem, reduceIte, reduceCtorEq, Nat.reduceBEq, Nat.reduceEqDiff, Nat.reduceAdd, Nat.reduceLT, Nat.reduceLeDiff, Int.reduceNeg, Int.reduceAdd, Int.reduceLT, Int.reduceLE, Int.reduceEq, Int.reduceNe]

def heavyB (n : Tree) (s : List UInt8) : Bool := (decide (200 < n.nodes) || wideB n) || decide (3000 < wt n) || decide ((40 : Int) < s.length)
theorem heavy16 (n : Tree) (s : List UInt8) : PCall Tryz.prog 16 [nodeA n, .d (.str s)] (.d (.bool (heavyB n s))) := by
  refine fn16.pure noHint (Nat.le_refl _) (by simp only [go_sem, nodeA, nodeF, setD]) (by simp only [go_sem]) ?_
  simp (disch := omega) only [go_sem, reduceIte, reduceCtorEq, Nat.reduceBEq, Nat.reduceEqDiff, Nat.reduceAdd, Nat.reduceLT, Nat.reduceLeDiff, Int.reduceNeg, Int.reduceAdd, Int.reduceLT, Int.reduceLE, Int.reduceEq, Int.reduceNe, nodeA, nodeF]
  refine (great10 n).at ?_
  cases hg : (decide (200 < n.nodes) || wideB n)
  · simp (disch := omega) only [go_sem, reduceIte, reduceCtorEq, Nat.reduceBEq, Nat.reduceEqDiff, Nat.reduceAdd, Nat.reduceLT, Nat.reduceLeDiff, Int.reduceNeg, Int.reduceAdd, Int.reduceLT, Int.reduceLE, Int.reduceEq, Int.reduceNe, nodeF]
    have hnn : ¬ 200 < n.nodes := fun h => by rw [decide_eq_true h] at hg; cases hg
    refine (weight30 n (by omega)).at ?_
    by_cases hw : 3000 < wt n
    · have e : heavyB n s = true := by rw [heavyB, hg, decide_eq_true hw]; rfl
      simp (disch := omega) only [go_sem, reduceIte, reduceCtorEq, Nat.reduceBEq, Nat.reduceEqDiff, Nat.reduceAdd, Nat.reduceLT, Nat.reduceLeDiff, Int.reduceNeg, Int.reduceAdd, Int.reduceLT, Int.reduceLE, Int.reduceEq, Int.reduceNe, hw, e]
    · have e : heavyB n s = decide ((40 : Int) < s.length) := by rw [heavyB, hg, decide_eq_false hw]; rfl
      simp (disch := omega) only [go_sem, reduceIte, reduceCtorEq, Nat.reduceBEq, Nat.reduceEqDiff, Nat.reduceAdd, Nat.reduceLT, Nat.reduceLeDiff, Int.reduceNeg, Int.reduceAdd, Int.reduceLT, Int.reduceLE, Int.reduceEq, Int.reduceNe, hw, e]
  · have e : heavyB n s = true := by rw [heavyB, hg]; rfl
    simp (disch := omega) only [go_sem, reduceIte, reduceCtorEq, Nat.reduceBEq, Nat.reduceEqDiff, Nat.reduceAdd, Nat.reduceLT, Nat.reduceLeDiff, Int.reduceNeg, Int.reduceAdd, Int.reduceLT, Int.reduceLE, Int.reduceEq, Int.reduceNe, e]
theorem light {n : Tree} {s : List UInt8} (h : heavyB n s = false) : n.nodes ≤ 200 ∧ wideB n = false ∧ s.length ≤ 40 := by
  simp only [heavyB, Bool.or_eq_false_iff, decide_eq_false_iff_not] at h
  exact ⟨by omega, h.1.1.2, by omega⟩
end Go.Proofs.YtebejiilpedlmaaGreatDoor
