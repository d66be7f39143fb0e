/- Part of a proof about the functions of this seat. -/
import Derived.Test.YtebejiilpedlmaaGreatDoorG17Mc31
import Derived.Test.YtebejiilpedlmaaGreatDoorG11G031
import Derived.Lib.ValidLaws
set_option linter.unusedVariables false
set_option linter.unusedSimpArgs false
set_option maxRecDepth 100000
namespace Go.Proofs.YtebejiilpedlmaaGreatDoor
open Go Nv Pat

/- More copies than characters: one copy is empty. -/
theorem pow_short (L : List Int → Prop) : ∀ (n : Nat) (w : List Int), w.length < n + 1 → Pow L (n + 1) w → Pow L n w
  | n, w, h, ⟨u, v, e, hu, hv⟩ => by
    cases u with
    | nil => rw [e]; simpa using hv
    | cons c u =>
      subst e
      match n, hv with
      | 0, _ => simp at h
      | m + 1, hv => exact ⟨c :: u, v, rfl, hu, pow_short L m v (by simp at h; omega) hv⟩
theorem pow_max (L : List Int → Prop) (m : Nat) (w : List Int) (hm : w.length ≤ m) : ∀ k, Pow L (m + k) w → Pow L m w
  | 0, h => h
  | k + 1, h => pow_max L m w hm k (pow_short L (m + k) w (by omega) h)
/-- Without a bound: as many copies as there are characters are enough. -/
theorem upto_all (L : List Int → Prop) (a m : Nat) (w : List Int) (ha : a ≤ m) (hm : w.length ≤ m) : (∃ n, a ≤ n ∧ Pow L n w) ↔ Upto L a m w := by
  constructor
  · rintro ⟨n, hn, h⟩
    by_cases hle : n ≤ m
    · exact ⟨n, hn, hle, h⟩
    · exact ⟨m, ha, Nat.le_refl _, pow_max L m w hm (n - m) (by rw [show m + (n - m) = n by omega]; exact h)⟩
  · rintro ⟨n, hn, _, h⟩; exact ⟨n, hn, h⟩
theorem memB_iff (s : List (Int × Int)) (c : Int) : memB s c = true ↔ InSet s c := by
  simp only [memB, InSet, List.any_eq_true, Bool.and_eq_true, decide_eq_true_eq]

def hints37 : Nat → Hint := fun i => if i = 6 then .freeze else if i = 82 then .freeze else if i = 109 then .freeze else .no
@[go_sem] theorem hints37_at (i : Nat) : hints37 i = if i = 6 then .freeze else if i = 82 then .freeze else if i = 109 then .freeze else .no := nrfl rfl
theorem ends37 : ∀ n : Tree, chk n = 0 → n.nodes ≤ 1000000 → Thin n → ∀ (t : List Int) (p : Nat → Prop), t.length ≤ 100000 →
    PCall Tryz.prog 37 [nodeA n, runesA t, boolsA (places t p)] (boolsA (places t (Post t (Lang n) p))) := by
  intro n
  induction n using Tree.ind with
  | h k s sub a b ih =>
    intro hchk hn hthin t p ht
    refine fn37.pure hints37 (Nat.le_refl _) (by simp only [go_sem, nodeA, nodeF, setD, runesA, boolsA]) (by simp only [go_sem, boolsA]) ?_
    have hpl := places_length t p
    refine wW_cut (fun fr σ => fr 1 = runesA t ∧ fr 2 = boolsA (places t p) ∧ fr 3 = .ptr 0 0 ∧ σ = [.box 25 (boxF k s sub a b)]) ?_ ?_
    · simp (disch := omega) only [go_sem, reduceIte, reduceDIte, reduceCtorEq, Nat.reduceBEq, Nat.reduceEqDiff, Nat.reduceAdd, Nat.reduceSub, Nat.reduceMul, Nat.reduceLT, Nat.reduceLeDiff, Nat.reduceBNe, Int.reduceNeg, Int.reduceAdd, Int.reduceSub, Int.reduceMul, Int.reduceLT, Int.reduceLE, Int.reduceGT, Int.reduceGE, Int.reduceEq, Int.reduceNe, Int.reduceToNat, Int.reduceTMod, Int.reduceTDiv, nodeA, nodeF, Tree.kind, Tree.set, Tree.sub, Tree.min, Tree.max, boxF]
    rintro fr σ ⟨f1, f2, f3, rfl⟩
    refine wW_cut (fun fr σ => fr 1 = runesA t ∧ fr 2 = boolsA (places t p) ∧ fr 3 = .ptr 0 0 ∧ fr 7 = .own 1 0 0 (t.length + 1) ∧ σ = [.box 25 (boxF k s sub a b), .arr 0 ⟨1, 4⟩ (boolsD (List.replicate (t.length + 1) false))]) ?_ ?_
    · have hb : (t.length + 1) ≤ 140737488355328 := by omega
      simp (disch := omega) only [go_sem, reduceIte, reduceDIte, reduceCtorEq, Nat.reduceBEq, Nat.reduceEqDiff, Nat.reduceAdd, Nat.reduceSub, Nat.reduceMul, Nat.reduceLT, Nat.reduceLeDiff, Nat.reduceBNe, Int.reduceNeg, Int.reduceAdd, Int.reduceSub, Int.reduceMul, Int.reduceLT, Int.reduceLE, Int.reduceGT, Int.reduceGE, Int.reduceEq, Int.reduceNe, Int.reduceToNat, Int.reduceTMod, Int.reduceTDiv, f1, f2, f3, boolsA, hpl, hb]
      exact ⟨⟨Nat.le_refl _, by omega⟩, by simp, by simp [boolsD]⟩
    rintro fr σ ⟨f1, f2, f3, f7, rfl⟩
    obtain ⟨hkB, hbad, hL⟩ := chk_ok hchk
    obtain ⟨out, hout⟩ : ∃ out, out = places t (Pat.Post t (Lang (.mk k s sub a b)) p) := ⟨_, rfl⟩
    have hol : out.length = t.length + 1 := by rw [hout, places_length]
    rw [← hout]
    have hta : ∀ q : List Bool, q.length = t.length + 1 → List.take (t.length + 1) (boolsD q) = boolsD q := fun q hq => List.take_of_length_le (by rw [boolsD_length, hq]; exact Nat.le_refl _)
    have hb2 : t.length + 1 ≤ 140737488355328 := by omega
    refine wW_cut (fun fr σ => k = 5 ∧ fr 1 = runesA t ∧ fr 2 = boolsA (places t p) ∧ fr 3 = .ptr 0 0 ∧ ∃ blk, σ = [.box 25 (boxF k s sub a b), blk]) ?_ ?_
    · by_cases k1 : k = 1
      · have e : out = places t p := hout.trans (places_congr fun j hj => (post_congr (fun w => by simp [Lang, k1, Eps]) p j).trans (post_eps t p hj))
        have h1 := hta _ hpl
        clear hout
        subst k1
        simp (disch := omega) only [go_sem, reduceIte, reduceDIte, reduceCtorEq, Nat.reduceBEq, Nat.reduceEqDiff, Nat.reduceAdd, Nat.reduceSub, Nat.reduceMul, Nat.reduceLT, Nat.reduceLeDiff, Nat.reduceBNe, Int.reduceNeg, Int.reduceAdd, Int.reduceSub, Int.reduceMul, Int.reduceLT, Int.reduceLE, Int.reduceGT, Int.reduceGE, Int.reduceEq, Int.reduceNe, Int.reduceToNat, Int.reduceTMod, Int.reduceTDiv, f1, f2, f3, f7, boxF, boolsA, hpl, h1, e, Nat.zero_add]
        exact ⟨by omega, Nat.le_refl _⟩
      by_cases k2 : k = 2
      · have eo : ∀ i, i < t.length → (out.getD (i + 1) false = ((places t p).getD i false && memB s (t.getD i 0))) := by
          intro i hi
          rw [Bool.eq_iff_iff, Bool.and_eq_true, hout, places_get (by omega), places_get (by omega), memB_iff]
          rw [post_congr (M := fun w => ∃ c, w = [c] ∧ InSet s c) (fun w => by simp [Lang, k2]), post_set]
          constructor
          · rintro ⟨i', h1, _, h2, h3⟩
            obtain rfl : i = i' := by omega
            exact ⟨h2, h3⟩
          · rintro ⟨h2, h3⟩; exact ⟨i, rfl, hi, h2, h3⟩
        have eo0 : out.getD 0 false = false := by
          rw [← Bool.not_eq_true, hout, places_get (by omega), post_congr (M := fun w => ∃ c, w = [c] ∧ InSet s c) (fun w => by simp [Lang, k2]), post_set]
          rintro ⟨i', h1, _⟩; omega
        clear ih hout
        subst k2
        have hs : s.length ≤ 1000000 := hthin.1
        rw [runesA] at f1
        simp (disch := omega) only [go_sem, reduceIte, reduceDIte, reduceCtorEq, Nat.reduceBEq, Nat.reduceEqDiff, Nat.reduceAdd, Nat.reduceSub, Nat.reduceMul, Nat.reduceLT, Nat.reduceLeDiff, Nat.reduceBNe, Int.reduceNeg, Int.reduceAdd, Int.reduceSub, Int.reduceMul, Int.reduceLT, Int.reduceLE, Int.reduceGT, Int.reduceGE, Int.reduceEq, Int.reduceNe, Int.reduceToNat, Int.reduceTMod, Int.reduceTDiv, f1, f2, f3, f7, boxF]
        refine wL_ind (fun (i : Nat) fr σ => i ≤ t.length ∧ fr 1 = .d (.list 1 (t.map (DV.int .i32))) ∧ fr 2 = boolsA (places t p) ∧ fr 3 = .ptr 0 0 ∧ fr 7 = .own 1 0 0 (t.length + 1) ∧ fr 8 = .d (.int .i64 i) ∧
          σ = [.box 25 (boxF 2 s sub a b), .arr 0 ⟨1, 4⟩ (boolsD (out.take (i + 1) ++ List.replicate (t.length - i) false))]) (fun i => t.length - i) ?_ 0 ?_
        · rintro i fr σ ⟨hi, f1, f2, f3, f7, f8, rfl⟩ ih
          by_cases hlt : i < t.length
          · have e1 := boolsD_get (places t p) i (by omega)
            have hlt2 : i < t.length + 1 := by omega
            have hlt3 : i + 1 < t.length + 1 := by omega
            have el : (out.take (i + 1) ++ List.replicate (t.length - i) false).length = t.length + 1 := by simp; omega
            have e2 := boolsD_get (out.take (i + 1) ++ List.replicate (t.length - i) false) (i + 1) (by rw [el]; omega)
            have ev := eo i hlt
            have gd : (t.map (DV.int .i32)).getD i default = .int .i32 (t.getD i 0) := by simp [List.getD_eq_getElem?_getD, hlt]
            cases hp : (places t p).getD i false
            · rw [hp, Bool.false_and] at ev
              rw [hp] at e1
              have es := set_step out i t.length hlt hol false ev
              simp (disch := omega) only [go_sem, reduceIte, reduceDIte, reduceCtorEq, Nat.reduceBEq, Nat.reduceEqDiff, Nat.reduceAdd, Nat.reduceSub, Nat.reduceMul, Nat.reduceLT, Nat.reduceLeDiff, Nat.reduceBNe, Int.reduceNeg, Int.reduceAdd, Int.reduceSub, Int.reduceMul, Int.reduceLT, Int.reduceLE, Int.reduceGT, Int.reduceGE, Int.reduceEq, Int.reduceNe, Int.reduceToNat, Int.reduceTMod, Int.reduceTDiv, f1, f2, f3, f7, f8, boxF, List.length_map, hlt, boolsA, hpl, e1, hlt2, hlt3, gd, el, Nat.zero_add, e2, boolsD_set, es]
              refine ih (i + 1) _ _ (by omega) ⟨by omega, ?_, ?_, ?_, ?_, ?_, rfl⟩ <;> simp (disch := omega) only [go_sem, reduceIte, reduceDIte, reduceCtorEq, Nat.reduceBEq, Nat.reduceEqDiff, Nat.reduceAdd, Nat.reduceSub, Nat.reduceMul, Nat.reduceLT, Nat.reduceLeDiff, Nat.reduceBNe, Int.reduceNeg, Int.reduceAdd, Int.reduceSub, Int.reduceMul, Int.reduceLT, Int.reduceLE, Int.reduceGT, Int.reduceGE, Int.reduceEq, Int.reduceNe, Int.reduceToNat, Int.reduceTMod, Int.reduceTDiv, f1, f2, f3, f7, f8, boolsA]
            · rw [hp, Bool.true_and] at ev
              rw [hp] at e1
              have es := set_step out i t.length hlt hol _ ev
              simp (disch := omega) only [go_sem, reduceIte, reduceDIte, reduceCtorEq, Nat.reduceBEq, Nat.reduceEqDiff, Nat.reduceAdd, Nat.reduceSub, Nat.reduceMul, Nat.reduceLT, Nat.reduceLeDiff, Nat.reduceBNe, Int.reduceNeg, Int.reduceAdd, Int.reduceSub, Int.reduceMul, Int.reduceLT, Int.reduceLE, Int.reduceGT, Int.reduceGE, Int.reduceEq, Int.reduceNe, Int.reduceToNat, Int.reduceTMod, Int.reduceTDiv, f1, f2, f3, f7, f8, boxF, List.length_map, hlt, boolsA, hpl, e1, hlt2, hlt3, gd, el, Nat.zero_add, e2, boolsD_set, es]
              refine (in55 s hs (t.getD i 0)).dat ?_
              simp (disch := omega) only [go_sem, reduceIte, reduceDIte, reduceCtorEq, Nat.reduceBEq, Nat.reduceEqDiff, Nat.reduceAdd, Nat.reduceSub, Nat.reduceMul, Nat.reduceLT, Nat.reduceLeDiff, Nat.reduceBNe, Int.reduceNeg, Int.reduceAdd, Int.reduceSub, Int.reduceMul, Int.reduceLT, Int.reduceLE, Int.reduceGT, Int.reduceGE, Int.reduceEq, Int.reduceNe, Int.reduceToNat, Int.reduceTMod, Int.reduceTDiv, f1, f2, f3, f7, f8, boxF, List.length_map, hlt, boolsA, hpl, e1, hlt2, hlt3, gd, el, Nat.zero_add, e2, boolsD_set, es]
              refine ih (i + 1) _ _ (by omega) ⟨by omega, ?_, ?_, ?_, ?_, ?_, rfl⟩ <;> simp (disch := omega) only [go_sem, reduceIte, reduceDIte, reduceCtorEq, Nat.reduceBEq, Nat.reduceEqDiff, Nat.reduceAdd, Nat.reduceSub, Nat.reduceMul, Nat.reduceLT, Nat.reduceLeDiff, Nat.reduceBNe, Int.reduceNeg, Int.reduceAdd, Int.reduceSub, Int.reduceMul, Int.reduceLT, Int.reduceLE, Int.reduceGT, Int.reduceGE, Int.reduceEq, Int.reduceNe, Int.reduceToNat, Int.reduceTMod, Int.reduceTDiv, f1, f2, f3, f7, f8, boolsA]
          · have ek : out.take (i + 1) = out := List.take_of_length_le (by omega)
            have ek2 : List.replicate (t.length - i) false = [] := by rw [show t.length - i = 0 by omega]; rfl
            have h1 := hta _ hol
            simp (disch := omega) only [go_sem, reduceIte, reduceDIte, reduceCtorEq, Nat.reduceBEq, Nat.reduceEqDiff, Nat.reduceAdd, Nat.reduceSub, Nat.reduceMul, Nat.reduceLT, Nat.reduceLeDiff, Nat.reduceBNe, Int.reduceNeg, Int.reduceAdd, Int.reduceSub, Int.reduceMul, Int.reduceLT, Int.reduceLE, Int.reduceGT, Int.reduceGE, Int.reduceEq, Int.reduceNe, Int.reduceToNat, Int.reduceTMod, Int.reduceTDiv, f1, f3, f7, f8, hlt, List.length_map, ek, ek2, List.append_nil, boolsA, boolsD_length, hol, h1, Nat.zero_add]
            exact Nat.le_refl _
        · refine ⟨by omega, ?_, ?_, ?_, ?_, ?_, ?_⟩
          · simp (disch := omega) only [go_sem, reduceIte, reduceDIte, reduceCtorEq, Nat.reduceBEq, Nat.reduceEqDiff, Nat.reduceAdd, Nat.reduceSub, Nat.reduceMul, Nat.reduceLT, Nat.reduceLeDiff, Nat.reduceBNe, Int.reduceNeg, Int.reduceAdd, Int.reduceSub, Int.reduceMul, Int.reduceLT, Int.reduceLE, Int.reduceGT, Int.reduceGE, Int.reduceEq, Int.reduceNe, Int.reduceToNat, Int.reduceTMod, Int.reduceTDiv, f1]
          · simp (disch := omega) only [go_sem, reduceIte, reduceDIte, reduceCtorEq, Nat.reduceBEq, Nat.reduceEqDiff, Nat.reduceAdd, Nat.reduceSub, Nat.reduceMul, Nat.reduceLT, Nat.reduceLeDiff, Nat.reduceBNe, Int.reduceNeg, Int.reduceAdd, Int.reduceSub, Int.reduceMul, Int.reduceLT, Int.reduceLE, Int.reduceGT, Int.reduceGE, Int.reduceEq, Int.reduceNe, Int.reduceToNat, Int.reduceTMod, Int.reduceTDiv, f2]
          · simp (disch := omega) only [go_sem, reduceIte, reduceDIte, reduceCtorEq, Nat.reduceBEq, Nat.reduceEqDiff, Nat.reduceAdd, Nat.reduceSub, Nat.reduceMul, Nat.reduceLT, Nat.reduceLeDiff, Nat.reduceBNe, Int.reduceNeg, Int.reduceAdd, Int.reduceSub, Int.reduceMul, Int.reduceLT, Int.reduceLE, Int.reduceGT, Int.reduceGE, Int.reduceEq, Int.reduceNe, Int.reduceToNat, Int.reduceTMod, Int.reduceTDiv, f3]
          · simp (disch := omega) only [go_sem, reduceIte, reduceDIte, reduceCtorEq, Nat.reduceBEq, Nat.reduceEqDiff, Nat.reduceAdd, Nat.reduceSub, Nat.reduceMul, Nat.reduceLT, Nat.reduceLeDiff, Nat.reduceBNe, Int.reduceNeg, Int.reduceAdd, Int.reduceSub, Int.reduceMul, Int.reduceLT, Int.reduceLE, Int.reduceGT, Int.reduceGE, Int.reduceEq, Int.reduceNe, Int.reduceToNat, Int.reduceTMod, Int.reduceTDiv, f7]
          · simp (disch := omega) only [go_sem, reduceIte, reduceDIte, reduceCtorEq, Nat.reduceBEq, Nat.reduceEqDiff, Nat.reduceAdd, Nat.reduceSub, Nat.reduceMul, Nat.reduceLT, Nat.reduceLeDiff, Nat.reduceBNe, Int.reduceNeg, Int.reduceAdd, Int.reduceSub, Int.reduceMul, Int.reduceLT, Int.reduceLE, Int.reduceGT, Int.reduceGE, Int.reduceEq, Int.reduceNe, Int.reduceToNat, Int.reduceTMod, Int.reduceTDiv]
          · rw [take_snoc out 0 (by omega), eo0]; rfl
      have hsub : sub.length ≤ 1000000 := by
        have h1 := length_nodesL sub
        have h2 : (Tree.mk k s sub a b).nodes = 1 + Tree.nodesL sub := nodes_eq _
        omega
      have hih : ∀ x, x ∈ sub → ∀ q, PCall Tryz.prog 37 [nodeA x, runesA t, boolsA (places t q)] (boolsA (places t (Pat.Post t (Lang x) q))) := fun x hx q => by
        have h1 := nodes_mem sub x hx
        have h2 : (Tree.mk k s sub a b).nodes = 1 + Tree.nodesL sub := nodes_eq _
        exact ih x hx (chkL_mem hL x hx) (by omega) (thinL_mem hthin.2 hx) t q ht
      clear ih
      by_cases k3 : k = 3
      · have eo : out = places t (Pat.Post t (LangJ sub) p) := hout.trans (places_congr fun j hj => post_congr (fun w => by simp [Lang, k3]) p j)
        clear hout
        subst k3
        simp (disch := omega) only [go_sem, reduceIte, reduceDIte, reduceCtorEq, Nat.reduceBEq, Nat.reduceEqDiff, Nat.reduceAdd, Nat.reduceSub, Nat.reduceMul, Nat.reduceLT, Nat.reduceLeDiff, Nat.reduceBNe, Int.reduceNeg, Int.reduceAdd, Int.reduceSub, Int.reduceMul, Int.reduceLT, Int.reduceLE, Int.reduceGT, Int.reduceGE, Int.reduceEq, Int.reduceNe, Int.reduceToNat, Int.reduceTMod, Int.reduceTDiv, f1, f2, f3, f7, boxF]
        refine wL_ind (fun (j : Nat) fr σ => j ≤ sub.length ∧ fr 1 = runesA t ∧ fr 3 = .ptr 0 0 ∧ fr 9 = boolsA (places t (Pat.Post t (LangJ (sub.take j)) p)) ∧ fr 10 = .d (.int .i64 j) ∧ ∃ blk, σ = [.box 25 (boxF 3 s sub a b), blk]) (fun j => sub.length - j) ?_ 0 ?_
        · rintro j fr σ ⟨hj, f1, f3, f9, f10, blk, rfl⟩ ih
          by_cases hlt : j < sub.length
          · obtain ⟨x, hx⟩ : ∃ x, x = sub.getD j default := ⟨_, rfl⟩
            have hxm : x ∈ sub := by rw [hx]; exact getD_mem sub j hlt
            have hc := hih x hxm (Pat.Post t (LangJ (sub.take j)) p)
            rw [places_join, show sub.take j ++ [x] = sub.take (j + 1) by rw [take_succ' sub j hlt, ← hx]] at hc
            simp (disch := omega) only [go_sem, reduceIte, reduceDIte, reduceCtorEq, Nat.reduceBEq, Nat.reduceEqDiff, Nat.reduceAdd, Nat.reduceSub, Nat.reduceMul, Nat.reduceLT, Nat.reduceLeDiff, Nat.reduceBNe, Int.reduceNeg, Int.reduceAdd, Int.reduceSub, Int.reduceMul, Int.reduceLT, Int.reduceLE, Int.reduceGT, Int.reduceGE, Int.reduceEq, Int.reduceNe, Int.reduceToNat, Int.reduceTMod, Int.reduceTDiv, f1, f3, f9, f10, boxF, List.length_map, hlt, nodeD_eq, nodeC, ← hx]
            refine hc.at ?_
            simp (disch := omega) only [go_sem, reduceIte, reduceDIte, reduceCtorEq, Nat.reduceBEq, Nat.reduceEqDiff, Nat.reduceAdd, Nat.reduceSub, Nat.reduceMul, Nat.reduceLT, Nat.reduceLeDiff, Nat.reduceBNe, Int.reduceNeg, Int.reduceAdd, Int.reduceSub, Int.reduceMul, Int.reduceLT, Int.reduceLE, Int.reduceGT, Int.reduceGE, Int.reduceEq, Int.reduceNe, Int.reduceToNat, Int.reduceTMod, Int.reduceTDiv, f10]
            refine ih (j + 1) _ _ (by omega) ⟨by omega, ?_, ?_, ?_, ?_, _, rfl⟩ <;> simp (disch := omega) only [go_sem, reduceIte, reduceDIte, reduceCtorEq, Nat.reduceBEq, Nat.reduceEqDiff, Nat.reduceAdd, Nat.reduceSub, Nat.reduceMul, Nat.reduceLT, Nat.reduceLeDiff, Nat.reduceBNe, Int.reduceNeg, Int.reduceAdd, Int.reduceSub, Int.reduceMul, Int.reduceLT, Int.reduceLE, Int.reduceGT, Int.reduceGE, Int.reduceEq, Int.reduceNe, Int.reduceToNat, Int.reduceTMod, Int.reduceTDiv, f1, f3]
          · rw [List.take_of_length_le (by omega), ← eo] at f9
            have h1 := hta _ hol
            simp (disch := omega) only [go_sem, reduceIte, reduceDIte, reduceCtorEq, Nat.reduceBEq, Nat.reduceEqDiff, Nat.reduceAdd, Nat.reduceSub, Nat.reduceMul, Nat.reduceLT, Nat.reduceLeDiff, Nat.reduceBNe, Int.reduceNeg, Int.reduceAdd, Int.reduceSub, Int.reduceMul, Int.reduceLT, Int.reduceLE, Int.reduceGT, Int.reduceGE, Int.reduceEq, Int.reduceNe, Int.reduceToNat, Int.reduceTMod, Int.reduceTDiv, f1, f3, f9, f10, boxF, List.length_map, hlt, boolsA, hol, h1, Nat.zero_add]
            exact ⟨by omega, Nat.le_refl _⟩
        · have e0 : places t (Pat.Post t (LangJ (sub.take 0)) p) = places t p := places_congr fun j hj => (post_congr (fun w => langJ_nil w) p j).trans (post_eps t p hj)
          refine ⟨by omega, ?_, ?_, ?_, ?_, _, rfl⟩
          · simp (disch := omega) only [go_sem, reduceIte, reduceDIte, reduceCtorEq, Nat.reduceBEq, Nat.reduceEqDiff, Nat.reduceAdd, Nat.reduceSub, Nat.reduceMul, Nat.reduceLT, Nat.reduceLeDiff, Nat.reduceBNe, Int.reduceNeg, Int.reduceAdd, Int.reduceSub, Int.reduceMul, Int.reduceLT, Int.reduceLE, Int.reduceGT, Int.reduceGE, Int.reduceEq, Int.reduceNe, Int.reduceToNat, Int.reduceTMod, Int.reduceTDiv, f1]
          · simp (disch := omega) only [go_sem, reduceIte, reduceDIte, reduceCtorEq, Nat.reduceBEq, Nat.reduceEqDiff, Nat.reduceAdd, Nat.reduceSub, Nat.reduceMul, Nat.reduceLT, Nat.reduceLeDiff, Nat.reduceBNe, Int.reduceNeg, Int.reduceAdd, Int.reduceSub, Int.reduceMul, Int.reduceLT, Int.reduceLE, Int.reduceGT, Int.reduceGE, Int.reduceEq, Int.reduceNe, Int.reduceToNat, Int.reduceTMod, Int.reduceTDiv, f3]
          · rw [e0]; simp (disch := omega) only [go_sem, reduceIte, reduceDIte, reduceCtorEq, Nat.reduceBEq, Nat.reduceEqDiff, Nat.reduceAdd, Nat.reduceSub, Nat.reduceMul, Nat.reduceLT, Nat.reduceLeDiff, Nat.reduceBNe, Int.reduceNeg, Int.reduceAdd, Int.reduceSub, Int.reduceMul, Int.reduceLT, Int.reduceLE, Int.reduceGT, Int.reduceGE, Int.reduceEq, Int.reduceNe, Int.reduceToNat, Int.reduceTMod, Int.reduceTDiv, f2]
          · simp (disch := omega) only [go_sem, reduceIte, reduceDIte, reduceCtorEq, Nat.reduceBEq, Nat.reduceEqDiff, Nat.reduceAdd, Nat.reduceSub, Nat.reduceMul, Nat.reduceLT, Nat.reduceLeDiff, Nat.reduceBNe, Int.reduceNeg, Int.reduceAdd, Int.reduceSub, Int.reduceMul, Int.reduceLT, Int.reduceLE, Int.reduceGT, Int.reduceGE, Int.reduceEq, Int.reduceNe, Int.reduceToNat, Int.reduceTMod, Int.reduceTDiv]
      by_cases k4 : k = 4
      · have eo : out = places t (Pat.Post t (LangC sub) p) := hout.trans (places_congr fun j hj => post_congr (fun w => by simp [Lang, k4]) p j)
        have e0 : places t (Pat.Post t (LangC (sub.take 0)) p) = List.replicate (t.length + 1) false := places_none t _ fun j => by
          rintro ⟨i, _, _, _, h⟩; simp [LangC] at h
        clear hout
        subst k4
        simp (disch := omega) only [go_sem, reduceIte, reduceDIte, reduceCtorEq, Nat.reduceBEq, Nat.reduceEqDiff, Nat.reduceAdd, Nat.reduceSub, Nat.reduceMul, Nat.reduceLT, Nat.reduceLeDiff, Nat.reduceBNe, Int.reduceNeg, Int.reduceAdd, Int.reduceSub, Int.reduceMul, Int.reduceLT, Int.reduceLE, Int.reduceGT, Int.reduceGE, Int.reduceEq, Int.reduceNe, Int.reduceToNat, Int.reduceTMod, Int.reduceTDiv, f1, f2, f3, f7, boxF]
        refine wL_ind (fun (j : Nat) fr σ => j ≤ sub.length ∧ fr 1 = runesA t ∧ fr 2 = boolsA (places t p) ∧ fr 3 = .ptr 0 0 ∧ fr 11 = .d (.int .i64 j) ∧ ∃ blk, σ = [.box 25 (boxF 4 s sub a b), blk] ∧
          (fr 7 = boolsA (places t (Pat.Post t (LangC (sub.take j)) p)) ∨ ∃ g, fr 7 = .own 1 g 0 (t.length + 1) ∧ blk = .arr g ⟨1, 4⟩ (boolsD (places t (Pat.Post t (LangC (sub.take j)) p))))) (fun j => sub.length - j) ?_ 0 ?_
        · rintro j fr σ ⟨hj, f1, f2, f3, f11, blk, rfl, hF⟩ ih
          obtain ⟨q, hq⟩ : ∃ q, q = Pat.Post t (LangC (sub.take j)) p := ⟨_, rfl⟩
          rw [← hq] at hF
          have hql := places_length t q
          have hqt := hta _ hql
          by_cases hlt : j < sub.length
          · obtain ⟨x, hx⟩ : ∃ x, x = sub.getD j default := ⟨_, rfl⟩
            have hxm : x ∈ sub := by rw [hx]; exact getD_mem sub j hlt
            have enext : orL (places t q) (places t (Pat.Post t (Lang x) p)) = places t (Pat.Post t (LangC (sub.take (j + 1))) p) := by
              rw [orL_places, hq, take_succ' sub j hlt, ← hx]
              refine places_congr fun i hi => ?_
              constructor
              · rintro (⟨i', h1, h2, h3, h4⟩ | ⟨i', h1, h2, h3, h4⟩)
                · exact ⟨i', h1, h2, h3, by rw [langC_iff] at h4 ⊢; obtain ⟨z, hz, hl⟩ := h4; exact ⟨z, List.mem_append_left _ hz, hl⟩⟩
                · exact ⟨i', h1, h2, h3, by rw [langC_iff]; exact ⟨x, by simp, h4⟩⟩
              · rintro ⟨i', h1, h2, h3, h4⟩
                rw [langC_iff] at h4
                obtain ⟨z, hz, hl⟩ := h4
                rcases List.mem_append.1 hz with hz | hz
                · exact .inl ⟨i', h1, h2, h3, by rw [langC_iff]; exact ⟨z, hz, hl⟩⟩
                · rw [List.mem_singleton] at hz; subst hz; exact .inr ⟨i', h1, h2, h3, hl⟩
            have hc := hih x hxm p
            have he := either56 (places t q) (places t (Pat.Post t (Lang x) p)) (by rw [places_length, places_length]) (by rw [places_length]; omega) (by rw [places_length]; omega)
            rw [enext] at he
            rcases hF with f7 | ⟨g, f7, rfl⟩
            · rw [boolsA] at f7
              simp (disch := omega) only [go_sem, reduceIte, reduceDIte, reduceCtorEq, Nat.reduceBEq, Nat.reduceEqDiff, Nat.reduceAdd, Nat.reduceSub, Nat.reduceMul, Nat.reduceLT, Nat.reduceLeDiff, Nat.reduceBNe, Int.reduceNeg, Int.reduceAdd, Int.reduceSub, Int.reduceMul, Int.reduceLT, Int.reduceLE, Int.reduceGT, Int.reduceGE, Int.reduceEq, Int.reduceNe, Int.reduceToNat, Int.reduceTMod, Int.reduceTDiv, f1, f2, f3, f7, f11, boxF, List.length_map, hlt, nodeD_eq, nodeC, ← hx]
              refine hc.at ?_
              simp (disch := omega) only [go_sem, reduceIte, reduceDIte, reduceCtorEq, Nat.reduceBEq, Nat.reduceEqDiff, Nat.reduceAdd, Nat.reduceSub, Nat.reduceMul, Nat.reduceLT, Nat.reduceLeDiff, Nat.reduceBNe, Int.reduceNeg, Int.reduceAdd, Int.reduceSub, Int.reduceMul, Int.reduceLT, Int.reduceLE, Int.reduceGT, Int.reduceGE, Int.reduceEq, Int.reduceNe, Int.reduceToNat, Int.reduceTMod, Int.reduceTDiv, boolsA]
              refine he.at ?_
              simp (disch := omega) only [go_sem, reduceIte, reduceDIte, reduceCtorEq, Nat.reduceBEq, Nat.reduceEqDiff, Nat.reduceAdd, Nat.reduceSub, Nat.reduceMul, Nat.reduceLT, Nat.reduceLeDiff, Nat.reduceBNe, Int.reduceNeg, Int.reduceAdd, Int.reduceSub, Int.reduceMul, Int.reduceLT, Int.reduceLE, Int.reduceGT, Int.reduceGE, Int.reduceEq, Int.reduceNe, Int.reduceToNat, Int.reduceTMod, Int.reduceTDiv, f11]
              refine ih (j + 1) _ _ (by omega) ⟨by omega, ?_, ?_, ?_, ?_, _, rfl, .inl ?_⟩ <;> simp (disch := omega) only [go_sem, reduceIte, reduceDIte, reduceCtorEq, Nat.reduceBEq, Nat.reduceEqDiff, Nat.reduceAdd, Nat.reduceSub, Nat.reduceMul, Nat.reduceLT, Nat.reduceLeDiff, Nat.reduceBNe, Int.reduceNeg, Int.reduceAdd, Int.reduceSub, Int.reduceMul, Int.reduceLT, Int.reduceLE, Int.reduceGT, Int.reduceGE, Int.reduceEq, Int.reduceNe, Int.reduceToNat, Int.reduceTMod, Int.reduceTDiv, f1, f2, f3, boolsA]
            · simp (disch := omega) only [go_sem, reduceIte, reduceDIte, reduceCtorEq, Nat.reduceBEq, Nat.reduceEqDiff, Nat.reduceAdd, Nat.reduceSub, Nat.reduceMul, Nat.reduceLT, Nat.reduceLeDiff, Nat.reduceBNe, Int.reduceNeg, Int.reduceAdd, Int.reduceSub, Int.reduceMul, Int.reduceLT, Int.reduceLE, Int.reduceGT, Int.reduceGE, Int.reduceEq, Int.reduceNe, Int.reduceToNat, Int.reduceTMod, Int.reduceTDiv, f1, f2, f3, f7, f11, boxF, List.length_map, hlt, nodeD_eq, nodeC, ← hx, Nat.zero_add, boolsD_length, hql, hqt]
              refine ⟨Nat.le_refl _, ?_⟩
              refine hc.at ?_
              simp (disch := omega) only [go_sem, reduceIte, reduceDIte, reduceCtorEq, Nat.reduceBEq, Nat.reduceEqDiff, Nat.reduceAdd, Nat.reduceSub, Nat.reduceMul, Nat.reduceLT, Nat.reduceLeDiff, Nat.reduceBNe, Int.reduceNeg, Int.reduceAdd, Int.reduceSub, Int.reduceMul, Int.reduceLT, Int.reduceLE, Int.reduceGT, Int.reduceGE, Int.reduceEq, Int.reduceNe, Int.reduceToNat, Int.reduceTMod, Int.reduceTDiv, boolsA]
              refine he.at ?_
              simp (disch := omega) only [go_sem, reduceIte, reduceDIte, reduceCtorEq, Nat.reduceBEq, Nat.reduceEqDiff, Nat.reduceAdd, Nat.reduceSub, Nat.reduceMul, Nat.reduceLT, Nat.reduceLeDiff, Nat.reduceBNe, Int.reduceNeg, Int.reduceAdd, Int.reduceSub, Int.reduceMul, Int.reduceLT, Int.reduceLE, Int.reduceGT, Int.reduceGE, Int.reduceEq, Int.reduceNe, Int.reduceToNat, Int.reduceTMod, Int.reduceTDiv, f11]
              refine ih (j + 1) _ _ (by omega) ⟨by omega, ?_, ?_, ?_, ?_, _, rfl, .inl ?_⟩ <;> simp (disch := omega) only [go_sem, reduceIte, reduceDIte, reduceCtorEq, Nat.reduceBEq, Nat.reduceEqDiff, Nat.reduceAdd, Nat.reduceSub, Nat.reduceMul, Nat.reduceLT, Nat.reduceLeDiff, Nat.reduceBNe, Int.reduceNeg, Int.reduceAdd, Int.reduceSub, Int.reduceMul, Int.reduceLT, Int.reduceLE, Int.reduceGT, Int.reduceGE, Int.reduceEq, Int.reduceNe, Int.reduceToNat, Int.reduceTMod, Int.reduceTDiv, f1, f2, f3, boolsA]
          · rw [List.take_of_length_le (by omega)] at hq
            have e : places t q = out := by rw [hq, eo]
            rw [e] at hF
            have h1 := hta _ hol
            rcases hF with f7 | ⟨g, f7, rfl⟩
            · simp (disch := omega) only [go_sem, reduceIte, reduceDIte, reduceCtorEq, Nat.reduceBEq, Nat.reduceEqDiff, Nat.reduceAdd, Nat.reduceSub, Nat.reduceMul, Nat.reduceLT, Nat.reduceLeDiff, Nat.reduceBNe, Int.reduceNeg, Int.reduceAdd, Int.reduceSub, Int.reduceMul, Int.reduceLT, Int.reduceLE, Int.reduceGT, Int.reduceGE, Int.reduceEq, Int.reduceNe, Int.reduceToNat, Int.reduceTMod, Int.reduceTDiv, f3, f7, f11, boxF, List.length_map, hlt, boolsA]
            · simp (disch := omega) only [go_sem, reduceIte, reduceDIte, reduceCtorEq, Nat.reduceBEq, Nat.reduceEqDiff, Nat.reduceAdd, Nat.reduceSub, Nat.reduceMul, Nat.reduceLT, Nat.reduceLeDiff, Nat.reduceBNe, Int.reduceNeg, Int.reduceAdd, Int.reduceSub, Int.reduceMul, Int.reduceLT, Int.reduceLE, Int.reduceGT, Int.reduceGE, Int.reduceEq, Int.reduceNe, Int.reduceToNat, Int.reduceTMod, Int.reduceTDiv, f3, f7, f11, boxF, List.length_map, hlt, boolsA, Nat.zero_add, boolsD_length, hol, h1]
              exact Nat.le_refl _
        · refine ⟨by omega, ?_, ?_, ?_, ?_, _, rfl, .inr ⟨0, ?_, ?_⟩⟩
          · simp (disch := omega) only [go_sem, reduceIte, reduceDIte, reduceCtorEq, Nat.reduceBEq, Nat.reduceEqDiff, Nat.reduceAdd, Nat.reduceSub, Nat.reduceMul, Nat.reduceLT, Nat.reduceLeDiff, Nat.reduceBNe, Int.reduceNeg, Int.reduceAdd, Int.reduceSub, Int.reduceMul, Int.reduceLT, Int.reduceLE, Int.reduceGT, Int.reduceGE, Int.reduceEq, Int.reduceNe, Int.reduceToNat, Int.reduceTMod, Int.reduceTDiv, f1]
          · simp (disch := omega) only [go_sem, reduceIte, reduceDIte, reduceCtorEq, Nat.reduceBEq, Nat.reduceEqDiff, Nat.reduceAdd, Nat.reduceSub, Nat.reduceMul, Nat.reduceLT, Nat.reduceLeDiff, Nat.reduceBNe, Int.reduceNeg, Int.reduceAdd, Int.reduceSub, Int.reduceMul, Int.reduceLT, Int.reduceLE, Int.reduceGT, Int.reduceGE, Int.reduceEq, Int.reduceNe, Int.reduceToNat, Int.reduceTMod, Int.reduceTDiv, f2]
          · simp (disch := omega) only [go_sem, reduceIte, reduceDIte, reduceCtorEq, Nat.reduceBEq, Nat.reduceEqDiff, Nat.reduceAdd, Nat.reduceSub, Nat.reduceMul, Nat.reduceLT, Nat.reduceLeDiff, Nat.reduceBNe, Int.reduceNeg, Int.reduceAdd, Int.reduceSub, Int.reduceMul, Int.reduceLT, Int.reduceLE, Int.reduceGT, Int.reduceGE, Int.reduceEq, Int.reduceNe, Int.reduceToNat, Int.reduceTMod, Int.reduceTDiv, f3]
          · simp (disch := omega) only [go_sem, reduceIte, reduceDIte, reduceCtorEq, Nat.reduceBEq, Nat.reduceEqDiff, Nat.reduceAdd, Nat.reduceSub, Nat.reduceMul, Nat.reduceLT, Nat.reduceLeDiff, Nat.reduceBNe, Int.reduceNeg, Int.reduceAdd, Int.reduceSub, Int.reduceMul, Int.reduceLT, Int.reduceLE, Int.reduceGT, Int.reduceGE, Int.reduceEq, Int.reduceNe, Int.reduceToNat, Int.reduceTMod, Int.reduceTDiv]
          · simp (disch := omega) only [go_sem, reduceIte, reduceDIte, reduceCtorEq, Nat.reduceBEq, Nat.reduceEqDiff, Nat.reduceAdd, Nat.reduceSub, Nat.reduceMul, Nat.reduceLT, Nat.reduceLeDiff, Nat.reduceBNe, Int.reduceNeg, Int.reduceAdd, Int.reduceSub, Int.reduceMul, Int.reduceLT, Int.reduceLE, Int.reduceGT, Int.reduceGE, Int.reduceEq, Int.reduceNe, Int.reduceToNat, Int.reduceTMod, Int.reduceTDiv, f7]
          · rw [e0]
      have k5 : k = 5 := by simp [kindB, k1, k2, k3, k4] at hkB; exact hkB
      subst k5
      simp (disch := omega) only [go_sem, reduceIte, reduceDIte, reduceCtorEq, Nat.reduceBEq, Nat.reduceEqDiff, Nat.reduceAdd, Nat.reduceSub, Nat.reduceMul, Nat.reduceLT, Nat.reduceLeDiff, Nat.reduceBNe, Int.reduceNeg, Int.reduceAdd, Int.reduceSub, Int.reduceMul, Int.reduceLT, Int.reduceLE, Int.reduceGT, Int.reduceGE, Int.reduceEq, Int.reduceNe, Int.reduceToNat, Int.reduceTMod, Int.reduceTDiv, f1, f2, f3, f7, boxF]
      exact ⟨_, rfl⟩
    rintro fr σ ⟨rfl, f1, f2, f3, blk, rfl⟩
    have hparts : (sub.length : Int) = 1 ∧ 0 ≤ a ∧ a ≤ 20 ∧ (b = -1 ∨ (a ≤ b ∧ b ≤ 20)) := by
      have : partsB 5 s sub.length a b = true := by
        unfold badB at hbad
        cases hp : partsB 5 s sub.length a b
        · rw [hp] at hbad; simp at hbad
        · rfl
      simp [partsB] at this
      omega
    obtain ⟨h1, ha0, ha20, hab⟩ := hparts
    obtain ⟨x, rfl⟩ : ∃ x, sub = [x] := by
      match sub, h1 with
      | [x], _ => exact ⟨x, rfl⟩
      | [], h => simp at h
      | _ :: _ :: _, h => simp at h; omega
    obtain ⟨an, rfl⟩ : ∃ an : Nat, a = an := ⟨a.toNat, by omega⟩
    have hc : ∀ q, PCall Tryz.prog 37 [nodeA x, runesA t, boolsA (places t q)] (boolsA (places t (Pat.Post t (Lang x) q))) := fun q => by
      have h1 := nodes_mem [x] x (by simp)
      have h2 : (Tree.mk 5 s [x] an b).nodes = 1 + Tree.nodesL [x] := nodes_eq _
      exact ih x (by simp) (chkL_mem hL x (by simp)) (by omega) (thinL_mem hthin.2 (by simp)) t q ht
    clear ih
    obtain ⟨most, hmost⟩ : ∃ most : Nat, most = if b < 0 then t.length + 1 else (b - an).toNat := ⟨_, rfl⟩
    have eo : out = places t (Pat.Post t (Upto (Lang x) an (an + most)) p) := hout.trans (places_congr fun j hj => by
      have eL : ∀ w, Lang (.mk 5 s [x] an b) w ↔ ∃ n : Nat, an ≤ n ∧ (b < 0 ∨ (n : Int) ≤ b) ∧ Pow (Lang x) n w := fun w => by
        have e : (fun u => Lang x u) = Lang x := rfl
        simp [Lang, LangP, e]
      have key : ∀ i, Lang (.mk 5 s [x] an b) (Pat.part t i j) ↔ Upto (Lang x) an (an + most) (Pat.part t i j) := fun i => by
        rw [eL]
        by_cases hb : b < 0
        · rw [if_pos hb] at hmost
          rw [← upto_all (Lang x) an (an + most) (Pat.part t i j) (by omega) (by rw [Pat.part_length t hj]; omega)]
          constructor
          · rintro ⟨n, h1, _, h2⟩; exact ⟨n, h1, h2⟩
          · rintro ⟨n, h1, h2⟩; exact ⟨n, h1, .inl hb, h2⟩
        · rw [if_neg hb] at hmost
          constructor
          · rintro ⟨n, h1, h2, h3⟩; exact ⟨n, h1, by omega, h3⟩
          · rintro ⟨n, h1, h2, h3⟩; exact ⟨n, h1, .inr (by omega), h3⟩
      constructor
      · rintro ⟨i, h1, h2, h3, h4⟩; exact ⟨i, h1, h2, h3, (key i).1 h4⟩
      · rintro ⟨i, h1, h2, h3, h4⟩; exact ⟨i, h1, h2, h3, (key i).2 h4⟩)
    have e0 : places t (Pat.Post t (Pow (Lang x) 0) p) = places t p := places_congr fun j hj => (post_congr (fun w => pow_zero (Lang x) w) p j).trans (post_eps t p hj)
    have hz : (0 : Int) < ((1 : Nat) : Int) := by decide
    have hlim : most ≤ 200000 := by rw [hmost]; split <;> omega
    simp (disch := omega) only [go_sem, reduceIte, reduceDIte, reduceCtorEq, Nat.reduceBEq, Nat.reduceEqDiff, Nat.reduceAdd, Nat.reduceSub, Nat.reduceMul, Nat.reduceLT, Nat.reduceLeDiff, Nat.reduceBNe, Int.reduceNeg, Int.reduceAdd, Int.reduceSub, Int.reduceMul, Int.reduceLT, Int.reduceLE, Int.reduceGT, Int.reduceGE, Int.reduceEq, Int.reduceNe, Int.reduceToNat, Int.reduceTMod, Int.reduceTDiv, f1, f2, f3]
    refine wL_ind (fun (i : Nat) fr σ => i ≤ an ∧ fr 1 = runesA t ∧ fr 3 = .ptr 0 0 ∧ fr 12 = boolsA (places t (Pat.Post t (Pow (Lang x) i) p)) ∧ fr 13 = .d (.int .i64 i) ∧ σ = [.box 25 (boxF 5 s [x] an b), blk]) (fun i => an - i) ?_ 0 ?_
    · rintro i fr σ ⟨hi, f1, f3, f12, f13, rfl⟩ ih
      by_cases hlt : i < an
      · have hc1 := hc (Pat.Post t (Pow (Lang x) i) p)
        rw [places_pow] at hc1
        simp (disch := omega) only [go_sem, reduceIte, reduceDIte, reduceCtorEq, Nat.reduceBEq, Nat.reduceEqDiff, Nat.reduceAdd, Nat.reduceSub, Nat.reduceMul, Nat.reduceLT, Nat.reduceLeDiff, Nat.reduceBNe, Int.reduceNeg, Int.reduceAdd, Int.reduceSub, Int.reduceMul, Int.reduceLT, Int.reduceLE, Int.reduceGT, Int.reduceGE, Int.reduceEq, Int.reduceNe, Int.reduceToNat, Int.reduceTMod, Int.reduceTDiv, f1, f3, f12, f13, hlt, boxF, List.map_cons, List.map_nil, nodeD_eq, nodeC, hz]
        refine hc1.at ?_
        simp (disch := omega) only [go_sem, reduceIte, reduceDIte, reduceCtorEq, Nat.reduceBEq, Nat.reduceEqDiff, Nat.reduceAdd, Nat.reduceSub, Nat.reduceMul, Nat.reduceLT, Nat.reduceLeDiff, Nat.reduceBNe, Int.reduceNeg, Int.reduceAdd, Int.reduceSub, Int.reduceMul, Int.reduceLT, Int.reduceLE, Int.reduceGT, Int.reduceGE, Int.reduceEq, Int.reduceNe, Int.reduceToNat, Int.reduceTMod, Int.reduceTDiv, f13]
        refine ih (i + 1) _ _ (by omega) ⟨by omega, ?_, ?_, ?_, ?_, ?_⟩
        · simp (disch := omega) only [go_sem, reduceIte, reduceDIte, reduceCtorEq, Nat.reduceBEq, Nat.reduceEqDiff, Nat.reduceAdd, Nat.reduceSub, Nat.reduceMul, Nat.reduceLT, Nat.reduceLeDiff, Nat.reduceBNe, Int.reduceNeg, Int.reduceAdd, Int.reduceSub, Int.reduceMul, Int.reduceLT, Int.reduceLE, Int.reduceGT, Int.reduceGE, Int.reduceEq, Int.reduceNe, Int.reduceToNat, Int.reduceTMod, Int.reduceTDiv, f1]
        · simp (disch := omega) only [go_sem, reduceIte, reduceDIte, reduceCtorEq, Nat.reduceBEq, Nat.reduceEqDiff, Nat.reduceAdd, Nat.reduceSub, Nat.reduceMul, Nat.reduceLT, Nat.reduceLeDiff, Nat.reduceBNe, Int.reduceNeg, Int.reduceAdd, Int.reduceSub, Int.reduceMul, Int.reduceLT, Int.reduceLE, Int.reduceGT, Int.reduceGE, Int.reduceEq, Int.reduceNe, Int.reduceToNat, Int.reduceTMod, Int.reduceTDiv, f3]
        · simp (disch := omega) only [go_sem, reduceIte, reduceDIte, reduceCtorEq, Nat.reduceBEq, Nat.reduceEqDiff, Nat.reduceAdd, Nat.reduceSub, Nat.reduceMul, Nat.reduceLT, Nat.reduceLeDiff, Nat.reduceBNe, Int.reduceNeg, Int.reduceAdd, Int.reduceSub, Int.reduceMul, Int.reduceLT, Int.reduceLE, Int.reduceGT, Int.reduceGE, Int.reduceEq, Int.reduceNe, Int.reduceToNat, Int.reduceTMod, Int.reduceTDiv]
        · simp (disch := omega) only [go_sem, reduceIte, reduceDIte, reduceCtorEq, Nat.reduceBEq, Nat.reduceEqDiff, Nat.reduceAdd, Nat.reduceSub, Nat.reduceMul, Nat.reduceLT, Nat.reduceLeDiff, Nat.reduceBNe, Int.reduceNeg, Int.reduceAdd, Int.reduceSub, Int.reduceMul, Int.reduceLT, Int.reduceLE, Int.reduceGT, Int.reduceGE, Int.reduceEq, Int.reduceNe, Int.reduceToNat, Int.reduceTMod, Int.reduceTDiv]
        · simp (disch := omega) only [go_sem, reduceIte, reduceDIte, reduceCtorEq, Nat.reduceBEq, Nat.reduceEqDiff, Nat.reduceAdd, Nat.reduceSub, Nat.reduceMul, Nat.reduceLT, Nat.reduceLeDiff, Nat.reduceBNe, Int.reduceNeg, Int.reduceAdd, Int.reduceSub, Int.reduceMul, Int.reduceLT, Int.reduceLE, Int.reduceGT, Int.reduceGE, Int.reduceEq, Int.reduceNe, Int.reduceToNat, Int.reduceTMod, Int.reduceTDiv, boxF, List.map_cons, List.map_nil, nodeD_eq, nodeC]
      · obtain rfl : i = an := by omega
        clear ih
        have hql := places_length t (Pat.Post t (Pow (Lang x) i) p)
        have hqt := hta _ hql
        rw [boolsA] at f12
        have eu : places t (Pat.Post t (Upto (Lang x) i (i + 0)) p) = places t (Pat.Post t (Pow (Lang x) i) p) := places_congr fun j hj => post_congr (fun w => upto_same (Lang x) i w) p j
        simp (disch := omega) only [go_sem, reduceIte, reduceDIte, reduceCtorEq, Nat.reduceBEq, Nat.reduceEqDiff, Nat.reduceAdd, Nat.reduceSub, Nat.reduceMul, Nat.reduceLT, Nat.reduceLeDiff, Nat.reduceBNe, Int.reduceNeg, Int.reduceAdd, Int.reduceSub, Int.reduceMul, Int.reduceLT, Int.reduceLE, Int.reduceGT, Int.reduceGE, Int.reduceEq, Int.reduceNe, Int.reduceToNat, Int.reduceTMod, Int.reduceTDiv, f1, f3, f12, f13, hlt, boxF, List.map_cons, List.map_nil, nodeD_eq, nodeC, boolsD_length, hql, hqt, Nat.zero_add]
        refine ⟨by omega, Nat.le_refl _, ?_⟩
        by_cases hb : b < 0
        case' pos =>
          rw [if_pos hb] at hmost
          have e14 : ((t.length + 1 : Nat) : Int) = (most : Int) := by omega
          rw [runesA] at f1
          simp (disch := omega) only [go_sem, reduceIte, reduceDIte, reduceCtorEq, Nat.reduceBEq, Nat.reduceEqDiff, Nat.reduceAdd, Nat.reduceSub, Nat.reduceMul, Nat.reduceLT, Nat.reduceLeDiff, Nat.reduceBNe, Int.reduceNeg, Int.reduceAdd, Int.reduceSub, Int.reduceMul, Int.reduceLT, Int.reduceLE, Int.reduceGT, Int.reduceGE, Int.reduceEq, Int.reduceNe, Int.reduceToNat, Int.reduceTMod, Int.reduceTDiv, f1, f3, hb, List.length_map, e14]
        case' neg =>
          rw [if_neg hb] at hmost
          have e14 : b - (i : Int) = (most : Int) := by omega
          simp (disch := omega) only [go_sem, reduceIte, reduceDIte, reduceCtorEq, Nat.reduceBEq, Nat.reduceEqDiff, Nat.reduceAdd, Nat.reduceSub, Nat.reduceMul, Nat.reduceLT, Nat.reduceLeDiff, Nat.reduceBNe, Int.reduceNeg, Int.reduceAdd, Int.reduceSub, Int.reduceMul, Int.reduceLT, Int.reduceLE, Int.reduceGT, Int.reduceGE, Int.reduceEq, Int.reduceNe, Int.reduceToNat, Int.reduceTMod, Int.reduceTDiv, f1, f3, hb, e14]
        all_goals (
          refine wL_ind (fun (m : Nat) fr σ => m ≤ most ∧ fr 1 = runesA t ∧ fr 3 = .ptr 0 0 ∧ fr 12 = boolsA (places t (Pat.Post t (Pow (Lang x) (i + m)) p)) ∧ fr 7 = boolsA (places t (Pat.Post t (Upto (Lang x) i (i + m)) p)) ∧ fr 14 = .d (.int .i64 most) ∧ fr 15 = .d (.int .i64 m) ∧
            ∃ b1 b2, σ = [.box 25 (boxF 5 s [x] i b), b1, b2]) (fun m => most - m) ?_ 0 ?_
          · rintro m fr σ ⟨hm, f1, f3, f12, f7, f14, f15, b1, b2, rfl⟩ ih
            by_cases hlt : m < most
            · have hc1 := hc (Pat.Post t (Pow (Lang x) (i + m)) p)
              rw [places_pow] at hc1
              have he := either56 (places t (Pat.Post t (Upto (Lang x) i (i + m)) p)) (places t (Pat.Post t (Pow (Lang x) (i + m + 1)) p)) (by rw [places_length, places_length]) (by rw [places_length]; omega) (by rw [places_length]; omega)
              rw [places_upto t p (Lang x) i (i + m) (by omega)] at he
              simp (disch := omega) only [go_sem, reduceIte, reduceDIte, reduceCtorEq, Nat.reduceBEq, Nat.reduceEqDiff, Nat.reduceAdd, Nat.reduceSub, Nat.reduceMul, Nat.reduceLT, Nat.reduceLeDiff, Nat.reduceBNe, Int.reduceNeg, Int.reduceAdd, Int.reduceSub, Int.reduceMul, Int.reduceLT, Int.reduceLE, Int.reduceGT, Int.reduceGE, Int.reduceEq, Int.reduceNe, Int.reduceToNat, Int.reduceTMod, Int.reduceTDiv, f1, f3, f7, f12, f14, f15, hlt, boxF, List.map_cons, List.map_nil, nodeD_eq, nodeC, hz]
              refine hc1.at ?_
              simp (disch := omega) only [go_sem, reduceIte, reduceDIte, reduceCtorEq, Nat.reduceBEq, Nat.reduceEqDiff, Nat.reduceAdd, Nat.reduceSub, Nat.reduceMul, Nat.reduceLT, Nat.reduceLeDiff, Nat.reduceBNe, Int.reduceNeg, Int.reduceAdd, Int.reduceSub, Int.reduceMul, Int.reduceLT, Int.reduceLE, Int.reduceGT, Int.reduceGE, Int.reduceEq, Int.reduceNe, Int.reduceToNat, Int.reduceTMod, Int.reduceTDiv, f7]
              refine he.at ?_
              simp (disch := omega) only [go_sem, reduceIte, reduceDIte, reduceCtorEq, Nat.reduceBEq, Nat.reduceEqDiff, Nat.reduceAdd, Nat.reduceSub, Nat.reduceMul, Nat.reduceLT, Nat.reduceLeDiff, Nat.reduceBNe, Int.reduceNeg, Int.reduceAdd, Int.reduceSub, Int.reduceMul, Int.reduceLT, Int.reduceLE, Int.reduceGT, Int.reduceGE, Int.reduceEq, Int.reduceNe, Int.reduceToNat, Int.reduceTMod, Int.reduceTDiv, f15]
              refine ih (m + 1) _ _ (by omega) ⟨by omega, ?_, ?_, ?_, ?_, ?_, ?_, ?_⟩
              · simp (disch := omega) only [go_sem, reduceIte, reduceDIte, reduceCtorEq, Nat.reduceBEq, Nat.reduceEqDiff, Nat.reduceAdd, Nat.reduceSub, Nat.reduceMul, Nat.reduceLT, Nat.reduceLeDiff, Nat.reduceBNe, Int.reduceNeg, Int.reduceAdd, Int.reduceSub, Int.reduceMul, Int.reduceLT, Int.reduceLE, Int.reduceGT, Int.reduceGE, Int.reduceEq, Int.reduceNe, Int.reduceToNat, Int.reduceTMod, Int.reduceTDiv, f1]
              · simp (disch := omega) only [go_sem, reduceIte, reduceDIte, reduceCtorEq, Nat.reduceBEq, Nat.reduceEqDiff, Nat.reduceAdd, Nat.reduceSub, Nat.reduceMul, Nat.reduceLT, Nat.reduceLeDiff, Nat.reduceBNe, Int.reduceNeg, Int.reduceAdd, Int.reduceSub, Int.reduceMul, Int.reduceLT, Int.reduceLE, Int.reduceGT, Int.reduceGE, Int.reduceEq, Int.reduceNe, Int.reduceToNat, Int.reduceTMod, Int.reduceTDiv, f3]
              · simp (disch := omega) only [go_sem, reduceIte, reduceDIte, reduceCtorEq, Nat.reduceBEq, Nat.reduceEqDiff, Nat.reduceAdd, Nat.reduceSub, Nat.reduceMul, Nat.reduceLT, Nat.reduceLeDiff, Nat.reduceBNe, Int.reduceNeg, Int.reduceAdd, Int.reduceSub, Int.reduceMul, Int.reduceLT, Int.reduceLE, Int.reduceGT, Int.reduceGE, Int.reduceEq, Int.reduceNe, Int.reduceToNat, Int.reduceTMod, Int.reduceTDiv]; rfl
              · simp (disch := omega) only [go_sem, reduceIte, reduceDIte, reduceCtorEq, Nat.reduceBEq, Nat.reduceEqDiff, Nat.reduceAdd, Nat.reduceSub, Nat.reduceMul, Nat.reduceLT, Nat.reduceLeDiff, Nat.reduceBNe, Int.reduceNeg, Int.reduceAdd, Int.reduceSub, Int.reduceMul, Int.reduceLT, Int.reduceLE, Int.reduceGT, Int.reduceGE, Int.reduceEq, Int.reduceNe, Int.reduceToNat, Int.reduceTMod, Int.reduceTDiv]; rfl
              · simp (disch := omega) only [go_sem, reduceIte, reduceDIte, reduceCtorEq, Nat.reduceBEq, Nat.reduceEqDiff, Nat.reduceAdd, Nat.reduceSub, Nat.reduceMul, Nat.reduceLT, Nat.reduceLeDiff, Nat.reduceBNe, Int.reduceNeg, Int.reduceAdd, Int.reduceSub, Int.reduceMul, Int.reduceLT, Int.reduceLE, Int.reduceGT, Int.reduceGE, Int.reduceEq, Int.reduceNe, Int.reduceToNat, Int.reduceTMod, Int.reduceTDiv, f14]
              · simp (disch := omega) only [go_sem, reduceIte, reduceDIte, reduceCtorEq, Nat.reduceBEq, Nat.reduceEqDiff, Nat.reduceAdd, Nat.reduceSub, Nat.reduceMul, Nat.reduceLT, Nat.reduceLeDiff, Nat.reduceBNe, Int.reduceNeg, Int.reduceAdd, Int.reduceSub, Int.reduceMul, Int.reduceLT, Int.reduceLE, Int.reduceGT, Int.reduceGE, Int.reduceEq, Int.reduceNe, Int.reduceToNat, Int.reduceTMod, Int.reduceTDiv]
              · exact ⟨_, _, by simp only [boxF, List.map_cons, List.map_nil, nodeD_eq, nodeC]; rfl⟩
            · obtain rfl : m = most := by omega
              rw [← eo] at f7
              rw [boolsA] at f7
              simp (disch := omega) only [go_sem, reduceIte, reduceDIte, reduceCtorEq, Nat.reduceBEq, Nat.reduceEqDiff, Nat.reduceAdd, Nat.reduceSub, Nat.reduceMul, Nat.reduceLT, Nat.reduceLeDiff, Nat.reduceBNe, Int.reduceNeg, Int.reduceAdd, Int.reduceSub, Int.reduceMul, Int.reduceLT, Int.reduceLE, Int.reduceGT, Int.reduceGE, Int.reduceEq, Int.reduceNe, Int.reduceToNat, Int.reduceTMod, Int.reduceTDiv, f14, f15, hlt, f7, boolsA]
              done
          · refine ⟨by omega, ?_, ?_, ?_, ?_, ?_, ?_, ?_⟩
            rotate_right 1
            · exact ⟨_, _, by simp only [boxF, List.map_cons, List.map_nil, nodeD_eq, nodeC]; rfl⟩
            · simp (disch := omega) only [go_sem, reduceIte, reduceDIte, reduceCtorEq, Nat.reduceBEq, Nat.reduceEqDiff, Nat.reduceAdd, Nat.reduceSub, Nat.reduceMul, Nat.reduceLT, Nat.reduceLeDiff, Nat.reduceBNe, Int.reduceNeg, Int.reduceAdd, Int.reduceSub, Int.reduceMul, Int.reduceLT, Int.reduceLE, Int.reduceGT, Int.reduceGE, Int.reduceEq, Int.reduceNe, Int.reduceToNat, Int.reduceTMod, Int.reduceTDiv, f1, runesA]
            · simp (disch := omega) only [go_sem, reduceIte, reduceDIte, reduceCtorEq, Nat.reduceBEq, Nat.reduceEqDiff, Nat.reduceAdd, Nat.reduceSub, Nat.reduceMul, Nat.reduceLT, Nat.reduceLeDiff, Nat.reduceBNe, Int.reduceNeg, Int.reduceAdd, Int.reduceSub, Int.reduceMul, Int.reduceLT, Int.reduceLE, Int.reduceGT, Int.reduceGE, Int.reduceEq, Int.reduceNe, Int.reduceToNat, Int.reduceTMod, Int.reduceTDiv, f3]
            · simp (disch := omega) only [go_sem, reduceIte, reduceDIte, reduceCtorEq, Nat.reduceBEq, Nat.reduceEqDiff, Nat.reduceAdd, Nat.reduceSub, Nat.reduceMul, Nat.reduceLT, Nat.reduceLeDiff, Nat.reduceBNe, Int.reduceNeg, Int.reduceAdd, Int.reduceSub, Int.reduceMul, Int.reduceLT, Int.reduceLE, Int.reduceGT, Int.reduceGE, Int.reduceEq, Int.reduceNe, Int.reduceToNat, Int.reduceTMod, Int.reduceTDiv, f12, boolsA, Nat.add_zero]
            · rw [eu]; simp (disch := omega) only [go_sem, reduceIte, reduceDIte, reduceCtorEq, Nat.reduceBEq, Nat.reduceEqDiff, Nat.reduceAdd, Nat.reduceSub, Nat.reduceMul, Nat.reduceLT, Nat.reduceLeDiff, Nat.reduceBNe, Int.reduceNeg, Int.reduceAdd, Int.reduceSub, Int.reduceMul, Int.reduceLT, Int.reduceLE, Int.reduceGT, Int.reduceGE, Int.reduceEq, Int.reduceNe, Int.reduceToNat, Int.reduceTMod, Int.reduceTDiv, boolsA]
            · simp (disch := omega) only [go_sem, reduceIte, reduceDIte, reduceCtorEq, Nat.reduceBEq, Nat.reduceEqDiff, Nat.reduceAdd, Nat.reduceSub, Nat.reduceMul, Nat.reduceLT, Nat.reduceLeDiff, Nat.reduceBNe, Int.reduceNeg, Int.reduceAdd, Int.reduceSub, Int.reduceMul, Int.reduceLT, Int.reduceLE, Int.reduceGT, Int.reduceGE, Int.reduceEq, Int.reduceNe, Int.reduceToNat, Int.reduceTMod, Int.reduceTDiv]
            · simp (disch := omega) only [go_sem, reduceIte, reduceDIte, reduceCtorEq, Nat.reduceBEq, Nat.reduceEqDiff, Nat.reduceAdd, Nat.reduceSub, Nat.reduceMul, Nat.reduceLT, Nat.reduceLeDiff, Nat.reduceBNe, Int.reduceNeg, Int.reduceAdd, Int.reduceSub, Int.reduceMul, Int.reduceLT, Int.reduceLE, Int.reduceGT, Int.reduceGE, Int.reduceEq, Int.reduceNe, Int.reduceToNat, Int.reduceTMod, Int.reduceTDiv])
    · refine ⟨by omega, ?_, ?_, ?_, ?_, rfl⟩
      · simp (disch := omega) only [go_sem, reduceIte, reduceDIte, reduceCtorEq, Nat.reduceBEq, Nat.reduceEqDiff, Nat.reduceAdd, Nat.reduceSub, Nat.reduceMul, Nat.reduceLT, Nat.reduceLeDiff, Nat.reduceBNe, Int.reduceNeg, Int.reduceAdd, Int.reduceSub, Int.reduceMul, Int.reduceLT, Int.reduceLE, Int.reduceGT, Int.reduceGE, Int.reduceEq, Int.reduceNe, Int.reduceToNat, Int.reduceTMod, Int.reduceTDiv, f1]
      · simp (disch := omega) only [go_sem, reduceIte, reduceDIte, reduceCtorEq, Nat.reduceBEq, Nat.reduceEqDiff, Nat.reduceAdd, Nat.reduceSub, Nat.reduceMul, Nat.reduceLT, Nat.reduceLeDiff, Nat.reduceBNe, Int.reduceNeg, Int.reduceAdd, Int.reduceSub, Int.reduceMul, Int.reduceLT, Int.reduceLE, Int.reduceGT, Int.reduceGE, Int.reduceEq, Int.reduceNe, Int.reduceToNat, Int.reduceTMod, Int.reduceTDiv, f3]
      · rw [e0]; simp (disch := omega) only [go_sem, reduceIte, reduceDIte, reduceCtorEq, Nat.reduceBEq, Nat.reduceEqDiff, Nat.reduceAdd, Nat.reduceSub, Nat.reduceMul, Nat.reduceLT, Nat.reduceLeDiff, Nat.reduceBNe, Int.reduceNeg, Int.reduceAdd, Int.reduceSub, Int.reduceMul, Int.reduceLT, Int.reduceLE, Int.reduceGT, Int.reduceGE, Int.reduceEq, Int.reduceNe, Int.reduceToNat, Int.reduceTMod, Int.reduceTDiv, f2]
      · simp (disch := omega) only [go_sem, reduceIte, reduceDIte, reduceCtorEq, Nat.reduceBEq, Nat.reduceEqDiff, Nat.reduceAdd, Nat.reduceSub, Nat.reduceMul, Nat.reduceLT, Nat.reduceLeDiff, Nat.reduceBNe, Int.reduceNeg, Int.reduceAdd, Int.reduceSub, Int.reduceMul, Int.reduceLT, Int.reduceLE, Int.reduceGT, Int.reduceGE, Int.reduceEq, Int.reduceNe, Int.reduceToNat, Int.reduceTMod, Int.reduceTDiv]
end Go.Proofs.YtebejiilpedlmaaGreatDoor
set_option linter.unusedVariables false
set_option linter.unusedSimpArgs false
set_option maxRecDepth 100000
namespace Go.Proofs.YtebejiilpedlmaaGreatDoor
open Go Nv Pat

structure Sq where
  value : Int
  missing : Int
  low : Int
  high : Int
  deriving Inhabited
def Sq.avs (s : Sq) : List AV := [.d (.int .i32 s.value), .d (.int .i64 s.missing), .d (.int .u8 s.low), .d (.int .u8 s.high)]
def Sq.av (s : Sq) : AV := .agg s.avs

def m8 (b m : Int) : Int := ((BitVec.ofInt 8 b &&& BitVec.ofInt 8 m).toNat : Int)
def beginM (b : Int) : Sq :=
  if 194 ≤ b ∧ b ≤ 223 then ⟨m8 b 31, 1, 128, 191⟩
  else if 224 ≤ b ∧ b ≤ 239 then ⟨m8 b 15, 2, if b = 224 then 160 else 128, if b = 237 then 159 else 191⟩
  else if 240 ≤ b ∧ b ≤ 244 then ⟨m8 b 7, 3, if b = 240 then 144 else 128, if b = 244 then 143 else 191⟩
  else ⟨0, 0, 128, 191⟩

/-- One character, whole. -/
inductive OkSeq : List UInt8 → Prop
  | one {b : UInt8} : b.toNat < 128 → OkSeq [b]
  | two {b c : UInt8} : (beginM (bt b)).missing = 1 → (beginM (bt b)).low ≤ bt c → bt c ≤ (beginM (bt b)).high → OkSeq [b, c]
  | three {b c d : UInt8} : (beginM (bt b)).missing = 2 → (beginM (bt b)).low ≤ bt c → bt c ≤ (beginM (bt b)).high → 128 ≤ bt d → bt d ≤ 191 → OkSeq [b, c, d]
  | four {b c d e : UInt8} : (beginM (bt b)).missing = 3 → (beginM (bt b)).low ≤ bt c → bt c ≤ (beginM (bt b)).high → 128 ≤ bt d → bt d ≤ 191 → 128 ≤ bt e → bt e ≤ 191 → OkSeq [b, c, d, e]
theorem first_begin : ∀ b : Fin 256, 128 ≤ b.val →
    ((beginM (b.val : Int)).missing = 0 ∧ Lib.firstT b.val % 8 ≠ 2 ∧ Lib.firstT b.val % 8 ≠ 3 ∧ Lib.firstT b.val % 8 ≠ 4) ∨
    ((beginM (b.val : Int)).missing + 1 = (Lib.firstT b.val % 8 : Nat) ∧ (Lib.firstT b.val % 8 = 2 ∨ Lib.firstT b.val % 8 = 3 ∨ Lib.firstT b.val % 8 = 4) ∧
      (beginM (b.val : Int)).low = (Lib.accLo (Lib.firstT b.val / 16) : Nat) ∧ (beginM (b.val : Int)).high = (Lib.accHi (Lib.firstT b.val / 16) : Nat)) := by decide +kernel
theorem begin_first (b : UInt8) (h : 128 ≤ b.toNat) :
    ((beginM (bt b)).missing = 0 ∧ Lib.firstT b.toNat % 8 ≠ 2 ∧ Lib.firstT b.toNat % 8 ≠ 3 ∧ Lib.firstT b.toNat % 8 ≠ 4) ∨
    ((beginM (bt b)).missing + 1 = (Lib.firstT b.toNat % 8 : Nat) ∧ (Lib.firstT b.toNat % 8 = 2 ∨ Lib.firstT b.toNat % 8 = 3 ∨ Lib.firstT b.toNat % 8 = 4) ∧
      (beginM (bt b)).low = (Lib.accLo (Lib.firstT b.toNat / 16) : Nat) ∧ (beginM (bt b)).high = (Lib.accHi (Lib.firstT b.toNat / 16) : Nat)) :=
  first_begin ⟨b.toNat, b.toNat_lt⟩ h
theorem begin_big {b : UInt8} (h : (beginM (bt b)).missing ≠ 0) : 128 ≤ b.toNat := by
  rcases Nat.lt_or_ge b.toNat 128 with hb | hb
  · exact absurd (by unfold beginM bt; rw [if_neg (by omega), if_neg (by omega), if_neg (by omega)]) h
  · exact hb
theorem valid_seq {p : List UInt8} (hp : OkSeq p) (r : List UInt8) : Lib.validD (p ++ r) = Lib.validD r := by
  cases hp with
  | one h => exact Lib.validD_cons _ _ h
  | @two b c h1 h2 h3 =>
    have hb := begin_big (b := b) (by omega)
    rw [Lib.validD_lead _ (by simp) (by simpa using hb)]
    rcases begin_first b hb with ⟨k1, _⟩ | ⟨k1, k2, k3, k4⟩
    · omega
    · have e : Lib.firstT b.toNat % 8 = 2 := by omega
      unfold bt at h2 h3 k1 k3 k4
      simp only [List.cons_append, List.nil_append, List.getD_cons_zero, List.getD_cons_succ, List.length_cons, e, Lib.checkN, if_true]
      rw [if_neg (by unfold bt at *; omega)]
      simp
  | @three b c d h1 h2 h3 h4 h5 =>
    have hb := begin_big (b := b) (by omega)
    rw [Lib.validD_lead _ (by simp) (by simpa using hb)]
    rcases begin_first b hb with ⟨k1, _⟩ | ⟨k1, k2, k3, k4⟩
    · omega
    · have e : Lib.firstT b.toNat % 8 = 3 := by omega
      simp only [List.cons_append, List.nil_append, List.getD_cons_zero, List.getD_cons_succ, List.length_cons, e, Lib.checkN, if_true, show ¬ (3 : Nat) = 2 by omega, if_false]
      rw [if_neg (by unfold bt at *; omega)]
      simp
  | @four b c d f h1 h2 h3 h4 h5 h6 h7 =>
    have hb := begin_big (b := b) (by omega)
    rw [Lib.validD_lead _ (by simp) (by simpa using hb)]
    rcases begin_first b hb with ⟨k1, _⟩ | ⟨k1, k2, k3, k4⟩
    · omega
    · have e : Lib.firstT b.toNat % 8 = 4 := by omega
      simp only [List.cons_append, List.nil_append, List.getD_cons_zero, List.getD_cons_succ, List.length_cons, e, Lib.checkN, if_true, show ¬ (4 : Nat) = 2 by omega, show ¬ (4 : Nat) = 3 by omega, if_false]
      rw [if_neg (by unfold bt at *; omega)]
      simp
theorem valid_split {s : List UInt8} (h : Lib.validD s = true) (hne : s ≠ []) : ∃ p r, s = p ++ r ∧ OkSeq p ∧ Lib.validD r = true := by
  cases s with
  | nil => exact absurd rfl hne
  | cons b t =>
    rcases Nat.lt_or_ge b.toNat 128 with hb | hb
    · exact ⟨[b], t, rfl, .one hb, by rwa [Lib.validD_cons _ _ hb] at h⟩
    · rw [Lib.validD_lead _ (by simp) (by simpa using hb)] at h
      simp only [List.getD_cons_zero, List.getD_cons_succ, List.length_cons] at h
      rcases begin_first b hb with ⟨k1, k2, k3, k4⟩ | ⟨k1, k2, k3, k4⟩
      · simp only [Lib.checkN, k2, k3, k4, if_false] at h; exact absurd h (by simp)
      · rcases k2 with e | e | e
        · simp only [e, Lib.checkN, if_true] at h
          split at h
          · exact absurd h (by simp)
          · rename_i hk
            split at hk
            · cases hk
            · rename_i hc
              cases hk
              match t, hc with
              | [], hc => simp at hc
              | c :: t, hc =>
                simp only [List.getD_cons_zero, List.getD_cons_succ, List.length_cons] at hc
                refine ⟨[b, c], t, rfl, .two (by omega) ?_ ?_, by simpa using h⟩ <;> (unfold bt at *; omega)
        · simp only [e, Lib.checkN, if_true, show ¬ (3 : Nat) = 2 by omega, if_false] at h
          split at h
          · exact absurd h (by simp)
          · rename_i hk
            split at hk
            · cases hk
            · rename_i hc
              cases hk
              match t, hc with
              | [], hc => simp at hc
              | [c], hc => simp at hc
              | c :: d :: t, hc =>
                simp only [List.getD_cons_zero, List.getD_cons_succ, List.length_cons] at hc
                refine ⟨[b, c, d], t, rfl, .three (by omega) ?_ ?_ ?_ ?_, by simpa using h⟩ <;> (unfold bt at *; omega)
        · simp only [e, Lib.checkN, if_true, show ¬ (4 : Nat) = 2 by omega, show ¬ (4 : Nat) = 3 by omega, if_false] at h
          split at h
          · exact absurd h (by simp)
          · rename_i hk
            split at hk
            · cases hk
            · rename_i hc
              cases hk
              match t, hc with
              | [], hc => simp at hc
              | [c], hc => simp at hc
              | [c, d], hc => simp at hc
              | c :: d :: f :: t, hc =>
                simp only [List.getD_cons_zero, List.getD_cons_succ, List.length_cons] at hc
                refine ⟨[b, c, d, f], t, rfl, .four (by omega) ?_ ?_ ?_ ?_ ?_ ?_, by simpa using h⟩ <;> (unfold bt at *; omega)
theorem valid_ind {P : List UInt8 → Prop} (h0 : P []) (h1 : ∀ p r, OkSeq p → Lib.validD r = true → P r → P (p ++ r)) : ∀ (n : Nat) (s : List UInt8), s.length ≤ n → Lib.validD s = true → P s
  | 0, s, hn, _ => by rw [List.eq_nil_of_length_eq_zero (l := s) (by omega)]; exact h0
  | n + 1, s, hn, hv => by
    by_cases hne : s = []
    · rw [hne]; exact h0
    · obtain ⟨p, r, rfl, hp, hr⟩ := valid_split hv hne
      have hl : 0 < p.length := by cases hp <;> simp
      rw [List.length_append] at hn
      exact h1 p r hp hr (valid_ind h0 h1 n r (by omega) hr)
end Go.Proofs.YtebejiilpedlmaaGreatDoor
