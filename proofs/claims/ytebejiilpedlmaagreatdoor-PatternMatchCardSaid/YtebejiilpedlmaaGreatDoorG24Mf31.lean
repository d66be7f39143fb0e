/- Part of a proof about the functions of this seat. -/
import Derived.Test.YtebejiilpedlmaaGreatDoorG18G131
import Derived.Test.YtebejiilpedlmaaGreatDoorG12Mj31
import Derived.Lib.TrimUEq
import Derived.Lib.IndexMore
import Derived.Test.YtebejiilpedlmaaGreatDoorG21Y31
set_option linter.unusedVariables false
set_option linter.unusedSimpArgs false
set_option maxRecDepth 100000
namespace Go.Proofs.YtebejiilpedlmaaGreatDoor
open Go Nv Pat

/- The reference's decoder: what may follow a prefix. -/
def sizeX (x : Int) : Int := if (beginM x).missing = 0 then 0 else (beginM x).missing + 1
def lowX (x : Int) (n : Nat) : Int := if n = 0 then (beginM x).low else 128
def highX (x : Int) (n : Nat) : Int := if n = 0 then (beginM x).high else 191
theorem limits70 (x : Int) (rest : List DV) (hr : rest.length ≤ 1000) : PCall Tryz.prog 70 [.d (.list 1 (.int .u8 x :: rest))] (.tuple [.d (.int .u8 (lowX x rest.length)), .d (.int .u8 (highX x rest.length)), .d (.int .i64 (sizeX x))]) := by
  refine fn70.pure noHint (Nat.le_refl _) (by simp only [go_sem]) (by simp only [go_sem]) ?_
  have hpos : (0 : Int) < ((rest.length + 1 : Nat) : Int) := by omega
  have hne : ¬ ((rest.length + 1 : Nat) : Int) = 0 := by omega
  refine wW_cut (fun fr σ => fr 0 = .d (.list 1 (.int .u8 x :: rest)) ∧ σ = []) ?_ ?_
  · simp (disch := omega) only [go_sem, reduceIte, reduceCtorEq, Nat.reduceBEq, Nat.reduceEqDiff, Nat.reduceAdd, Nat.reduceLT, Nat.reduceLeDiff, Int.reduceNeg, Int.reduceAdd, Int.reduceLT, Int.reduceLE, Int.reduceEq, Int.reduceNe]
  rintro fr σ ⟨f0, rfl⟩
  refine wW_cut (fun fr σ => fr 0 = .d (.list 1 (.int .u8 x :: rest)) ∧ σ = []) ?_ ?_
  · simp (disch := omega) only [go_sem, reduceIte, reduceCtorEq, Nat.reduceBEq, Nat.reduceEqDiff, Nat.reduceAdd, Nat.reduceLT, Nat.reduceLeDiff, Int.reduceNeg, Int.reduceAdd, Int.reduceLT, Int.reduceLE, Int.reduceEq, Int.reduceNe, f0, hne]
  rintro fr σ ⟨f0, rfl⟩
  refine wW_cut (fun fr σ => fr 0 = .d (.list 1 (.int .u8 x :: rest)) ∧ fr 5 = .d (.int .i64 0) ∧ σ = []) ?_ ?_
  · simp (disch := omega) only [go_sem, reduceIte, reduceCtorEq, Nat.reduceBEq, Nat.reduceEqDiff, Nat.reduceAdd, Nat.reduceLT, Nat.reduceLeDiff, Int.reduceNeg, Int.reduceAdd, Int.reduceLT, Int.reduceLE, Int.reduceEq, Int.reduceNe, f0]
  rintro fr σ ⟨f0, f5, rfl⟩
  refine wW_cut (fun fr σ => fr 0 = .d (.list 1 (.int .u8 x :: rest)) ∧ fr 5 = .d (.int .i64 (sizeX x)) ∧ σ = []) ?_ ?_
  · by_cases h1 : 194 ≤ x
    · by_cases h2 : x ≤ 223
      · have e : sizeX x = 2 := by simp [sizeX, beginM, h1, h2]
        simp (disch := omega) only [go_sem, reduceIte, reduceCtorEq, Nat.reduceBEq, Nat.reduceEqDiff, Nat.reduceAdd, Nat.reduceLT, Nat.reduceLeDiff, Int.reduceNeg, Int.reduceAdd, Int.reduceLT, Int.reduceLE, Int.reduceEq, Int.reduceNe, f0, f5, hpos, h1, h2, e]
      · by_cases h3 : 224 ≤ x
        · by_cases h4 : x ≤ 239
          · have e : sizeX x = 3 := by simp [sizeX, beginM, h2, h3, h4]
            simp (disch := omega) only [go_sem, reduceIte, reduceCtorEq, Nat.reduceBEq, Nat.reduceEqDiff, Nat.reduceAdd, Nat.reduceLT, Nat.reduceLeDiff, Int.reduceNeg, Int.reduceAdd, Int.reduceLT, Int.reduceLE, Int.reduceEq, Int.reduceNe, f0, f5, hpos, h1, h2, h3, h4, e]
          · by_cases h5 : 240 ≤ x
            · by_cases h6 : x ≤ 244
              · have e : sizeX x = 4 := by simp [sizeX, beginM, h2, h4, h5, h6]
                simp (disch := omega) only [go_sem, reduceIte, reduceCtorEq, Nat.reduceBEq, Nat.reduceEqDiff, Nat.reduceAdd, Nat.reduceLT, Nat.reduceLeDiff, Int.reduceNeg, Int.reduceAdd, Int.reduceLT, Int.reduceLE, Int.reduceEq, Int.reduceNe, f0, f5, hpos, h1, h2, h3, h4, h5, h6, e]
              · have e : sizeX x = 0 := by simp [sizeX, beginM, h2, h4, h6]
                simp (disch := omega) only [go_sem, reduceIte, reduceCtorEq, Nat.reduceBEq, Nat.reduceEqDiff, Nat.reduceAdd, Nat.reduceLT, Nat.reduceLeDiff, Int.reduceNeg, Int.reduceAdd, Int.reduceLT, Int.reduceLE, Int.reduceEq, Int.reduceNe, f0, f5, hpos, h1, h2, h3, h4, h5, h6, e]
            · omega
        · omega
    · have h3 : ¬ 224 ≤ x := by omega
      have h5 : ¬ 240 ≤ x := by omega
      have e : sizeX x = 0 := by simp [sizeX, beginM, h1, h3, h5]
      simp (disch := omega) only [go_sem, reduceIte, reduceCtorEq, Nat.reduceBEq, Nat.reduceEqDiff, Nat.reduceAdd, Nat.reduceLT, Nat.reduceLeDiff, Int.reduceNeg, Int.reduceAdd, Int.reduceLT, Int.reduceLE, Int.reduceEq, Int.reduceNe, f0, f5, hpos, h1, h3, h5, e]
  rintro fr σ ⟨f0, f5, rfl⟩
  cases rest with
  | cons y rest =>
    have e1 : lowX x (rest.length + 1) = 128 := by simp [lowX]
    have e2 : highX x (rest.length + 1) = 191 := by simp [highX]
    have hn1 : ¬ ((rest.length + 1 + 1 : Nat) : Int) = 1 := by omega
    simp (disch := omega) only [go_sem, reduceIte, reduceCtorEq, Nat.reduceBEq, Nat.reduceEqDiff, Nat.reduceAdd, Nat.reduceLT, Nat.reduceLeDiff, Int.reduceNeg, Int.reduceAdd, Int.reduceLT, Int.reduceLE, Int.reduceEq, Int.reduceNe, f0, f5, hn1, e1, e2]
  | nil =>
    have h01 : (0 : Int) < ((0 + 1 : Nat) : Int) := by omega
    have e11 : (((0 + 1 : Nat) : Int) = 1) := by omega
    by_cases h1 : x = 224
    · have e1 : lowX 224 0 = 160 := rfl
      have e2 : highX 224 0 = 191 := rfl
      subst h1
      simp (disch := omega) only [go_sem, reduceIte, reduceCtorEq, Nat.reduceBEq, Nat.reduceEqDiff, Nat.reduceAdd, Nat.reduceLT, Nat.reduceLeDiff, Int.reduceNeg, Int.reduceAdd, Int.reduceLT, Int.reduceLE, Int.reduceEq, Int.reduceNe, f0, f5, h01, e11, e1, e2]
      done
    by_cases h2 : x = 237
    · have e1 : lowX 237 0 = 128 := rfl
      have e2 : highX 237 0 = 159 := rfl
      subst h2
      simp (disch := omega) only [go_sem, reduceIte, reduceCtorEq, Nat.reduceBEq, Nat.reduceEqDiff, Nat.reduceAdd, Nat.reduceLT, Nat.reduceLeDiff, Int.reduceNeg, Int.reduceAdd, Int.reduceLT, Int.reduceLE, Int.reduceEq, Int.reduceNe, f0, f5, h01, e11, e1, e2]
      done
    by_cases h3 : x = 240
    · have e1 : lowX 240 0 = 144 := rfl
      have e2 : highX 240 0 = 191 := rfl
      subst h3
      simp (disch := omega) only [go_sem, reduceIte, reduceCtorEq, Nat.reduceBEq, Nat.reduceEqDiff, Nat.reduceAdd, Nat.reduceLT, Nat.reduceLeDiff, Int.reduceNeg, Int.reduceAdd, Int.reduceLT, Int.reduceLE, Int.reduceEq, Int.reduceNe, f0, f5, h01, e11, e1, e2]
      done
    by_cases h4 : x = 244
    · have e1 : lowX 244 0 = 128 := rfl
      have e2 : highX 244 0 = 143 := rfl
      subst h4
      simp (disch := omega) only [go_sem, reduceIte, reduceCtorEq, Nat.reduceBEq, Nat.reduceEqDiff, Nat.reduceAdd, Nat.reduceLT, Nat.reduceLeDiff, Int.reduceNeg, Int.reduceAdd, Int.reduceLT, Int.reduceLE, Int.reduceEq, Int.reduceNe, f0, f5, h01, e11, e1, e2]
      done
    · have e1 : lowX x 0 = 128 := by simp only [lowX, beginM, h1, h3, if_true, if_false]; split <;> (try split) <;> (try split) <;> rfl
      have e2 : highX x 0 = 191 := by simp only [highX, beginM, h2, h4, if_true, if_false]; split <;> (try split) <;> (try split) <;> rfl
      simp (disch := omega) only [go_sem, reduceIte, reduceCtorEq, Nat.reduceBEq, Nat.reduceEqDiff, Nat.reduceAdd, Nat.reduceLT, Nat.reduceLeDiff, Int.reduceNeg, Int.reduceAdd, Int.reduceLT, Int.reduceLE, Int.reduceEq, Int.reduceNe, f0, f5, h01, e11, h1, h2, h3, h4, e1, e2]
      done

def vals (v : Int) (l : List Int) : Int := l.foldl (fun n b => n * 64 + b - 128) v
def baseX (n : Nat) : Int := if n = 1 then 192 else if n = 2 then 224 else 240
theorem vals_snoc (v : Int) (l : List Int) (b : Int) : vals v (l ++ [b]) = vals v l * 64 + b - 128 := by simp [vals]
theorem vals_ok : ∀ (l : List Int) (k : Nat) (v : Int), 0 ≤ v → v < 32 * (64 : Int) ^ k → (∀ b, b ∈ l → 128 ≤ b ∧ b ≤ 191) → 0 ≤ vals v l ∧ vals v l < 32 * (64 : Int) ^ (k + l.length)
  | [], k, v, h0, h1, _ => ⟨h0, by simpa [vals] using h1⟩
  | b :: l, k, v, h0, h1, h => by
    have hb := h b (by simp)
    have := vals_ok l (k + 1) (v * 64 + b - 128) (by omega) (by rw [Int.pow_succ]; omega) (fun y hy => h y (by simp [hy]))
    rw [show k + 1 + l.length = k + (b :: l).length by simp; omega] at this
    exact this
theorem value71 (x : Int) (l : List Int) (hl : 1 ≤ l.length ∧ l.length ≤ 3) (hx : baseX l.length ≤ x ∧ x < baseX l.length + 32 ∧ x ≤ 255) (hb : ∀ b, b ∈ l → 128 ≤ b ∧ b ≤ 191) :
    PCall Tryz.prog 71 [.d (.list 1 (.int .u8 x :: l.map (DV.int .u8)))] (.d (.int .i32 (vals (x - baseX l.length) l))) := by
  refine fn71.pure noHint (Nat.le_refl _) (by simp only [go_sem]) (by simp only [go_sem]) ?_
  refine wW_cut (fun fr σ => fr 0 = .d (.list 1 (.int .u8 x :: l.map (DV.int .u8))) ∧ σ = []) ?_ ?_
  · simp (disch := omega) only [go_sem, reduceIte, reduceCtorEq, Nat.reduceBEq, Nat.reduceEqDiff, Nat.reduceAdd, Nat.reduceLT, Nat.reduceLeDiff, Int.reduceNeg, Int.reduceAdd, Int.reduceLT, Int.reduceLE, Int.reduceEq, Int.reduceNe]
  rintro fr σ ⟨f0, rfl⟩
  refine wW_cut (fun fr σ => fr 0 = .d (.list 1 (.int .u8 x :: l.map (DV.int .u8))) ∧ σ = []) ?_ ?_
  · simp (disch := omega) only [go_sem, reduceIte, reduceCtorEq, Nat.reduceBEq, Nat.reduceEqDiff, Nat.reduceAdd, Nat.reduceLT, Nat.reduceLeDiff, Int.reduceNeg, Int.reduceAdd, Int.reduceLT, Int.reduceLE, Int.reduceEq, Int.reduceNe, f0]
  rintro fr σ ⟨f0, rfl⟩
  refine wW_cut (fun fr σ => fr 0 = .d (.list 1 (.int .u8 x :: l.map (DV.int .u8))) ∧ fr 3 = .d (.int .i32 (x - baseX l.length)) ∧ σ = []) ?_ ?_
  · have hpos : (0 : Int) < ((l.length + 1 : Nat) : Int) := by omega
    rcases (by omega : l.length = 1 ∨ l.length = 2 ∨ l.length = 3) with h | h | h
    · rw [h] at hx
      simp [baseX] at hx
      have e : baseX 1 = 192 := rfl
      have e1 : ((1 + 1 : Nat) : Int) = 2 := by omega
      have h01 : (0 : Int) < ((1 + 1 : Nat) : Int) := by omega
      simp (disch := omega) only [go_sem, reduceIte, reduceCtorEq, Nat.reduceBEq, Nat.reduceEqDiff, Nat.reduceAdd, Nat.reduceLT, Nat.reduceLeDiff, Int.reduceNeg, Int.reduceAdd, Int.reduceLT, Int.reduceLE, Int.reduceEq, Int.reduceNe, f0, List.length_map, h, e, e1, h01]
    · rw [h] at hx
      simp [baseX] at hx
      have e : baseX 2 = 224 := rfl
      have e1 : ((2 + 1 : Nat) : Int) = 3 := by omega
      have h01 : (0 : Int) < ((2 + 1 : Nat) : Int) := by omega
      simp (disch := omega) only [go_sem, reduceIte, reduceCtorEq, Nat.reduceBEq, Nat.reduceEqDiff, Nat.reduceAdd, Nat.reduceLT, Nat.reduceLeDiff, Int.reduceNeg, Int.reduceAdd, Int.reduceLT, Int.reduceLE, Int.reduceEq, Int.reduceNe, f0, List.length_map, h, e, e1, h01]
    · rw [h] at hx
      simp [baseX] at hx
      have e : baseX 3 = 240 := rfl
      have e1 : ((3 + 1 : Nat) : Int) = 4 := by omega
      have h01 : (0 : Int) < ((3 + 1 : Nat) : Int) := by omega
      simp (disch := omega) only [go_sem, reduceIte, reduceCtorEq, Nat.reduceBEq, Nat.reduceEqDiff, Nat.reduceAdd, Nat.reduceLT, Nat.reduceLeDiff, Int.reduceNeg, Int.reduceAdd, Int.reduceLT, Int.reduceLE, Int.reduceEq, Int.reduceNe, f0, List.length_map, h, e, e1, h01]
  rintro fr σ ⟨f0, f3, rfl⟩
  obtain ⟨v0, hv0⟩ : ∃ v0, v0 = x - baseX l.length := ⟨_, rfl⟩
  rw [← hv0] at f3 ⊢
  have hb0 : 0 ≤ v0 ∧ v0 < 32 := by omega
  simp (disch := omega) only [go_sem, reduceIte, reduceCtorEq, Nat.reduceBEq, Nat.reduceEqDiff, Nat.reduceAdd, Nat.reduceLT, Nat.reduceLeDiff, Int.reduceNeg, Int.reduceAdd, Int.reduceLT, Int.reduceLE, Int.reduceEq, Int.reduceNe, f0, f3]
  refine wL_ind (fun (j : Nat) fr σ => j ≤ l.length ∧ fr 0 = .d (.list 1 (.int .u8 x :: l.map (DV.int .u8))) ∧ fr 3 = .d (.int .i32 (vals v0 (l.take j))) ∧ fr 4 = .d (.int .i64 (j + 1 : Nat))) (fun j => l.length - j) ?_ 0 ?_
  · rintro j fr σ ⟨hj, f0, f3, f4⟩ ih
    by_cases hlt : j < l.length
    · obtain ⟨b, hbe⟩ : ∃ b, b = l.getD j 0 := ⟨_, rfl⟩
      have hbm : b ∈ l := by rw [hbe, List.getD_eq_getElem?_getD, List.getElem?_eq_getElem hlt]; simp
      have hbr := hb b hbm
      have gd : (DV.int .u8 x :: l.map (DV.int .u8)).getD (j + 1) default = .int .u8 b := by rw [hbe]; simp [List.getD_eq_getElem?_getD, hlt]
      have hlt2 : j + 1 < l.length + 1 := by omega
      have hv := vals_ok (l.take j) 0 v0 hb0.1 (by omega) (fun y hy => hb y (List.mem_of_mem_take hy))
      have hpow : (64 : Int) ^ (0 + (l.take j).length) ≤ 4096 := by
        have : (l.take j).length ≤ 2 := by rw [List.length_take]; omega
        match (l.take j).length, this with
        | 0, _ => decide
        | 1, _ => decide
        | 2, _ => decide
      have es : vals v0 (l.take (j + 1)) = vals v0 (l.take j) * 64 + b - 128 := by
        rw [List.take_succ_eq_append_getElem hlt, vals_snoc, hbe]; simp [List.getD_eq_getElem?_getD, hlt]
      generalize vals v0 (l.take j) = w at hv f3 es
      simp (disch := omega) only [go_sem, reduceIte, reduceCtorEq, Nat.reduceBEq, Nat.reduceEqDiff, Nat.reduceAdd, Nat.reduceLT, Nat.reduceLeDiff, Int.reduceNeg, Int.reduceAdd, Int.reduceLT, Int.reduceLE, Int.reduceEq, Int.reduceNe, f0, f3, f4, List.length_map, hlt2, gd]
      refine ih (j + 1) _ _ (by omega) ⟨by omega, ?_, ?_, ?_⟩
      · simp (disch := omega) only [go_sem, reduceIte, reduceCtorEq, Nat.reduceBEq, Nat.reduceEqDiff, Nat.reduceAdd, Nat.reduceLT, Nat.reduceLeDiff, Int.reduceNeg, Int.reduceAdd, Int.reduceLT, Int.reduceLE, Int.reduceEq, Int.reduceNe, f0]
      · rw [es]; simp (disch := omega) only [go_sem, reduceIte, reduceCtorEq, Nat.reduceBEq, Nat.reduceEqDiff, Nat.reduceAdd, Nat.reduceLT, Nat.reduceLeDiff, Int.reduceNeg, Int.reduceAdd, Int.reduceLT, Int.reduceLE, Int.reduceEq, Int.reduceNe]
      · simp (disch := omega) only [go_sem, reduceIte, reduceCtorEq, Nat.reduceBEq, Nat.reduceEqDiff, Nat.reduceAdd, Nat.reduceLT, Nat.reduceLeDiff, Int.reduceNeg, Int.reduceAdd, Int.reduceLT, Int.reduceLE, Int.reduceEq, Int.reduceNe]
    · have e : l.take j = l := List.take_of_length_le (by omega)
      rw [e] at f3
      have hlt2 : ¬ j + 1 < l.length + 1 := by omega
      simp (disch := omega) only [go_sem, reduceIte, reduceCtorEq, Nat.reduceBEq, Nat.reduceEqDiff, Nat.reduceAdd, Nat.reduceLT, Nat.reduceLeDiff, Int.reduceNeg, Int.reduceAdd, Int.reduceLT, Int.reduceLE, Int.reduceEq, Int.reduceNe, f0, f3, f4, List.length_map, hlt2]
  · refine ⟨by omega, ?_, ?_, ?_⟩
    · simp (disch := omega) only [go_sem, reduceIte, reduceCtorEq, Nat.reduceBEq, Nat.reduceEqDiff, Nat.reduceAdd, Nat.reduceLT, Nat.reduceLeDiff, Int.reduceNeg, Int.reduceAdd, Int.reduceLT, Int.reduceLE, Int.reduceEq, Int.reduceNe, f0]
    · simp (disch := omega) only [go_sem, reduceIte, reduceCtorEq, Nat.reduceBEq, Nat.reduceEqDiff, Nat.reduceAdd, Nat.reduceLT, Nat.reduceLeDiff, Int.reduceNeg, Int.reduceAdd, Int.reduceLT, Int.reduceLE, Int.reduceEq, Int.reduceNe, f3, vals]; rfl
    · simp (disch := omega) only [go_sem, reduceIte, reduceCtorEq, Nat.reduceBEq, Nat.reduceEqDiff, Nat.reduceAdd, Nat.reduceLT, Nat.reduceLeDiff, Int.reduceNeg, Int.reduceAdd, Int.reduceLT, Int.reduceLE, Int.reduceEq, Int.reduceNe]; rfl
end Go.Proofs.YtebejiilpedlmaaGreatDoor
set_option linter.unusedVariables false
set_option linter.unusedSimpArgs false
set_option maxRecDepth 100000
namespace Go.Proofs.YtebejiilpedlmaaGreatDoor
open Go Nv Pat

/- Characters as bytes, and back. -/
def encB (c : Int) : List UInt8 := (Utf8.encode c).data.toList
theorem encB1 {r : Nat} (h : r < 128) : encB r = [UInt8.ofNat r] := by
  have v : Utf8.valid (r : Int) = true := by simp [Utf8.valid]; omega
  simp [encB, Utf8.encode, v, h]
theorem encB2 {r : Nat} (h1 : 128 ≤ r) (h2 : r < 2048) : encB r = [UInt8.ofNat (192 + r / 64), UInt8.ofNat (128 + r % 64)] := by
  have v : Utf8.valid (r : Int) = true := by simp [Utf8.valid]; omega
  have c1 : ¬ r < 128 := by omega
  simp [encB, Utf8.encode, v, c1, h2]
theorem encB3 {r : Nat} (h1 : 2048 ≤ r) (h2 : r < 65536) (hv : r < 55296 ∨ 57344 ≤ r) : encB r = [UInt8.ofNat (224 + r / 4096), UInt8.ofNat (128 + r / 64 % 64), UInt8.ofNat (128 + r % 64)] := by
  have v : Utf8.valid (r : Int) = true := by simp [Utf8.valid]; omega
  have c1 : ¬ r < 128 := by omega
  have c2 : ¬ r < 2048 := by omega
  simp [encB, Utf8.encode, v, c1, c2, h2]
theorem encB4 {r : Nat} (h1 : 65536 ≤ r) (h2 : r ≤ 1114111) : encB r = [UInt8.ofNat (240 + r / 262144), UInt8.ofNat (128 + r / 4096 % 64), UInt8.ofNat (128 + r / 64 % 64), UInt8.ofNat (128 + r % 64)] := by
  have v : Utf8.valid (r : Int) = true := by simp [Utf8.valid]; omega
  have c1 : ¬ r < 128 := by omega
  have c2 : ¬ r < 2048 := by omega
  have c3 : ¬ r < 65536 := by omega
  simp [encB, Utf8.encode, v, c1, c2, c3]
theorem char_cases {c : Int} (h : charB c = true) : ∃ r : Nat, c = r ∧ (r < 128 ∨ (128 ≤ r ∧ r < 2048) ∨ (2048 ≤ r ∧ r < 65536 ∧ (r < 55296 ∨ 57344 ≤ r)) ∨ (65536 ≤ r ∧ r ≤ 1114111)) := by
  rw [charB_iff] at h
  exact ⟨c.toNat, by omega, by omega⟩
theorem u8n (n : Nat) (h : n < 256) : (UInt8.ofNat n).toNat = n := by simp; omega

theorem dec_enc {c : Int} (h : charB c = true) (t : List UInt8) : Lib.decodeL (encB c ++ t) = (c.toNat, (encB c).length) := by
  obtain ⟨r, rfl, h1 | ⟨h1, h2⟩ | ⟨h1, h2, h3⟩ | ⟨h1, h2⟩⟩ := char_cases h
  · rw [encB1 h1, Lib.decodeL_N]
    simp only [List.cons_append, List.nil_append, List.getD_cons_zero, u8n r (by omega), Lib.decodeN, h1, if_true]
    simp
  · rw [encB2 h1 h2, Lib.decodeL_N]
    simp only [List.cons_append, List.nil_append, List.getD_cons_zero, List.getD_cons_succ, u8n (192 + r / 64) (by omega), u8n (128 + r % 64) (by omega), Lib.decodeN, List.length_cons]
    rw [if_neg (by omega), if_pos (by omega), if_pos (by omega)]
    simp; omega
  · rw [encB3 h1 h2 h3, Lib.decodeL_N]
    simp only [List.cons_append, List.nil_append, List.getD_cons_zero, List.getD_cons_succ, u8n (224 + r / 4096) (by omega), u8n (128 + r / 64 % 64) (by omega), u8n (128 + r % 64) (by omega), Lib.decodeN, List.length_cons]
    have e : (224 + r / 4096) % 16 * 4096 + (128 + r / 64 % 64) % 64 * 64 + (128 + r % 64) % 64 = r := by omega
    rw [if_neg (by omega), if_neg (by omega), if_pos (by omega), e, if_pos (by omega)]
    simp
  · rw [encB4 h1 h2, Lib.decodeL_N]
    simp only [List.cons_append, List.nil_append, List.getD_cons_zero, List.getD_cons_succ, u8n (240 + r / 262144) (by omega), u8n (128 + r / 4096 % 64) (by omega), u8n (128 + r / 64 % 64) (by omega), u8n (128 + r % 64) (by omega), Lib.decodeN, List.length_cons]
    have e : (240 + r / 262144) % 8 * 262144 + (128 + r / 4096 % 64) % 64 * 4096 + (128 + r / 64 % 64) % 64 * 64 + (128 + r % 64) % 64 = r := by omega
    rw [if_neg (by omega), if_neg (by omega), if_neg (by omega), if_pos (by omega), e, if_pos (by omega)]
    simp

theorem begin_two {b : Int} (h1 : 194 ≤ b) (h2 : b ≤ 223) : (beginM b).missing = 1 ∧ (beginM b).low = 128 ∧ (beginM b).high = 191 := by
  unfold beginM; rw [if_pos ⟨h1, h2⟩]; exact ⟨rfl, rfl, rfl⟩
theorem begin_three {b : Int} (h1 : 224 ≤ b) (h2 : b ≤ 239) : (beginM b).missing = 2 ∧ (beginM b).low = (if b = 224 then 160 else 128) ∧ (beginM b).high = (if b = 237 then 159 else 191) := by
  unfold beginM; rw [if_neg (by omega), if_pos ⟨h1, h2⟩]; exact ⟨rfl, rfl, rfl⟩
theorem begin_four {b : Int} (h1 : 240 ≤ b) (h2 : b ≤ 244) : (beginM b).missing = 3 ∧ (beginM b).low = (if b = 240 then 144 else 128) ∧ (beginM b).high = (if b = 244 then 143 else 191) := by
  unfold beginM; rw [if_neg (by omega), if_neg (by omega), if_pos ⟨h1, h2⟩]; exact ⟨rfl, rfl, rfl⟩
theorem begin_none {b : Int} (h1 : ¬ (194 ≤ b ∧ b ≤ 223)) (h2 : ¬ (224 ≤ b ∧ b ≤ 239)) (h3 : ¬ (240 ≤ b ∧ b ≤ 244)) : (beginM b).missing = 0 := by
  unfold beginM; rw [if_neg h1, if_neg h2, if_neg h3]
theorem begin_which (b : Int) : (194 ≤ b ∧ b ≤ 223) ∨ (224 ≤ b ∧ b ≤ 239) ∨ (240 ≤ b ∧ b ≤ 244) ∨ (beginM b).missing = 0 := by
  by_cases h1 : 194 ≤ b ∧ b ≤ 223
  · exact .inl h1
  by_cases h2 : 224 ≤ b ∧ b ≤ 239
  · exact .inr (.inl h2)
  by_cases h3 : 240 ≤ b ∧ b ≤ 244
  · exact .inr (.inr (.inl h3))
  · exact .inr (.inr (.inr (begin_none h1 h2 h3)))
theorem begin1 {b : Int} (h : (beginM b).missing = 1) : 194 ≤ b ∧ b ≤ 223 ∧ (beginM b).low = 128 ∧ (beginM b).high = 191 := by
  rcases begin_which b with k | k | k | k
  · exact ⟨k.1, k.2, (begin_two k.1 k.2).2⟩
  · have := (begin_three k.1 k.2).1; omega
  · have := (begin_four k.1 k.2).1; omega
  · omega
theorem begin2 {b : Int} (h : (beginM b).missing = 2) : 224 ≤ b ∧ b ≤ 239 ∧ (beginM b).low = (if b = 224 then 160 else 128) ∧ (beginM b).high = (if b = 237 then 159 else 191) := by
  rcases begin_which b with k | k | k | k
  · have := (begin_two k.1 k.2).1; omega
  · exact ⟨k.1, k.2, (begin_three k.1 k.2).2⟩
  · have := (begin_four k.1 k.2).1; omega
  · omega
theorem begin3 {b : Int} (h : (beginM b).missing = 3) : 240 ≤ b ∧ b ≤ 244 ∧ (beginM b).low = (if b = 240 then 144 else 128) ∧ (beginM b).high = (if b = 244 then 143 else 191) := by
  rcases begin_which b with k | k | k | k
  · have := (begin_two k.1 k.2).1; omega
  · have := (begin_three k.1 k.2).1; omega
  · exact ⟨k.1, k.2, (begin_four k.1 k.2).2⟩
  · omega
theorem u8e {a b : UInt8} (h : a.toNat = b.toNat) : a = b := UInt8.toNat_inj.1 h
theorem seq_enc {p : List UInt8} (hp : OkSeq p) : ∃ c, charB c = true ∧ p = encB c := by
  cases hp with
  | @one b h =>
    refine ⟨(b.toNat : Nat), by rw [charB_iff]; omega, ?_⟩
    rw [encB1 h]; simp
  | @two b c h1 h2 h3 =>
    obtain ⟨k1, k2, k3, k4⟩ := begin1 h1
    rw [k3] at h2; rw [k4] at h3
    unfold bt at *
    obtain ⟨r, hr⟩ : ∃ r, r = (b.toNat - 192) * 64 + (c.toNat - 128) := ⟨_, rfl⟩
    refine ⟨(r : Nat), by rw [charB_iff]; omega, ?_⟩
    rw [encB2 (by omega) (by omega)]
    congr 1
    · apply u8e; rw [u8n _ (by omega)]; omega
    · congr 1; apply u8e; rw [u8n _ (by omega)]; omega
  | @three b c d h1 h2 h3 h4 h5 =>
    obtain ⟨k1, k2, k3, k4⟩ := begin2 h1
    rw [k3] at h2; rw [k4] at h3
    unfold bt at *
    obtain ⟨r, hr⟩ : ∃ r, r = (b.toNat - 224) * 4096 + (c.toNat - 128) * 64 + (d.toNat - 128) := ⟨_, rfl⟩
    have hb : (2048 ≤ r ∧ r < 65536) ∧ (r < 55296 ∨ 57344 ≤ r) := by
      split at h2 <;> split at h3 <;> omega
    have hc : 128 ≤ c.toNat := by split at h2 <;> omega
    have hc2 : c.toNat ≤ 191 := by split at h3 <;> omega
    refine ⟨(r : Nat), by rw [charB_iff]; omega, ?_⟩
    rw [encB3 hb.1.1 hb.1.2 hb.2]
    congr 1
    · apply u8e; rw [u8n _ (by omega)]; omega
    congr 1
    · apply u8e; rw [u8n _ (by omega)]; omega
    · congr 1; apply u8e; rw [u8n _ (by omega)]; omega
  | @four b c d f h1 h2 h3 h4 h5 h6 h7 =>
    obtain ⟨k1, k2, k3, k4⟩ := begin3 h1
    rw [k3] at h2; rw [k4] at h3
    unfold bt at *
    obtain ⟨r, hr⟩ : ∃ r, r = (b.toNat - 240) * 262144 + (c.toNat - 128) * 4096 + (d.toNat - 128) * 64 + (f.toNat - 128) := ⟨_, rfl⟩
    have hb : 65536 ≤ r ∧ r ≤ 1114111 := by
      split at h2 <;> split at h3 <;> omega
    have hc : 128 ≤ c.toNat := by split at h2 <;> omega
    have hc2 : c.toNat ≤ 191 := by split at h3 <;> omega
    refine ⟨(r : Nat), by rw [charB_iff]; omega, ?_⟩
    rw [encB4 hb.1 hb.2]
    congr 1
    · apply u8e; rw [u8n _ (by omega)]; omega
    congr 1
    · apply u8e; rw [u8n _ (by omega)]; omega
    congr 1
    · apply u8e; rw [u8n _ (by omega)]; omega
    · congr 1; apply u8e; rw [u8n _ (by omega)]; omega
theorem enc_seq {c : Int} (h : charB c = true) : OkSeq (encB c) := by
  obtain ⟨r, rfl, h1 | ⟨h1, h2⟩ | ⟨h1, h2, h3⟩ | ⟨h1, h2⟩⟩ := char_cases h
  · rw [encB1 h1]; exact .one (by rw [u8n _ (by omega)]; exact h1)
  · rw [encB2 h1 h2]
    have e1 := u8n (192 + r / 64) (by omega)
    have e2 := u8n (128 + r % 64) (by omega)
    obtain ⟨k1, k2, k3⟩ := begin_two (b := bt (UInt8.ofNat (192 + r / 64))) (by unfold bt; omega) (by unfold bt; omega)
    exact .two k1 (by rw [k2]; unfold bt; omega) (by rw [k3]; unfold bt; omega)
  · rw [encB3 h1 h2 h3]
    have e1 := u8n (224 + r / 4096) (by omega)
    have e2 := u8n (128 + r / 64 % 64) (by omega)
    have e3 := u8n (128 + r % 64) (by omega)
    obtain ⟨k1, k2, k3⟩ := begin_three (b := bt (UInt8.ofNat (224 + r / 4096))) (by unfold bt; omega) (by unfold bt; omega)
    refine .three k1 (by rw [k2]; unfold bt; rw [e1, e2]; split <;> omega) (by rw [k3]; unfold bt; rw [e1, e2]; split <;> omega) (by unfold bt; omega) (by unfold bt; omega)
  · rw [encB4 h1 h2]
    have e1 := u8n (240 + r / 262144) (by omega)
    have e2 := u8n (128 + r / 4096 % 64) (by omega)
    have e3 := u8n (128 + r / 64 % 64) (by omega)
    have e4 := u8n (128 + r % 64) (by omega)
    obtain ⟨k1, k2, k3⟩ := begin_four (b := bt (UInt8.ofNat (240 + r / 262144))) (by unfold bt; omega) (by unfold bt; omega)
    refine .four k1 (by rw [k2]; unfold bt; rw [e1, e2]; split <;> omega) (by rw [k3]; unfold bt; rw [e1, e2]; split <;> omega) (by unfold bt; omega) (by unfold bt; omega) (by unfold bt; omega) (by unfold bt; omega)

def encS (l : List Int) : List UInt8 := l.flatMap encB
theorem encS_cons (c : Int) (l : List Int) : encS (c :: l) = encB c ++ encS l := rfl
theorem encS_append (l m : List Int) : encS (l ++ m) = encS l ++ encS m := by simp [encS]
def Chars (l : List Int) : Prop := ∀ c, c ∈ l → charB c = true
theorem Chars.cons {c : Int} {l : List Int} (h : Chars (c :: l)) : charB c = true ∧ Chars l := ⟨h c (by simp), fun d hd => h d (by simp [hd])⟩
theorem Chars.append {l m : List Int} (h : Chars l) (k : Chars m) : Chars (l ++ m) := fun c hc => (List.mem_append.1 hc).elim (h c) (k c)
theorem valid_enc : ∀ l : List Int, Chars l → Lib.validD (encS l) = true
  | [], _ => rfl
  | c :: l, h => by rw [encS_cons, valid_seq (enc_seq h.cons.1)]; exact valid_enc l h.cons.2
theorem valid_as {s : List UInt8} (h : Lib.validD s = true) : ∃ l, Chars l ∧ s = encS l := by
  refine valid_ind (P := fun s => ∃ l, Chars l ∧ s = encS l) ⟨[], fun c hc => (by cases hc), rfl⟩ (fun p r hp _ ⟨l, h1, h2⟩ => ?_) s.length s (Nat.le_refl _) h
  obtain ⟨c, hc, rfl⟩ := seq_enc hp
  exact ⟨c :: l, fun d hd => (List.mem_cons.1 hd).elim (fun e => e ▸ hc) (h1 d), by rw [encS_cons, h2]⟩
theorem encB_pos (c : Int) : 0 < (encB c).length := by
  unfold encB Utf8.encode
  simp only
  split
  · split <;> (try split) <;> (try split) <;> simp
  · split <;> (try split) <;> (try split) <;> simp
theorem len_enc : ∀ l : List Int, l.length ≤ (encS l).length
  | [] => Nat.le_refl _
  | c :: l => by have := len_enc l; have := encB_pos c; rw [encS_cons, List.length_append, List.length_cons]; omega

theorem runes_from (pre : List UInt8) : ∀ (l : List Int) (done : List UInt8) (bound : Nat) (acc : Array Value), Chars l → pre = done ++ encS l → (encS l).length ≤ bound →
    (Conv.runesFrom ⟨pre.toArray⟩ bound done.length acc).toList = acc.toList ++ l.map (Value.int .i32)
  | [], done, bound, acc, _, e, _ => by
    have hs : ¬ done.length < (⟨pre.toArray⟩ : ByteArray).size := by rw [e]; simp [encS, ByteArray.size]
    cases bound with
    | zero => simp [Conv.runesFrom]
    | succ b => rw [Conv.runesFrom, if_neg hs]; simp
  | c :: l, done, bound, acc, hc, e, hb => by
    have hp := encB_pos c
    rw [encS_cons, List.length_append] at hb
    obtain ⟨b, rfl⟩ : ∃ b, bound = b + 1 := ⟨bound - 1, by omega⟩
    have hs : done.length < (⟨pre.toArray⟩ : ByteArray).size := by rw [e, encS_cons]; simp [ByteArray.size]; omega
    have hd : Utf8.decode ⟨pre.toArray⟩ done.length = (c.toNat, (encB c).length) := by
      rw [← Lib.decodeL_drop]
      have : (⟨pre.toArray⟩ : ByteArray).data.toList.drop done.length = encB c ++ encS l := by simp [e, encS_cons]
      rw [this, dec_enc hc.cons.1]
    have hn : (Int.ofNat c.toNat) = c := by
      have := hc.cons.1
      rw [charB_iff] at this
      simp; omega
    rw [Conv.runesFrom, if_pos hs, hd]
    simp only [hn]
    have := runes_from pre l (done ++ encB c) b (acc.push (.int .i32 c)) hc.cons.2 (by rw [e, encS_cons]; simp) (by omega)
    rw [List.length_append] at this
    rw [this]; simp
theorem runes_enc {l : List Int} (h : Chars l) : Nv.runesD (encS l) = l.map (DV.int .i32) := by
  have := runes_from (encS l) l [] (encS l).length #[] h rfl (Nat.le_refl _)
  unfold Nv.runesD
  simp only [List.length_nil] at this
  rw [this]
  simp [Nv.valD, List.map_map, Function.comp_def]

/- a character among others -/
def ints (l : List UInt8) : List Int := l.map fun b => (b.toNat : Int)
theorem contains_enc {c : Int} (h : charB c = true) : ∀ sp : List UInt8, (∀ b, b ∈ sp → b.toNat < 128) → Lib.contains sp (encB c) = decide (c ∈ ints sp) := by
  have key : ∀ sp : List UInt8, (∀ b, b ∈ sp → b.toNat < 128) → -1 ≤ Lib.index sp (encB c) ∧ (0 ≤ Lib.index sp (encB c) ↔ c ∈ ints sp) := by
    intro sp
    have hne : (encB c).isEmpty = false := by
      have := encB_pos c
      cases he : encB c with
      | nil => rw [he] at this; simp at this
      | cons => rfl
    induction sp with
    | nil => intro _; simp [Lib.index, hne, ints]
    | cons b sp ih =>
      intro hb
      obtain ⟨i1, i2⟩ := ih fun d hd => hb d (by simp [hd])
      have hpre : (encB c).isPrefixOf (b :: sp) = decide (c = (b.toNat : Int)) := by
        have hb' := hb b (by simp)
        obtain ⟨r, rfl, h1 | ⟨h1, h2⟩ | ⟨h1, h2, h3⟩ | ⟨h1, h2⟩⟩ := char_cases h
        · rw [encB1 h1]
          simp only [List.isPrefixOf, Bool.and_true]
          rw [Bool.eq_iff_iff, beq_iff_eq, decide_eq_true_eq]
          constructor
          · intro e; rw [← e, u8n _ (by omega)]
          · intro e; apply u8e; rw [u8n _ (by omega)]; omega
        · have e1 := u8n (192 + r / 64) (by omega)
          have : ¬ (UInt8.ofNat (192 + r / 64)) = b := fun e => by rw [e] at e1; omega
          have hbf : (UInt8.ofNat (192 + r / 64) == b) = false := beq_eq_false_iff_ne.2 this
          rw [encB2 h1 h2]; simp only [List.isPrefixOf, hbf, Bool.false_and]; rw [eq_comm, decide_eq_false_iff_not]; omega
        · have e1 := u8n (224 + r / 4096) (by omega)
          have : ¬ (UInt8.ofNat (224 + r / 4096)) = b := fun e => by rw [e] at e1; omega
          have hbf : (UInt8.ofNat (224 + r / 4096) == b) = false := beq_eq_false_iff_ne.2 this
          rw [encB3 h1 h2 h3]; simp only [List.isPrefixOf, hbf, Bool.false_and]; rw [eq_comm, decide_eq_false_iff_not]; omega
        · have e1 := u8n (240 + r / 262144) (by omega)
          have : ¬ (UInt8.ofNat (240 + r / 262144)) = b := fun e => by rw [e] at e1; omega
          have hbf : (UInt8.ofNat (240 + r / 262144) == b) = false := beq_eq_false_iff_ne.2 this
          rw [encB4 h1 h2]; simp only [List.isPrefixOf, hbf, Bool.false_and]; rw [eq_comm, decide_eq_false_iff_not]; omega
      rw [Lib.index, hpre]
      by_cases he : c = (b.toNat : Int)
      · simp [he, ints]
      · simp only [he, decide_false, Bool.false_eq_true, if_false, beq_iff_eq]
        have em : c ∈ ints (b :: sp) ↔ c ∈ ints sp := by simp [ints, he]
        rw [em, ← i2]
        split <;> omega
  intro sp hsp
  rw [Lib.contains]
  exact decide_eq_decide.2 (key sp hsp).2
end Go.Proofs.YtebejiilpedlmaaGreatDoor
set_option linter.unusedVariables false
set_option linter.unusedSimpArgs false
set_option maxRecDepth 100000
namespace Go.Proofs.YtebejiilpedlmaaGreatDoor
open Go Nv Pat

/- The characters of a text that was written of characters. -/
def valL : List UInt8 → Int
  | [] => 0
  | [b] => bt b
  | b :: l => (l.map bt).foldl valM (beginM (bt b)).value
theorem seq_out {p : List UInt8} (hp : OkSeq p) : (decM p).out = [valL p] := by
  cases hp with
  | @one b h =>
    have h1 : ¬ goesOn dec0.q (bt b) := fun g => by have := g.1; simp [dec0] at this
    have e : stepD dec0 0 (bt b) = ⟨[bt b], beginM (bt b), 0⟩ := by
      unfold stepD; rw [if_neg h1]
      simp only [dec0, show ¬ (0 : Int) < 0 by omega, if_false, show bt b < 128 by unfold bt; omega, if_true, List.nil_append]
    show (stepD dec0 0 (bt b)).out = _
    rw [e]; rfl
  | @two b c h1 h2 h3 =>
    have e : decM [b, c] = stepD (stepD dec0 0 (bt b)) 1 (bt c) := rfl
    rw [step0 b (by omega), stepD, if_pos (show goesOn (beginM (bt b)) (bt c) from ⟨by omega, h2, h3⟩)] at e
    simp only [h1, show (1 : Int) - 1 = 0 by omega, if_true] at e
    rw [e]; rfl
  | @three b c d h1 h2 h3 h4 h5 =>
    have e : decM [b, c, d] = stepD (stepD (stepD dec0 0 (bt b)) 1 (bt c)) 2 (bt d) := rfl
    rw [step0 b (by omega), stepD, stepD, if_pos (show goesOn (beginM (bt b)) (bt c) from ⟨by omega, h2, h3⟩)] at e
    simp only [h1, show ¬ (2 : Int) - 1 = 0 by omega, if_false] at e
    rw [if_pos (show goesOn (more (beginM (bt b)) (bt c)) (bt d) from ⟨by simp only [more]; omega, h4, h5⟩)] at e
    simp only [more, h1, show (2 : Int) - 1 - 1 = 0 by omega, if_true] at e
    rw [e]; rfl
  | @four b c d f h1 h2 h3 h4 h5 h6 h7 =>
    have e : decM [b, c, d, f] = stepD (stepD (stepD (stepD dec0 0 (bt b)) 1 (bt c)) 2 (bt d)) 3 (bt f) := rfl
    rw [step0 b (by omega), stepD, stepD, stepD, if_pos (show goesOn (beginM (bt b)) (bt c) from ⟨by omega, h2, h3⟩)] at e
    simp only [h1, show ¬ (3 : Int) - 1 = 0 by omega, if_false] at e
    rw [if_pos (show goesOn (more (beginM (bt b)) (bt c)) (bt d) from ⟨by simp only [more]; omega, h4, h5⟩)] at e
    simp only [more, h1, show ¬ (3 : Int) - 1 - 1 = 0 by omega, if_false] at e
    rw [if_pos (show goesOn ⟨_, 3 - 1 - 1, 128, 191⟩ (bt f) from ⟨by simp, h6, h7⟩)] at e
    simp only [show (3 : Int) - 1 - 1 - 1 = 0 by omega, if_true] at e
    rw [e]; rfl

theorem m8_63 : ∀ y : Fin 64, m8 (128 + (y.val : Int)) 63 = y.val := by decide +kernel
theorem m8_31 : ∀ y : Fin 32, m8 (192 + (y.val : Int)) 31 = y.val := by decide +kernel
theorem m8_15 : ∀ y : Fin 16, m8 (224 + (y.val : Int)) 15 = y.val := by decide +kernel
theorem m8_7 : ∀ y : Fin 8, m8 (240 + (y.val : Int)) 7 = y.val := by decide +kernel
theorem val_more (x y : Nat) (hx : x < 1048576) (hy : y < 64) : valM (x : Int) (128 + (y : Int)) = ((64 * x + y : Nat) : Int) := by
  unfold valM
  rw [m8_63 ⟨y, hy⟩, show (2 : Int) ^ min 6 32 = 64 by decide, wrap_i32 (n := (x : Int) * 64) (by omega) (by omega)]
  have e : (BitVec.ofInt 32 ((x : Int) * 64) ||| BitVec.ofInt 32 ((y : Nat) : Int)).toNat = 64 * x + y := by
    have h1 : (x : Int) * 64 = ((64 * x : Nat) : Int) := by omega
    rw [h1, BitVec.ofInt_natCast, BitVec.ofInt_natCast, BitVec.toNat_or, BitVec.toNat_ofNat, BitVec.toNat_ofNat, Nat.mod_eq_of_lt (by omega), Nat.mod_eq_of_lt (by omega)]
    exact (Nat.two_pow_add_eq_or_of_lt (i := 6) hy x).symm
  exact (congrArg (fun z : Nat => IntKind.i32.wrap (z : Int)) e).trans (wrap_i32 (by omega) (by omega))
theorem bt_of (n : Nat) (h : n < 256) : bt (UInt8.ofNat n) = (n : Int) := by unfold bt; rw [u8n n h]
theorem val_enc {c : Int} (h : charB c = true) : valL (encB c) = c := by
  obtain ⟨r, rfl, h1 | ⟨h1, h2⟩ | ⟨h1, h2, h3⟩ | ⟨h1, h2⟩⟩ := char_cases h
  · rw [encB1 h1, valL, bt_of _ (by omega)]
  · have e : (beginM (192 + ((r / 64 : Nat) : Int))).value = ((r / 64 : Nat) : Int) := by
      rw [beginM, if_pos (by omega)]; exact m8_31 ⟨r / 64, by omega⟩
    rw [encB2 h1 h2, valL]
    · simp only [List.map_cons, List.map_nil, List.foldl_cons, List.foldl_nil]
      rw [bt_of _ (by omega), bt_of _ (by omega), show ((192 + r / 64 : Nat) : Int) = 192 + ((r / 64 : Nat) : Int) by omega, e,
        show ((128 + r % 64 : Nat) : Int) = 128 + ((r % 64 : Nat) : Int) by omega, val_more _ _ (by omega) (by omega)]
      omega
    · simp
  · have e : (beginM (224 + ((r / 4096 : Nat) : Int))).value = ((r / 4096 : Nat) : Int) := by
      rw [beginM, if_neg (by omega), if_pos (by omega)]; exact m8_15 ⟨r / 4096, by omega⟩
    rw [encB3 h1 h2 h3, valL]
    · simp only [List.map_cons, List.map_nil, List.foldl_cons, List.foldl_nil]
      rw [bt_of _ (by omega), bt_of _ (by omega), bt_of _ (by omega), show ((224 + r / 4096 : Nat) : Int) = 224 + ((r / 4096 : Nat) : Int) by omega, e,
        show ((128 + r / 64 % 64 : Nat) : Int) = 128 + ((r / 64 % 64 : Nat) : Int) by omega, show ((128 + r % 64 : Nat) : Int) = 128 + ((r % 64 : Nat) : Int) by omega,
        val_more _ _ (by omega) (by omega), val_more _ _ (by omega) (by omega)]
      omega
    · simp
  · have e : (beginM (240 + ((r / 262144 : Nat) : Int))).value = ((r / 262144 : Nat) : Int) := by
      rw [beginM, if_neg (by omega), if_neg (by omega), if_pos (by omega)]; exact m8_7 ⟨r / 262144, by omega⟩
    rw [encB4 h1 h2, valL]
    · simp only [List.map_cons, List.map_nil, List.foldl_cons, List.foldl_nil]
      rw [bt_of _ (by omega), bt_of _ (by omega), bt_of _ (by omega), bt_of _ (by omega), show ((240 + r / 262144 : Nat) : Int) = 240 + ((r / 262144 : Nat) : Int) by omega, e,
        show ((128 + r / 4096 % 64 : Nat) : Int) = 128 + ((r / 4096 % 64 : Nat) : Int) by omega, show ((128 + r / 64 % 64 : Nat) : Int) = 128 + ((r / 64 % 64 : Nat) : Int) by omega, show ((128 + r % 64 : Nat) : Int) = 128 + ((r % 64 : Nat) : Int) by omega,
        val_more _ _ (by omega) (by omega), val_more _ _ (by omega) (by omega), val_more _ _ (by omega) (by omega)]
      omega
    · simp
theorem chars_enc1 {c : Int} (h : charB c = true) : charsM (encB c) = [c] := by
  have hs := enc_seq h
  rw [chars_closed (seq_dec hs).1, seq_out hs, val_enc h]
theorem chars_enc2 {c : Int} (h : charB c = true) : charsM (encB c ++ encB c) = [c, c] := by
  rw [chars_append (seq_dec (enc_seq h)).1, chars_enc1 h]; rfl

/-- A set holds the texts of one of its characters. -/
theorem lang_set (s : List (Int × Int)) (w : List Int) : Lang (.mk 2 s [] 0 0) w ↔ ∃ c, w = [c] ∧ InSet s c := by simp [Lang]
theorem match_one {s : List (Int × Int)} {c : Int} (h : charB c = true) (hs : chkE (.mk 2 s [] 0 0) = 0) : matchB (.mk 2 s [] 0 0) (encB c) = true ↔ InSet s c := by
  rw [matchB_iff, chars_enc1 h, lang_set]
  constructor
  · rintro ⟨_, d, hd, hin⟩; simp at hd; rw [hd]; exact hin
  · intro hin; exact ⟨hs, c, rfl, hin⟩
theorem match_none (s : List (Int × Int)) : matchB (.mk 2 s [] 0 0) [] = false := by
  rw [← Bool.not_eq_true, matchB_iff, chars_nil, lang_set]
  rintro ⟨_, d, hd, _⟩; cases hd
theorem match_two (s : List (Int × Int)) {c : Int} (h : charB c = true) : matchB (.mk 2 s [] 0 0) (encB c ++ encB c) = false := by
  rw [← Bool.not_eq_true, matchB_iff, chars_enc2 h, lang_set]
  rintro ⟨_, d, hd, _⟩; simp at hd
end Go.Proofs.YtebejiilpedlmaaGreatDoor
set_option linter.unusedVariables false
set_option linter.unusedSimpArgs false
set_option maxRecDepth 100000
namespace Go.Proofs.YtebejiilpedlmaaGreatDoor
open Go Nv Pat

/- The reference's decoder as a function, and the program's. -/
def refStep0 (out : List Int) (b : Int) : List Int × List Int := if b < 128 then (out ++ [b], []) else if 0 < sizeX b then (out, [b]) else (out ++ [65533], [])
def refStep (st : List Int × List Int) (b : Int) : List Int × List Int :=
  match st.2 with
  | [] => refStep0 st.1 b
  | x :: r =>
    if b < lowX x r.length ∨ highX x r.length < b then refStep0 (st.1 ++ [65533]) b
    else if (r.length : Int) + 2 = sizeX x then (st.1 ++ [vals (x - baseX (r.length + 1)) (r ++ [b])], []) else (st.1, x :: (r ++ [b]))
def lead (x : Int) : Bool := decide ((beginM x).value = x - baseX (sizeX x - 1).toNat) && decide ((beginM x).missing = sizeX x - 1) && decide (194 ≤ x) && decide (x ≤ 244) && decide (2 ≤ sizeX x) && decide (sizeX x ≤ 4) && decide (0 ≤ x - baseX (sizeX x - 1).toNat) && decide (x - baseX (sizeX x - 1).toNat < 32)
theorem lead_all : ∀ y : Fin 256, 0 < sizeX (y.val : Int) → lead (y.val : Int) = true := by decide +kernel
theorem lead_of {x : Int} (h0 : 0 ≤ x) (h1 : x ≤ 255) (h : 0 < sizeX x) : (beginM x).value = x - baseX (sizeX x - 1).toNat ∧ (beginM x).missing = sizeX x - 1 ∧ 194 ≤ x ∧ x ≤ 244 ∧ 2 ≤ sizeX x ∧ sizeX x ≤ 4 ∧ 0 ≤ x - baseX (sizeX x - 1).toNat ∧ x - baseX (sizeX x - 1).toNat < 32 := by
  have := lead_all ⟨x.toNat, by omega⟩
  simp only [show ((x.toNat : Nat) : Int) = x by omega] at this
  have := this h
  simp only [lead, Bool.and_eq_true, decide_eq_true_eq] at this
  obtain ⟨⟨⟨⟨⟨⟨⟨a1, a2⟩, a3⟩, a4⟩, a5⟩, a6⟩, a7⟩, a8⟩ := this
  exact ⟨a1, a2, a3, a4, a5, a6, a7, a8⟩
def Fits (k : List Int) (q : Sq) : Prop :=
  match k with
  | [] => q.missing = 0
  | x :: r => (0 ≤ x ∧ x ≤ 255) ∧ 0 < sizeX x ∧ q.missing = sizeX x - (r.length + 1) ∧ 0 < q.missing ∧ q.low = lowX x r.length ∧ q.high = highX x r.length ∧ (∀ b, b ∈ r → 128 ≤ b ∧ b ≤ 191) ∧ q.value = vals (x - baseX (sizeX x - 1).toNat) r
theorem size_zero {b : Int} (h : ¬ 0 < sizeX b) : (beginM b).missing = 0 := by
  have := (begin_miss b).1
  unfold sizeX at h
  split at h
  · assumption
  · omega
theorem fits0 (out : List Int) (b : Int) (h0 : 0 ≤ b) (h1 : b ≤ 255) (out' : List Int) (ho : out' = out) :
    (refStep0 out b).1 = (if b < 128 then out' ++ [b] else if (beginM b).missing = 0 then out' ++ [65533] else out') ∧ Fits (refStep0 out b).2 (beginM b) := by
  subst ho
  unfold refStep0
  by_cases hb : b < 128
  · rw [if_pos hb, if_pos hb]
    refine ⟨rfl, ?_⟩
    have : ¬ 0 < sizeX b := fun h => by have := lead_of h0 h1 h; omega
    exact size_zero this
  · rw [if_neg hb, if_neg hb]
    by_cases hs : 0 < sizeX b
    · have := lead_of h0 h1 hs
      rw [if_pos hs, if_neg (by omega)]
      refine ⟨rfl, ⟨h0, h1⟩, hs, by simp; omega, by omega, rfl, rfl, by simp, ?_⟩
      rw [this.1]; rfl
    · rw [if_neg hs, if_pos (size_zero hs)]
      exact ⟨rfl, size_zero hs⟩
theorem val_step {v b : Int} (h0 : 0 ≤ v) (h1 : v < 1048576) (hb : 128 ≤ b ∧ b ≤ 191) : valM v b = v * 64 + b - 128 := by
  have := val_more v.toNat (b - 128).toNat (by omega) (by omega)
  rw [show ((v.toNat : Nat) : Int) = v by omega, show 128 + (((b - 128).toNat : Nat) : Int) = b by omega] at this
  rw [this]; omega
theorem range_ok {x : Int} (h0 : 0 ≤ x) (h1 : x ≤ 255) (h : 0 < sizeX x) (n : Nat) {b : Int} (hb : lowX x n ≤ b ∧ b ≤ highX x n) : 128 ≤ b ∧ b ≤ 191 := by
  have hl := lead_of h0 h1 h
  unfold lowX highX at hb
  split at hb
  · unfold beginM at hb
    repeat' split at hb
    all_goals (simp only at hb; omega)
  · omega
theorem fits_step {out k : List Int} {d : Dec} (ho : d.out = out) (hk : Fits k d.q) (i : Nat) {b : Int} (h0 : 0 ≤ b) (h1 : b ≤ 255) :
    (stepD d i b).out = (refStep (out, k) b).1 ∧ Fits (refStep (out, k) b).2 (stepD d i b).q := by
  cases k with
  | nil =>
    have hq : d.q.missing = 0 := hk
    have h2 := fits0 out b h0 h1 d.out ho
    unfold stepD
    rw [if_neg (fun g => by have := g.1; omega)]
    simp only [show ¬ 0 < d.q.missing by omega, if_false]
    exact ⟨h2.1.symm, h2.2⟩
  | cons x r =>
    obtain ⟨⟨hx0, hx1⟩, hs, hm, hm0, hlo, hhi, hr, hv⟩ := hk
    have hl := lead_of hx0 hx1 hs
    simp only [refStep]
    by_cases hin : b < lowX x r.length ∨ highX x r.length < b
    · have h2 := fits0 (out ++ [65533]) b h0 h1 (d.out ++ [65533]) (by rw [ho])
      rw [if_pos hin]
      unfold stepD
      rw [if_neg (fun g => by have := g.2; rw [hlo, hhi] at this; omega)]
      simp only [hm0, if_true]
      exact ⟨h2.1.symm, h2.2⟩
    · rw [if_neg hin]
      have hbr := range_ok hx0 hx1 hs r.length (b := b) (by omega)
      have hvo := vals_ok r 0 (x - baseX (sizeX x - 1).toNat) hl.2.2.2.2.2.2.1 (by have := hl.2.2.2.2.2.2.2; omega) hr
      have hpow : (64 : Int) ^ (0 + r.length) ≤ 4096 := by
        have : r.length ≤ 2 := by omega
        match r.length, this with
        | 0, _ => decide
        | 1, _ => decide
        | 2, _ => decide
      have hval : valM d.q.value b = vals (x - baseX (sizeX x - 1).toNat) (r ++ [b]) := by
        rw [vals_snoc, hv, val_step (by omega) (by omega) hbr]
      unfold stepD
      rw [if_pos (show goesOn d.q b from ⟨hm0, by omega, by omega⟩)]
      by_cases hend : (r.length : Int) + 2 = sizeX x
      · rw [if_pos hend]
        simp only [show d.q.missing - 1 = 0 by omega, if_true]
        refine ⟨?_, ?_⟩
        · rw [ho, hval, show (sizeX x - 1).toNat = r.length + 1 by omega]
        · show d.q.missing - 1 = 0; omega
      · rw [if_neg hend]
        simp only [show ¬ d.q.missing - 1 = 0 by omega, if_false]
        refine ⟨ho, ⟨hx0, hx1⟩, hs, ?_, ?_, ?_, ?_, ?_, hval⟩
        · simp only [more, List.length_append, List.length_singleton]; omega
        · simp only [more]; omega
        · simp [more, lowX]
        · simp [more, highX]
        · intro y hy
          rcases List.mem_append.1 hy with hy | hy
          · exact hr y hy
          · simp at hy; rw [hy]; exact hbr

/-- The reference's state behind some bytes. -/
def refD (l : List UInt8) (st : List Int × List Int) : List Int × List Int := (l.map bt).foldl refStep st
/-- What is kept is what the program would hand back as the rest. -/
def Kept (pre : List UInt8) (k : List Int) (d : Dec) : Prop := k ≠ [] → d.start ≤ pre.length ∧ (pre.drop d.start).map bt = k
theorem bt_range (b : UInt8) : 0 ≤ bt b ∧ bt b ≤ 255 := by have := b.toNat_lt; unfold bt; omega
theorem step0_kept (out : List Int) (b : Int) : (refStep0 out b).2 = [] ∨ (refStep0 out b).2 = [b] := by
  unfold refStep0; split
  · exact .inl rfl
  · split
    · exact .inr rfl
    · exact .inl rfl
theorem kept_step {pre : List UInt8} {out k : List Int} {d : Dec} (hk : Fits k d.q) (h : Kept pre k d) (b : UInt8) : Kept (pre ++ [b]) (refStep (out, k) (bt b)).2 (stepD d pre.length (bt b)) := by
  intro hne
  have hb := bt_range b
  have new : ∀ o : List Int, (refStep0 o (bt b)).2 ≠ [] → (refStep0 o (bt b)).2 = [bt b] := fun o hn => (step0_kept o (bt b)).resolve_left hn
  cases k with
  | nil =>
    have hq : d.q.missing = 0 := hk
    have e := new out hne
    have es : (stepD d pre.length (bt b)).start = pre.length := by unfold stepD; rw [if_neg (fun g => by have := g.1; omega)]
    rw [es]
    exact ⟨by simp, by rw [List.drop_left]; exact e.symm⟩
  | cons x r =>
    obtain ⟨⟨hx0, hx1⟩, hs, hm, hm0, hlo, hhi, hr, hv⟩ := hk
    obtain ⟨h1, h2⟩ := h (by simp)
    simp only [refStep] at hne ⊢
    by_cases hin : bt b < lowX x r.length ∨ highX x r.length < bt b
    · rw [if_pos hin] at hne ⊢
      have e := new (out ++ [65533]) hne
      have es : (stepD d pre.length (bt b)).start = pre.length := by unfold stepD; rw [if_neg (fun g => by have := g.2; rw [hlo, hhi] at this; omega)]
      rw [es]
      exact ⟨by simp, by rw [List.drop_left]; exact e.symm⟩
    · rw [if_neg hin] at hne ⊢
      have es : (stepD d pre.length (bt b)).start = d.start := by unfold stepD; rw [if_pos (show goesOn d.q (bt b) from ⟨hm0, by omega, by omega⟩)]
      rw [es]
      by_cases hend : (r.length : Int) + 2 = sizeX x
      · rw [if_pos hend] at hne; exact absurd rfl hne
      · rw [if_neg hend] at hne ⊢
        refine ⟨by simp; omega, ?_⟩
        rw [List.drop_append_of_le_length h1, List.map_append, h2]; rfl
theorem ref_dec : ∀ (l pre : List UInt8) (out k : List Int) (d : Dec), d.out = out → Fits k d.q → Kept pre k d →
    (decL l pre.length d).out = (refD l (out, k)).1 ∧ Fits (refD l (out, k)).2 (decL l pre.length d).q ∧ Kept (pre ++ l) (refD l (out, k)).2 (decL l pre.length d)
  | [], pre, out, k, d, h1, h2, h3 => by rw [List.append_nil]; exact ⟨h1, h2, h3⟩
  | b :: l, pre, out, k, d, h1, h2, h3 => by
    have hb := bt_range b
    have a1 := fits_step h1 h2 pre.length hb.1 hb.2
    have a2 := kept_step (out := out) h2 h3 b
    have := ref_dec l (pre ++ [b]) (refStep (out, k) (bt b)).1 (refStep (out, k) (bt b)).2 _ a1.1 a1.2 a2
    rw [List.length_append, List.length_singleton, List.append_assoc, List.singleton_append] at this
    exact this
/-- The reference decodes as the program does. -/
theorem ref_decM (s : List UInt8) : (refD s ([], [])).1 = (decM s).out ∧ (refD s ([], [])).2 = (restM s).map bt := by
  obtain ⟨h1, h2, h3⟩ := ref_dec s [] [] [] dec0 rfl rfl (fun h => absurd rfl h)
  refine ⟨h1.symm, ?_⟩
  show _ = (restM s).map bt
  have h2' : Fits (refD s ([], [])).2 (decM s).q := h2
  unfold restM
  cases hk : (refD s ([], [])).2 with
  | nil =>
    rw [hk] at h2'
    rw [if_pos (show (decM s).q.missing = 0 from h2')]; rfl
  | cons x r =>
    rw [hk] at h2'
    obtain ⟨_, _, _, hm0, _⟩ := h2'
    rw [if_neg (by omega)]
    have := h3 (by rw [hk]; simp)
    rw [hk] at this
    exact this.2.symm
end Go.Proofs.YtebejiilpedlmaaGreatDoor
