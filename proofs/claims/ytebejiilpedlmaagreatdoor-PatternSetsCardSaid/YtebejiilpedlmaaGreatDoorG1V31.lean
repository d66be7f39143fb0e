/- Part of a proof about the functions of this seat. -/
import Derived.Test.YtebejiilpedlmaaGreatDoorQG31
import Derived.Lib.ValidLaws
import Derived.Test.YtebejiilpedlmaaGreatDoorVal31
import Derived.Test.YtebejiilpedlmaaGreatDoorBv31
set_option linter.unusedVariables false
set_option linter.unusedSimpArgs false
set_option maxRecDepth 100000
namespace Go.Proofs.YtebejiilpedlmaaGreatDoor
open Go Nv Pat

structure Sq where
  value : Int
  missing : Int
  low : Int
  high : Int
  deriving Inhabited
def Sq.avs (s : Sq) : List AV := [.d (.int .i32 s.value), .d (.int .i64 s.missing), .d (.int .u8 s.low), .d (.int .u8 s.high)]
def Sq.av (s : Sq) : AV := .agg s.avs

def m8 (b m : Int) : Int := ((BitVec.ofInt 8 b &&& BitVec.ofInt 8 m).toNat : Int)
def beginM (b : Int) : Sq :=
  if 194 ≤ b ∧ b ≤ 223 then ⟨m8 b 31, 1, 128, 191⟩
  else if 224 ≤ b ∧ b ≤ 239 then ⟨m8 b 15, 2, if b = 224 then 160 else 128, if b = 237 then 159 else 191⟩
  else if 240 ≤ b ∧ b ≤ 244 then ⟨m8 b 7, 3, if b = 240 then 144 else 128, if b = 244 then 143 else 191⟩
  else ⟨0, 0, 128, 191⟩

/-- One character, whole. -/
inductive OkSeq : List UInt8 → Prop
  | one {b : UInt8} : b.toNat < 128 → OkSeq [b]
  | two {b c : UInt8} : (beginM (bt b)).missing = 1 → (beginM (bt b)).low ≤ bt c → bt c ≤ (beginM (bt b)).high → OkSeq [b, c]
  | three {b c d : UInt8} : (beginM (bt b)).missing = 2 → (beginM (bt b)).low ≤ bt c → bt c ≤ (beginM (bt b)).high → 128 ≤ bt d → bt d ≤ 191 → OkSeq [b, c, d]
  | four {b c d e : UInt8} : (beginM (bt b)).missing = 3 → (beginM (bt b)).low ≤ bt c → bt c ≤ (beginM (bt b)).high → 128 ≤ bt d → bt d ≤ 191 → 128 ≤ bt e → bt e ≤ 191 → OkSeq [b, c, d, e]
theorem first_begin : ∀ b : Fin 256, 128 ≤ b.val →
    ((beginM (b.val : Int)).missing = 0 ∧ Lib.firstT b.val % 8 ≠ 2 ∧ Lib.firstT b.val % 8 ≠ 3 ∧ Lib.firstT b.val % 8 ≠ 4) ∨
    ((beginM (b.val : Int)).missing + 1 = (Lib.firstT b.val % 8 : Nat) ∧ (Lib.firstT b.val % 8 = 2 ∨ Lib.firstT b.val % 8 = 3 ∨ Lib.firstT b.val % 8 = 4) ∧
      (beginM (b.val : Int)).low = (Lib.accLo (Lib.firstT b.val / 16) : Nat) ∧ (beginM (b.val : Int)).high = (Lib.accHi (Lib.firstT b.val / 16) : Nat)) := by decide +kernel
theorem begin_first (b : UInt8) (h : 128 ≤ b.toNat) :
    ((beginM (bt b)).missing = 0 ∧ Lib.firstT b.toNat % 8 ≠ 2 ∧ Lib.firstT b.toNat % 8 ≠ 3 ∧ Lib.firstT b.toNat % 8 ≠ 4) ∨
    ((beginM (bt b)).missing + 1 = (Lib.firstT b.toNat % 8 : Nat) ∧ (Lib.firstT b.toNat % 8 = 2 ∨ Lib.firstT b.toNat % 8 = 3 ∨ Lib.firstT b.toNat % 8 = 4) ∧
      (beginM (bt b)).low = (Lib.accLo (Lib.firstT b.toNat / 16) : Nat) ∧ (beginM (bt b)).high = (Lib.accHi (Lib.firstT b.toNat / 16) : Nat)) :=
  first_begin ⟨b.toNat, b.toNat_lt⟩ h
theorem begin_big {b : UInt8} (h : (beginM (bt b)).missing ≠ 0) : 128 ≤ b.toNat := by
  rcases Nat.lt_or_ge b.toNat 128 with hb | hb
  · exact absurd (by unfold beginM bt; rw [if_neg (by omega), if_neg (by omega), if_neg (by omega)]) h
  · exact hb
theorem valid_seq {p : List UInt8} (hp : OkSeq p) (r : List UInt8) : Lib.validD (p ++ r) = Lib.validD r := by
  cases hp with
  | one h => exact Lib.validD_cons _ _ h
  | @two b c h1 h2 h3 =>
    have hb := begin_big (b := b) (by omega)
    rw [Lib.validD_lead _ (by simp) (by simpa using hb)]
    rcases begin_first b hb with ⟨k1, _⟩ | ⟨k1, k2, k3, k4⟩
    · omega
    · have e : Lib.firstT b.toNat % 8 = 2 := by omega
      unfold bt at h2 h3 k1 k3 k4
      simp only [List.cons_append, List.nil_append, List.getD_cons_zero, List.getD_cons_succ, List.length_cons, e, Lib.checkN, if_true]
      rw [if_neg (by unfold bt at *; omega)]
      simp
  | @three b c d h1 h2 h3 h4 h5 =>
    have hb := begin_big (b := b) (by omega)
    rw [Lib.validD_lead _ (by simp) (by simpa using hb)]
    rcases begin_first b hb with ⟨k1, _⟩ | ⟨k1, k2, k3, k4⟩
    · omega
    · have e : Lib.firstT b.toNat % 8 = 3 := by omega
      simp only [List.cons_append, List.nil_append, List.getD_cons_zero, List.getD_cons_succ, List.length_cons, e, Lib.checkN, if_true, show ¬ (3 : Nat) = 2 by omega, if_false]
      rw [if_neg (by unfold bt at *; omega)]
      simp
  | @four b c d f h1 h2 h3 h4 h5 h6 h7 =>
    have hb := begin_big (b := b) (by omega)
    rw [Lib.validD_lead _ (by simp) (by simpa using hb)]
    rcases begin_first b hb with ⟨k1, _⟩ | ⟨k1, k2, k3, k4⟩
    · omega
    · have e : Lib.firstT b.toNat % 8 = 4 := by omega
      simp only [List.cons_append, List.nil_append, List.getD_cons_zero, List.getD_cons_succ, List.length_cons, e, Lib.checkN, if_true, show ¬ (4 : Nat) = 2 by omega, show ¬ (4 : Nat) = 3 by omega, if_false]
      rw [if_neg (by unfold bt at *; omega)]
      simp
theorem valid_split {s : List UInt8} (h : Lib.validD s = true) (hne : s ≠ []) : ∃ p r, s = p ++ r ∧ OkSeq p ∧ Lib.validD r = true := by
  cases s with
  | nil => exact absurd rfl hne
  | cons b t =>
    rcases Nat.lt_or_ge b.toNat 128 with hb | hb
    · exact ⟨[b], t, rfl, .one hb, by rwa [Lib.validD_cons _ _ hb] at h⟩
    · rw [Lib.validD_lead _ (by simp) (by simpa using hb)] at h
      simp only [List.getD_cons_zero, List.getD_cons_succ, List.length_cons] at h
      rcases begin_first b hb with ⟨k1, k2, k3, k4⟩ | ⟨k1, k2, k3, k4⟩
      · simp only [Lib.checkN, k2, k3, k4, if_false] at h; exact absurd h (by simp)
      · rcases k2 with e | e | e
        · simp only [e, Lib.checkN, if_true] at h
          split at h
          · exact absurd h (by simp)
          · rename_i hk
            split at hk
            · cases hk
            · rename_i hc
              cases hk
              match t, hc with
              | [], hc => simp at hc
              | c :: t, hc =>
                simp only [List.getD_cons_zero, List.getD_cons_succ, List.length_cons] at hc
                refine ⟨[b, c], t, rfl, .two (by omega) ?_ ?_, by simpa using h⟩ <;> (unfold bt at *; omega)
        · simp only [e, Lib.checkN, if_true, show ¬ (3 : Nat) = 2 by omega, if_false] at h
          split at h
          · exact absurd h (by simp)
          · rename_i hk
            split at hk
            · cases hk
            · rename_i hc
              cases hk
              match t, hc with
              | [], hc => simp at hc
              | [c], hc => simp at hc
              | c :: d :: t, hc =>
                simp only [List.getD_cons_zero, List.getD_cons_succ, List.length_cons] at hc
                refine ⟨[b, c, d], t, rfl, .three (by omega) ?_ ?_ ?_ ?_, by simpa using h⟩ <;> (unfold bt at *; omega)
        · simp only [e, Lib.checkN, if_true, show ¬ (4 : Nat) = 2 by omega, show ¬ (4 : Nat) = 3 by omega, if_false] at h
          split at h
          · exact absurd h (by simp)
          · rename_i hk
            split at hk
            · cases hk
            · rename_i hc
              cases hk
              match t, hc with
              | [], hc => simp at hc
              | [c], hc => simp at hc
              | [c, d], hc => simp at hc
              | c :: d :: f :: t, hc =>
                simp only [List.getD_cons_zero, List.getD_cons_succ, List.length_cons] at hc
                refine ⟨[b, c, d, f], t, rfl, .four (by omega) ?_ ?_ ?_ ?_ ?_ ?_, by simpa using h⟩ <;> (unfold bt at *; omega)
theorem valid_ind {P : List UInt8 → Prop} (h0 : P []) (h1 : ∀ p r, OkSeq p → Lib.validD r = true → P r → P (p ++ r)) : ∀ (n : Nat) (s : List UInt8), s.length ≤ n → Lib.validD s = true → P s
  | 0, s, hn, _ => by rw [List.eq_nil_of_length_eq_zero (l := s) (by omega)]; exact h0
  | n + 1, s, hn, hv => by
    by_cases hne : s = []
    · rw [hne]; exact h0
    · obtain ⟨p, r, rfl, hp, hr⟩ := valid_split hv hne
      have hl : 0 < p.length := by cases hp <;> simp
      rw [List.length_append] at hn
      exact h1 p r hp hr (valid_ind h0 h1 n r (by omega) hr)
end Go.Proofs.YtebejiilpedlmaaGreatDoor
set_option linter.unusedVariables false
set_option linter.unusedSimpArgs false
set_option maxRecDepth 100000
namespace Go.Proofs.YtebejiilpedlmaaGreatDoor
open Go Nv Pat

theorem validU (s : List UInt8) (hs : s.length ≤ 100000) : PCall Tryz.prog 18 [.d (.str s)] (.d (.bool (Lib.validD s))) := by
  refine fn18.pure noHint (Nat.le_refl _) (by simp only [go_sem]) (by simp only [go_sem]) ?_
  simp (disch := omega) only [go_sem, reduceIte, reduceCtorEq, Nat.reduceBEq, Nat.reduceEqDiff, Nat.reduceAdd, Nat.reduceLT, Nat.reduceLeDiff, Int.reduceNeg, Int.reduceAdd, Int.reduceLT, Int.reduceLE, Int.reduceEq, Int.reduceNe]
  refine (valid18 s (by omega)).at ?_
  simp (disch := omega) only [go_sem, reduceIte, reduceCtorEq, Nat.reduceBEq, Nat.reduceEqDiff, Nat.reduceAdd, Nat.reduceLT, Nat.reduceLeDiff, Int.reduceNeg, Int.reduceAdd, Int.reduceLT, Int.reduceLE, Int.reduceEq, Int.reduceNe]

end Go.Proofs.YtebejiilpedlmaaGreatDoor
