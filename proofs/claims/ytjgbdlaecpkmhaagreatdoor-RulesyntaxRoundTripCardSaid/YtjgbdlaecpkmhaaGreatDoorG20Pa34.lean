/- Part of a proof about the functions of this seat. -/
import Derived.Test.YtjgbdlaecpkmhaaGreatDoorG16Pars
import Derived.Lib.ValidLaws
import Derived.Lib.TrimUEq
import Derived.Lib.IndexMore
import Derived.Shelf.Strings.Search3
import Derived.Shelf.LaysM
import Derived.Shelf.Vars
import Derived.KernelRfl
import Derived.Test.YtjgbdlaecpkmhaaGreatDoorProg
import Derived.Test.YtjgbdlaecpkmhaaGreatDoorG12NvY
import Derived.Test.YtjgbdlaecpkmhaaGreatDoorG15NvS
import Derived.Test.YtjgbdlaecpkmhaaGreatDoorG19Srt34
set_option linter.unusedVariables false
set_option linter.unusedSimpArgs false
set_option maxRecDepth 100000
namespace Go.Proofs.YtjgbdlaecpkmhaaGreatDoor
open Go Nv Pat

structure Sq where
  value : Int
  missing : Int
  low : Int
  high : Int
  deriving Inhabited
def Sq.avs (s : Sq) : List AV := [.d (.int .i32 s.value), .d (.int .i64 s.missing), .d (.int .u8 s.low), .d (.int .u8 s.high)]
def Sq.av (s : Sq) : AV := .agg s.avs

def m8 (b m : Int) : Int := ((BitVec.ofInt 8 b &&& BitVec.ofInt 8 m).toNat : Int)
def beginM (b : Int) : Sq :=
  if 194 ≤ b ∧ b ≤ 223 then ⟨m8 b 31, 1, 128, 191⟩
  else if 224 ≤ b ∧ b ≤ 239 then ⟨m8 b 15, 2, if b = 224 then 160 else 128, if b = 237 then 159 else 191⟩
  else if 240 ≤ b ∧ b ≤ 244 then ⟨m8 b 7, 3, if b = 240 then 144 else 128, if b = 244 then 143 else 191⟩
  else ⟨0, 0, 128, 191⟩

/-- One character, whole. -/
inductive OkSeq : List UInt8 → Prop
  | one {b : UInt8} : b.toNat < 128 → OkSeq [b]
  | two {b c : UInt8} : (beginM (bt b)).missing = 1 → (beginM (bt b)).low ≤ bt c → bt c ≤ (beginM (bt b)).high → OkSeq [b, c]
  | three {b c d : UInt8} : (beginM (bt b)).missing = 2 → (beginM (bt b)).low ≤ bt c → bt c ≤ (beginM (bt b)).high → 128 ≤ bt d → bt d ≤ 191 → OkSeq [b, c, d]
  | four {b c d e : UInt8} : (beginM (bt b)).missing = 3 → (beginM (bt b)).low ≤ bt c → bt c ≤ (beginM (bt b)).high → 128 ≤ bt d → bt d ≤ 191 → 128 ≤ bt e → bt e ≤ 191 → OkSeq [b, c, d, e]
theorem first_begin : ∀ b : Fin 256, 128 ≤ b.val →
    ((beginM (b.val : Int)).missing = 0 ∧ Lib.firstT b.val % 8 ≠ 2 ∧ Lib.firstT b.val % 8 ≠ 3 ∧ Lib.firstT b.val % 8 ≠ 4) ∨
    ((beginM (b.val : Int)).missing + 1 = (Lib.firstT b.val % 8 : Nat) ∧ (Lib.firstT b.val % 8 = 2 ∨ Lib.firstT b.val % 8 = 3 ∨ Lib.firstT b.val % 8 = 4) ∧
      (beginM (b.val : Int)).low = (Lib.accLo (Lib.firstT b.val / 16) : Nat) ∧ (beginM (b.val : Int)).high = (Lib.accHi (Lib.firstT b.val / 16) : Nat)) := by decide +kernel
theorem begin_first (b : UInt8) (h : 128 ≤ b.toNat) :
    ((beginM (bt b)).missing = 0 ∧ Lib.firstT b.toNat % 8 ≠ 2 ∧ Lib.firstT b.toNat % 8 ≠ 3 ∧ Lib.firstT b.toNat % 8 ≠ 4) ∨
    ((beginM (bt b)).missing + 1 = (Lib.firstT b.toNat % 8 : Nat) ∧ (Lib.firstT b.toNat % 8 = 2 ∨ Lib.firstT b.toNat % 8 = 3 ∨ Lib.firstT b.toNat % 8 = 4) ∧
      (beginM (bt b)).low = (Lib.accLo (Lib.firstT b.toNat / 16) : Nat) ∧ (beginM (bt b)).high = (Lib.accHi (Lib.firstT b.toNat / 16) : Nat)) :=
  first_begin ⟨b.toNat, b.toNat_lt⟩ h
theorem begin_big {b : UInt8} (h : (beginM (bt b)).missing ≠ 0) : 128 ≤ b.toNat := by
  rcases Nat.lt_or_ge b.toNat 128 with hb | hb
  · exact absurd (by unfold beginM bt; rw [if_neg (by omega), if_neg (by omega), if_neg (by omega)]) h
  · exact hb
theorem valid_seq {p : List UInt8} (hp : OkSeq p) (r : List UInt8) : Lib.validD (p ++ r) = Lib.validD r := by
  cases hp with
  | one h => exact Lib.validD_cons _ _ h
  | @two b c h1 h2 h3 =>
    have hb := begin_big (b := b) (by omega)
    rw [Lib.validD_lead _ (by simp) (by simpa using hb)]
    rcases begin_first b hb with ⟨k1, _⟩ | ⟨k1, k2, k3, k4⟩
    · omega
    · have e : Lib.firstT b.toNat % 8 = 2 := by omega
      unfold bt at h2 h3 k1 k3 k4
      simp only [List.cons_append, List.nil_append, List.getD_cons_zero, List.getD_cons_succ, List.length_cons, e, Lib.checkN, if_true]
      rw [if_neg (by unfold bt at *; omega)]
      simp
  | @three b c d h1 h2 h3 h4 h5 =>
    have hb := begin_big (b := b) (by omega)
    rw [Lib.validD_lead _ (by simp) (by simpa using hb)]
    rcases begin_first b hb with ⟨k1, _⟩ | ⟨k1, k2, k3, k4⟩
    · omega
    · have e : Lib.firstT b.toNat % 8 = 3 := by omega
      simp only [List.cons_append, List.nil_append, List.getD_cons_zero, List.getD_cons_succ, List.length_cons, e, Lib.checkN, if_true, show ¬ (3 : Nat) = 2 by omega, if_false]
      rw [if_neg (by unfold bt at *; omega)]
      simp
  | @four b c d f h1 h2 h3 h4 h5 h6 h7 =>
    have hb := begin_big (b := b) (by omega)
    rw [Lib.validD_lead _ (by simp) (by simpa using hb)]
    rcases begin_first b hb with ⟨k1, _⟩ | ⟨k1, k2, k3, k4⟩
    · omega
    · have e : Lib.firstT b.toNat % 8 = 4 := by omega
      simp only [List.cons_append, List.nil_append, List.getD_cons_zero, List.getD_cons_succ, List.length_cons, e, Lib.checkN, if_true, show ¬ (4 : Nat) = 2 by omega, show ¬ (4 : Nat) = 3 by omega, if_false]
      rw [if_neg (by unfold bt at *; omega)]
      simp
theorem valid_split {s : List UInt8} (h : Lib.validD s = true) (hne : s ≠ []) : ∃ p r, s = p ++ r ∧ OkSeq p ∧ Lib.validD r = true := by
  cases s with
  | nil => exact absurd rfl hne
  | cons b t =>
    rcases Nat.lt_or_ge b.toNat 128 with hb | hb
    · exact ⟨[b], t, rfl, .one hb, by rwa [Lib.validD_cons _ _ hb] at h⟩
    · rw [Lib.validD_lead _ (by simp) (by simpa using hb)] at h
      simp only [List.getD_cons_zero, List.getD_cons_succ, List.length_cons] at h
      rcases begin_first b hb with ⟨k1, k2, k3, k4⟩ | ⟨k1, k2, k3, k4⟩
      · simp only [Lib.checkN, k2, k3, k4, if_false] at h; exact absurd h (by simp)
      · rcases k2 with e | e | e
        · simp only [e, Lib.checkN, if_true] at h
          split at h
          · exact absurd h (by simp)
          · rename_i hk
            split at hk
            · cases hk
            · rename_i hc
              cases hk
              match t, hc with
              | [], hc => simp at hc
              | c :: t, hc =>
                simp only [List.getD_cons_zero, List.getD_cons_succ, List.length_cons] at hc
                refine ⟨[b, c], t, rfl, .two (by omega) ?_ ?_, by simpa using h⟩ <;> (unfold bt at *; omega)
        · simp only [e, Lib.checkN, if_true, show ¬ (3 : Nat) = 2 by omega, if_false] at h
          split at h
          · exact absurd h (by simp)
          · rename_i hk
            split at hk
            · cases hk
            · rename_i hc
              cases hk
              match t, hc with
              | [], hc => simp at hc
              | [c], hc => simp at hc
              | c :: d :: t, hc =>
                simp only [List.getD_cons_zero, List.getD_cons_succ, List.length_cons] at hc
                refine ⟨[b, c, d], t, rfl, .three (by omega) ?_ ?_ ?_ ?_, by simpa using h⟩ <;> (unfold bt at *; omega)
        · simp only [e, Lib.checkN, if_true, show ¬ (4 : Nat) = 2 by omega, show ¬ (4 : Nat) = 3 by omega, if_false] at h
          split at h
          · exact absurd h (by simp)
          · rename_i hk
            split at hk
            · cases hk
            · rename_i hc
              cases hk
              match t, hc with
              | [], hc => simp at hc
              | [c], hc => simp at hc
              | [c, d], hc => simp at hc
              | c :: d :: f :: t, hc =>
                simp only [List.getD_cons_zero, List.getD_cons_succ, List.length_cons] at hc
                refine ⟨[b, c, d, f], t, rfl, .four (by omega) ?_ ?_ ?_ ?_ ?_ ?_, by simpa using h⟩ <;> (unfold bt at *; omega)
theorem valid_ind {P : List UInt8 → Prop} (h0 : P []) (h1 : ∀ p r, OkSeq p → Lib.validD r = true → P r → P (p ++ r)) : ∀ (n : Nat) (s : List UInt8), s.length ≤ n → Lib.validD s = true → P s
  | 0, s, hn, _ => by rw [List.eq_nil_of_length_eq_zero (l := s) (by omega)]; exact h0
  | n + 1, s, hn, hv => by
    by_cases hne : s = []
    · rw [hne]; exact h0
    · obtain ⟨p, r, rfl, hp, hr⟩ := valid_split hv hne
      have hl : 0 < p.length := by cases hp <;> simp
      rw [List.length_append] at hn
      exact h1 p r hp hr (valid_ind h0 h1 n r (by omega) hr)
end Go.Proofs.YtjgbdlaecpkmhaaGreatDoor
set_option linter.unusedVariables false
set_option linter.unusedSimpArgs false
set_option maxRecDepth 100000
namespace Go.Proofs.YtjgbdlaecpkmhaaGreatDoor
open Go Nv Pat

/- Characters as bytes, and back. -/
def encB (c : Int) : List UInt8 := (Utf8.encode c).data.toList
theorem encB1 {r : Nat} (h : r < 128) : encB r = [UInt8.ofNat r] := by
  have v : Utf8.valid (r : Int) = true := by simp [Utf8.valid]; omega
  simp [encB, Utf8.encode, v, h]
theorem encB2 {r : Nat} (h1 : 128 ≤ r) (h2 : r < 2048) : encB r = [UInt8.ofNat (192 + r / 64), UInt8.ofNat (128 + r % 64)] := by
  have v : Utf8.valid (r : Int) = true := by simp [Utf8.valid]; omega
  have c1 : ¬ r < 128 := by omega
  simp [encB, Utf8.encode, v, c1, h2]
theorem encB3 {r : Nat} (h1 : 2048 ≤ r) (h2 : r < 65536) (hv : r < 55296 ∨ 57344 ≤ r) : encB r = [UInt8.ofNat (224 + r / 4096), UInt8.ofNat (128 + r / 64 % 64), UInt8.ofNat (128 + r % 64)] := by
  have v : Utf8.valid (r : Int) = true := by simp [Utf8.valid]; omega
  have c1 : ¬ r < 128 := by omega
  have c2 : ¬ r < 2048 := by omega
  simp [encB, Utf8.encode, v, c1, c2, h2]
theorem encB4 {r : Nat} (h1 : 65536 ≤ r) (h2 : r ≤ 1114111) : encB r = [UInt8.ofNat (240 + r / 262144), UInt8.ofNat (128 + r / 4096 % 64), UInt8.ofNat (128 + r / 64 % 64), UInt8.ofNat (128 + r % 64)] := by
  have v : Utf8.valid (r : Int) = true := by simp [Utf8.valid]; omega
  have c1 : ¬ r < 128 := by omega
  have c2 : ¬ r < 2048 := by omega
  have c3 : ¬ r < 65536 := by omega
  simp [encB, Utf8.encode, v, c1, c2, c3]
theorem char_cases {c : Int} (h : charB c = true) : ∃ r : Nat, c = r ∧ (r < 128 ∨ (128 ≤ r ∧ r < 2048) ∨ (2048 ≤ r ∧ r < 65536 ∧ (r < 55296 ∨ 57344 ≤ r)) ∨ (65536 ≤ r ∧ r ≤ 1114111)) := by
  rw [charB_iff] at h
  exact ⟨c.toNat, by omega, by omega⟩
theorem u8n (n : Nat) (h : n < 256) : (UInt8.ofNat n).toNat = n := by simp; omega

theorem dec_enc {c : Int} (h : charB c = true) (t : List UInt8) : Lib.decodeL (encB c ++ t) = (c.toNat, (encB c).length) := by
  obtain ⟨r, rfl, h1 | ⟨h1, h2⟩ | ⟨h1, h2, h3⟩ | ⟨h1, h2⟩⟩ := char_cases h
  · rw [encB1 h1, Lib.decodeL_N]
    simp only [List.cons_append, List.nil_append, List.getD_cons_zero, u8n r (by omega), Lib.decodeN, h1, if_true]
    simp
  · rw [encB2 h1 h2, Lib.decodeL_N]
    simp only [List.cons_append, List.nil_append, List.getD_cons_zero, List.getD_cons_succ, u8n (192 + r / 64) (by omega), u8n (128 + r % 64) (by omega), Lib.decodeN, List.length_cons]
    rw [if_neg (by omega), if_pos (by omega), if_pos (by omega)]
    simp; omega
  · rw [encB3 h1 h2 h3, Lib.decodeL_N]
    simp only [List.cons_append, List.nil_append, List.getD_cons_zero, List.getD_cons_succ, u8n (224 + r / 4096) (by omega), u8n (128 + r / 64 % 64) (by omega), u8n (128 + r % 64) (by omega), Lib.decodeN, List.length_cons]
    have e : (224 + r / 4096) % 16 * 4096 + (128 + r / 64 % 64) % 64 * 64 + (128 + r % 64) % 64 = r := by omega
    rw [if_neg (by omega), if_neg (by omega), if_pos (by omega), e, if_pos (by omega)]
    simp
  · rw [encB4 h1 h2, Lib.decodeL_N]
    simp only [List.cons_append, List.nil_append, List.getD_cons_zero, List.getD_cons_succ, u8n (240 + r / 262144) (by omega), u8n (128 + r / 4096 % 64) (by omega), u8n (128 + r / 64 % 64) (by omega), u8n (128 + r % 64) (by omega), Lib.decodeN, List.length_cons]
    have e : (240 + r / 262144) % 8 * 262144 + (128 + r / 4096 % 64) % 64 * 4096 + (128 + r / 64 % 64) % 64 * 64 + (128 + r % 64) % 64 = r := by omega
    rw [if_neg (by omega), if_neg (by omega), if_neg (by omega), if_pos (by omega), e, if_pos (by omega)]
    simp

theorem begin_two {b : Int} (h1 : 194 ≤ b) (h2 : b ≤ 223) : (beginM b).missing = 1 ∧ (beginM b).low = 128 ∧ (beginM b).high = 191 := by
  unfold beginM; rw [if_pos ⟨h1, h2⟩]; exact ⟨rfl, rfl, rfl⟩
theorem begin_three {b : Int} (h1 : 224 ≤ b) (h2 : b ≤ 239) : (beginM b).missing = 2 ∧ (beginM b).low = (if b = 224 then 160 else 128) ∧ (beginM b).high = (if b = 237 then 159 else 191) := by
  unfold beginM; rw [if_neg (by omega), if_pos ⟨h1, h2⟩]; exact ⟨rfl, rfl, rfl⟩
theorem begin_four {b : Int} (h1 : 240 ≤ b) (h2 : b ≤ 244) : (beginM b).missing = 3 ∧ (beginM b).low = (if b = 240 then 144 else 128) ∧ (beginM b).high = (if b = 244 then 143 else 191) := by
  unfold beginM; rw [if_neg (by omega), if_neg (by omega), if_pos ⟨h1, h2⟩]; exact ⟨rfl, rfl, rfl⟩
theorem begin_none {b : Int} (h1 : ¬ (194 ≤ b ∧ b ≤ 223)) (h2 : ¬ (224 ≤ b ∧ b ≤ 239)) (h3 : ¬ (240 ≤ b ∧ b ≤ 244)) : (beginM b).missing = 0 := by
  unfold beginM; rw [if_neg h1, if_neg h2, if_neg h3]
theorem begin_which (b : Int) : (194 ≤ b ∧ b ≤ 223) ∨ (224 ≤ b ∧ b ≤ 239) ∨ (240 ≤ b ∧ b ≤ 244) ∨ (beginM b).missing = 0 := by
  by_cases h1 : 194 ≤ b ∧ b ≤ 223
  · exact .inl h1
  by_cases h2 : 224 ≤ b ∧ b ≤ 239
  · exact .inr (.inl h2)
  by_cases h3 : 240 ≤ b ∧ b ≤ 244
  · exact .inr (.inr (.inl h3))
  · exact .inr (.inr (.inr (begin_none h1 h2 h3)))
theorem begin1 {b : Int} (h : (beginM b).missing = 1) : 194 ≤ b ∧ b ≤ 223 ∧ (beginM b).low = 128 ∧ (beginM b).high = 191 := by
  rcases begin_which b with k | k | k | k
  · exact ⟨k.1, k.2, (begin_two k.1 k.2).2⟩
  · have := (begin_three k.1 k.2).1; omega
  · have := (begin_four k.1 k.2).1; omega
  · omega
theorem begin2 {b : Int} (h : (beginM b).missing = 2) : 224 ≤ b ∧ b ≤ 239 ∧ (beginM b).low = (if b = 224 then 160 else 128) ∧ (beginM b).high = (if b = 237 then 159 else 191) := by
  rcases begin_which b with k | k | k | k
  · have := (begin_two k.1 k.2).1; omega
  · exact ⟨k.1, k.2, (begin_three k.1 k.2).2⟩
  · have := (begin_four k.1 k.2).1; omega
  · omega
theorem begin3 {b : Int} (h : (beginM b).missing = 3) : 240 ≤ b ∧ b ≤ 244 ∧ (beginM b).low = (if b = 240 then 144 else 128) ∧ (beginM b).high = (if b = 244 then 143 else 191) := by
  rcases begin_which b with k | k | k | k
  · have := (begin_two k.1 k.2).1; omega
  · have := (begin_three k.1 k.2).1; omega
  · exact ⟨k.1, k.2, (begin_four k.1 k.2).2⟩
  · omega
theorem u8e {a b : UInt8} (h : a.toNat = b.toNat) : a = b := UInt8.toNat_inj.1 h
theorem seq_enc {p : List UInt8} (hp : OkSeq p) : ∃ c, charB c = true ∧ p = encB c := by
  cases hp with
  | @one b h =>
    refine ⟨(b.toNat : Nat), by rw [charB_iff]; omega, ?_⟩
    rw [encB1 h]; simp
  | @two b c h1 h2 h3 =>
    obtain ⟨k1, k2, k3, k4⟩ := begin1 h1
    rw [k3] at h2; rw [k4] at h3
    unfold bt at *
    obtain ⟨r, hr⟩ : ∃ r, r = (b.toNat - 192) * 64 + (c.toNat - 128) := ⟨_, rfl⟩
    refine ⟨(r : Nat), by rw [charB_iff]; omega, ?_⟩
    rw [encB2 (by omega) (by omega)]
    congr 1
    · apply u8e; rw [u8n _ (by omega)]; omega
    · congr 1; apply u8e; rw [u8n _ (by omega)]; omega
  | @three b c d h1 h2 h3 h4 h5 =>
    obtain ⟨k1, k2, k3, k4⟩ := begin2 h1
    rw [k3] at h2; rw [k4] at h3
    unfold bt at *
    obtain ⟨r, hr⟩ : ∃ r, r = (b.toNat - 224) * 4096 + (c.toNat - 128) * 64 + (d.toNat - 128) := ⟨_, rfl⟩
    have hb : (2048 ≤ r ∧ r < 65536) ∧ (r < 55296 ∨ 57344 ≤ r) := by
      split at h2 <;> split at h3 <;> omega
    have hc : 128 ≤ c.toNat := by split at h2 <;> omega
    have hc2 : c.toNat ≤ 191 := by split at h3 <;> omega
    refine ⟨(r : Nat), by rw [charB_iff]; omega, ?_⟩
    rw [encB3 hb.1.1 hb.1.2 hb.2]
    congr 1
    · apply u8e; rw [u8n _ (by omega)]; omega
    congr 1
    · apply u8e; rw [u8n _ (by omega)]; omega
    · congr 1; apply u8e; rw [u8n _ (by omega)]; omega
  | @four b c d f h1 h2 h3 h4 h5 h6 h7 =>
    obtain ⟨k1, k2, k3, k4⟩ := begin3 h1
    rw [k3] at h2; rw [k4] at h3
    unfold bt at *
    obtain ⟨r, hr⟩ : ∃ r, r = (b.toNat - 240) * 262144 + (c.toNat - 128) * 4096 + (d.toNat - 128) * 64 + (f.toNat - 128) := ⟨_, rfl⟩
    have hb : 65536 ≤ r ∧ r ≤ 1114111 := by
      split at h2 <;> split at h3 <;> omega
    have hc : 128 ≤ c.toNat := by split at h2 <;> omega
    have hc2 : c.toNat ≤ 191 := by split at h3 <;> omega
    refine ⟨(r : Nat), by rw [charB_iff]; omega, ?_⟩
    rw [encB4 hb.1 hb.2]
    congr 1
    · apply u8e; rw [u8n _ (by omega)]; omega
    congr 1
    · apply u8e; rw [u8n _ (by omega)]; omega
    congr 1
    · apply u8e; rw [u8n _ (by omega)]; omega
    · congr 1; apply u8e; rw [u8n _ (by omega)]; omega
theorem enc_seq {c : Int} (h : charB c = true) : OkSeq (encB c) := by
  obtain ⟨r, rfl, h1 | ⟨h1, h2⟩ | ⟨h1, h2, h3⟩ | ⟨h1, h2⟩⟩ := char_cases h
  · rw [encB1 h1]; exact .one (by rw [u8n _ (by omega)]; exact h1)
  · rw [encB2 h1 h2]
    have e1 := u8n (192 + r / 64) (by omega)
    have e2 := u8n (128 + r % 64) (by omega)
    obtain ⟨k1, k2, k3⟩ := begin_two (b := bt (UInt8.ofNat (192 + r / 64))) (by unfold bt; omega) (by unfold bt; omega)
    exact .two k1 (by rw [k2]; unfold bt; omega) (by rw [k3]; unfold bt; omega)
  · rw [encB3 h1 h2 h3]
    have e1 := u8n (224 + r / 4096) (by omega)
    have e2 := u8n (128 + r / 64 % 64) (by omega)
    have e3 := u8n (128 + r % 64) (by omega)
    obtain ⟨k1, k2, k3⟩ := begin_three (b := bt (UInt8.ofNat (224 + r / 4096))) (by unfold bt; omega) (by unfold bt; omega)
    refine .three k1 (by rw [k2]; unfold bt; rw [e1, e2]; split <;> omega) (by rw [k3]; unfold bt; rw [e1, e2]; split <;> omega) (by unfold bt; omega) (by unfold bt; omega)
  · rw [encB4 h1 h2]
    have e1 := u8n (240 + r / 262144) (by omega)
    have e2 := u8n (128 + r / 4096 % 64) (by omega)
    have e3 := u8n (128 + r / 64 % 64) (by omega)
    have e4 := u8n (128 + r % 64) (by omega)
    obtain ⟨k1, k2, k3⟩ := begin_four (b := bt (UInt8.ofNat (240 + r / 262144))) (by unfold bt; omega) (by unfold bt; omega)
    refine .four k1 (by rw [k2]; unfold bt; rw [e1, e2]; split <;> omega) (by rw [k3]; unfold bt; rw [e1, e2]; split <;> omega) (by unfold bt; omega) (by unfold bt; omega) (by unfold bt; omega) (by unfold bt; omega)

def encS (l : List Int) : List UInt8 := l.flatMap encB
theorem encS_cons (c : Int) (l : List Int) : encS (c :: l) = encB c ++ encS l := rfl
theorem encS_append (l m : List Int) : encS (l ++ m) = encS l ++ encS m := by simp [encS]
def Chars (l : List Int) : Prop := ∀ c, c ∈ l → charB c = true
theorem Chars.cons {c : Int} {l : List Int} (h : Chars (c :: l)) : charB c = true ∧ Chars l := ⟨h c (by simp), fun d hd => h d (by simp [hd])⟩
theorem Chars.append {l m : List Int} (h : Chars l) (k : Chars m) : Chars (l ++ m) := fun c hc => (List.mem_append.1 hc).elim (h c) (k c)
theorem valid_enc : ∀ l : List Int, Chars l → Lib.validD (encS l) = true
  | [], _ => rfl
  | c :: l, h => by rw [encS_cons, valid_seq (enc_seq h.cons.1)]; exact valid_enc l h.cons.2
theorem valid_as {s : List UInt8} (h : Lib.validD s = true) : ∃ l, Chars l ∧ s = encS l := by
  refine valid_ind (P := fun s => ∃ l, Chars l ∧ s = encS l) ⟨[], fun c hc => (by cases hc), rfl⟩ (fun p r hp _ ⟨l, h1, h2⟩ => ?_) s.length s (Nat.le_refl _) h
  obtain ⟨c, hc, rfl⟩ := seq_enc hp
  exact ⟨c :: l, fun d hd => (List.mem_cons.1 hd).elim (fun e => e ▸ hc) (h1 d), by rw [encS_cons, h2]⟩
theorem encB_pos (c : Int) : 0 < (encB c).length := by
  unfold encB Utf8.encode
  simp only
  split
  · split <;> (try split) <;> (try split) <;> simp
  · split <;> (try split) <;> (try split) <;> simp
theorem len_enc : ∀ l : List Int, l.length ≤ (encS l).length
  | [] => Nat.le_refl _
  | c :: l => by have := len_enc l; have := encB_pos c; rw [encS_cons, List.length_append, List.length_cons]; omega

theorem runes_from (pre : List UInt8) : ∀ (l : List Int) (done : List UInt8) (bound : Nat) (acc : Array Value), Chars l → pre = done ++ encS l → (encS l).length ≤ bound →
    (Conv.runesFrom ⟨pre.toArray⟩ bound done.length acc).toList = acc.toList ++ l.map (Value.int .i32)
  | [], done, bound, acc, _, e, _ => by
    have hs : ¬ done.length < (⟨pre.toArray⟩ : ByteArray).size := by rw [e]; simp [encS, ByteArray.size]
    cases bound with
    | zero => simp [Conv.runesFrom]
    | succ b => rw [Conv.runesFrom, if_neg hs]; simp
  | c :: l, done, bound, acc, hc, e, hb => by
    have hp := encB_pos c
    rw [encS_cons, List.length_append] at hb
    obtain ⟨b, rfl⟩ : ∃ b, bound = b + 1 := ⟨bound - 1, by omega⟩
    have hs : done.length < (⟨pre.toArray⟩ : ByteArray).size := by rw [e, encS_cons]; simp [ByteArray.size]; omega
    have hd : Utf8.decode ⟨pre.toArray⟩ done.length = (c.toNat, (encB c).length) := by
      rw [← Lib.decodeL_drop]
      have : (⟨pre.toArray⟩ : ByteArray).data.toList.drop done.length = encB c ++ encS l := by simp [e, encS_cons]
      rw [this, dec_enc hc.cons.1]
    have hn : (Int.ofNat c.toNat) = c := by
      have := hc.cons.1
      rw [charB_iff] at this
      simp; omega
    rw [Conv.runesFrom, if_pos hs, hd]
    simp only [hn]
    have := runes_from pre l (done ++ encB c) b (acc.push (.int .i32 c)) hc.cons.2 (by rw [e, encS_cons]; simp) (by omega)
    rw [List.length_append] at this
    rw [this]; simp
theorem runes_enc {l : List Int} (h : Chars l) : Nv.runesD (encS l) = l.map (DV.int .i32) := by
  have := runes_from (encS l) l [] (encS l).length #[] h rfl (Nat.le_refl _)
  unfold Nv.runesD
  simp only [List.length_nil] at this
  rw [this]
  simp [Nv.valD, List.map_map, Function.comp_def]

/- a character among others -/
def ints (l : List UInt8) : List Int := l.map fun b => (b.toNat : Int)
theorem contains_enc {c : Int} (h : charB c = true) : ∀ sp : List UInt8, (∀ b, b ∈ sp → b.toNat < 128) → Lib.contains sp (encB c) = decide (c ∈ ints sp) := by
  have key : ∀ sp : List UInt8, (∀ b, b ∈ sp → b.toNat < 128) → -1 ≤ Lib.index sp (encB c) ∧ (0 ≤ Lib.index sp (encB c) ↔ c ∈ ints sp) := by
    intro sp
    have hne : (encB c).isEmpty = false := by
      have := encB_pos c
      cases he : encB c with
      | nil => rw [he] at this; simp at this
      | cons => rfl
    induction sp with
    | nil => intro _; simp [Lib.index, hne, ints]
    | cons b sp ih =>
      intro hb
      obtain ⟨i1, i2⟩ := ih fun d hd => hb d (by simp [hd])
      have hpre : (encB c).isPrefixOf (b :: sp) = decide (c = (b.toNat : Int)) := by
        have hb' := hb b (by simp)
        obtain ⟨r, rfl, h1 | ⟨h1, h2⟩ | ⟨h1, h2, h3⟩ | ⟨h1, h2⟩⟩ := char_cases h
        · rw [encB1 h1]
          simp only [List.isPrefixOf, Bool.and_true]
          rw [Bool.eq_iff_iff, beq_iff_eq, decide_eq_true_eq]
          constructor
          · intro e; rw [← e, u8n _ (by omega)]
          · intro e; apply u8e; rw [u8n _ (by omega)]; omega
        · have e1 := u8n (192 + r / 64) (by omega)
          have : ¬ (UInt8.ofNat (192 + r / 64)) = b := fun e => by rw [e] at e1; omega
          have hbf : (UInt8.ofNat (192 + r / 64) == b) = false := beq_eq_false_iff_ne.2 this
          rw [encB2 h1 h2]; simp only [List.isPrefixOf, hbf, Bool.false_and]; rw [eq_comm, decide_eq_false_iff_not]; omega
        · have e1 := u8n (224 + r / 4096) (by omega)
          have : ¬ (UInt8.ofNat (224 + r / 4096)) = b := fun e => by rw [e] at e1; omega
          have hbf : (UInt8.ofNat (224 + r / 4096) == b) = false := beq_eq_false_iff_ne.2 this
          rw [encB3 h1 h2 h3]; simp only [List.isPrefixOf, hbf, Bool.false_and]; rw [eq_comm, decide_eq_false_iff_not]; omega
        · have e1 := u8n (240 + r / 262144) (by omega)
          have : ¬ (UInt8.ofNat (240 + r / 262144)) = b := fun e => by rw [e] at e1; omega
          have hbf : (UInt8.ofNat (240 + r / 262144) == b) = false := beq_eq_false_iff_ne.2 this
          rw [encB4 h1 h2]; simp only [List.isPrefixOf, hbf, Bool.false_and]; rw [eq_comm, decide_eq_false_iff_not]; omega
      rw [Lib.index, hpre]
      by_cases he : c = (b.toNat : Int)
      · simp [he, ints]
      · simp only [he, decide_false, Bool.false_eq_true, if_false, beq_iff_eq]
        have em : c ∈ ints (b :: sp) ↔ c ∈ ints sp := by simp [ints, he]
        rw [em, ← i2]
        split <;> omega
  intro sp hsp
  rw [Lib.contains]
  exact decide_eq_decide.2 (key sp hsp).2
end Go.Proofs.YtjgbdlaecpkmhaaGreatDoor
set_option linter.unusedVariables false
set_option maxRecDepth 100000
namespace Go.Proofs.YtjgbdlaecpkmhaaGreatDoor
open Go.Shelf
def Tryz.laysm144_ren : Go.Shelf.Ren := ⟨fun | 144 => 14 | 143 => 25 | 219 => 45 | 217 => 59 | 225 => 60 | 224 => 61 | 267 => 62 | 266 => 80 | 314 => 81 | n => n, fun | 9 => 9 | 4 => 4 | 3 => 3 | 5 => 5 | 46 => 96 | 146 => 114 | 51 => 113 | n => n, fun | 1 => 0 | n => n⟩
theorem Tryz.laysm144 : Go.Proofs.LaysM.n144 Tryz.prog Tryz.laysm144_ren where
  mixed := by kernel_rfl
  f143 := Tryz.func25.trans (congrArg some (by kernel_rfl))
  f144 := Tryz.func14.trans (congrArg some (by kernel_rfl))
  f217 := Tryz.func59.trans (congrArg some (by kernel_rfl))
  f219 := Tryz.func45.trans (congrArg some (by kernel_rfl))
  f224 := Tryz.func61.trans (congrArg some (by kernel_rfl))
  f225 := Tryz.func60.trans (congrArg some (by kernel_rfl))
  f266 := Tryz.func80.trans (congrArg some (by kernel_rfl))
  f267 := Tryz.func62.trans (congrArg some (by kernel_rfl))
  f314 := Tryz.func81.trans (congrArg some (by kernel_rfl))
  t3 := Tryz.underlying3
  a3 := Tryz.isAgg3
  z3 := Tryz.sizeOf3
  v3 := Tryz.zeroValue3
  t4 := Tryz.underlying4
  a4 := Tryz.isAgg4
  z4 := Tryz.sizeOf4
  v4 := Tryz.zeroValue4
  t5 := Tryz.underlying5
  a5 := Tryz.isAgg5
  z5 := Tryz.sizeOf5
  v5 := Tryz.zeroValue5
  t9 := Tryz.underlying9
  a9 := Tryz.isAgg9
  z9 := Tryz.sizeOf9
  v9 := Tryz.zeroValue9
  t46 := Tryz.underlying96
  a46 := Tryz.isAgg96
  z46 := Tryz.sizeOf96
  v46 := Tryz.zeroValue96
  t51 := Tryz.underlying113
  a51 := Tryz.isAgg113
  z51 := Tryz.sizeOf113
  v51 := Tryz.zeroValue113
  t146 := Tryz.underlying114
  a146 := Tryz.isAgg114
  z146 := Tryz.sizeOf114
  v146 := Tryz.zeroValue114
  g1 := by kernel_rfl
  i3 := by kernel_rfl
  i4 := by kernel_rfl
  i5 := by kernel_rfl
  i9 := by kernel_rfl
  i46 := by kernel_rfl
  i51 := by kernel_rfl
  i146 := by kernel_rfl
  m1 := by kernel_rfl
  s1_3 := fun w h => Go.Proofs.cell_of_shapedOpen_int (zero := #[.int .i64 0]) (t := 3) h (of_decide_eq_true (by kernel_rfl)) (by kernel_rfl) rfl (by kernel_rfl) (by kernel_rfl) Tryz.underlying3
open Go.RowKit Go.Lib Nv
theorem contains_all (s t : List UInt8) (hs : s.length < 4294967281) : PCall Tryz.prog 14 [.d (.str s), .d (.str t)] (.d (.bool (Lib.contains s t))) :=
  .of_callsT rfl rfl fun w I hT => by
    have hm : ∃ m, w.cell? ⟨Tryz.laysm144_ren.g 1, 0, none⟩ = some (.int .i64 m) :=
      hT.cell (g := Tryz.laysm144_ren.g 1) (of_decide_eq_true (by kernel_rfl)) (Q := fun v => ∃ m, v = some (.int .i64 m)) fun w0 h => Tryz.laysm144.s1_3 w0 h
    obtain ⟨m, hm⟩ := hm
    exact (Any.strings_Contains { Tryz.laysm144 with } ⟨s.toArray⟩ ⟨t.toArray⟩ m w (by simpa [ByteArray.size] using hs) hm).mono fun e w' ⟨h1, h2⟩ => ⟨h1, h2 ▸ Below.refl _ _⟩
end Go.Proofs.YtjgbdlaecpkmhaaGreatDoor
/- A nil slice seen avl a list without elements, however deep it lies. -/

set_option linter.unusedVariables false
set_option linter.unusedSimpArgs false
namespace Nv
open Go

inductive WkV : DV → DV → Prop
  | refl (x : DV) : WkV x x
  | nil (e : Nat) : WkV .nilslice (.list e [])
  | list {e : Nat} {xs ys : List DV} : (flat xs).length = (flat ys).length → xs.length = ys.length → (∀ y, y ∈ ys → Uni e y) →
      (∀ (j : Nat) (x y : DV), (flat xs)[j]? = some x → (flat ys)[j]? = some y → WkV x y) → WkV (.list e xs) (.list e ys)

theorem VD.wkv {I : Nat → Prop} {w : World} {x y : DV} (h : WkV x y) : ∀ {v : Value}, VD I w x v → VD I w y v := by
  induction h with
  | refl x => exact fun hv => hv
  | nil e => intro v hv; cases hv; exact .listNil _ _
  | @list e xs ys hf hl hu hx ih =>
    intro v hv
    cases hv with
    | listNil _ p =>
      obtain rfl : ys = [] := List.length_eq_zero_iff.1 (by simpa using hl.symm)
      exact .listNil _ _
    | list us q1 q2 q0 q3 q4 =>
      have key : ∀ (j : Nat) (c : DV), (flat ys)[j]? = some c → ∃ x, (flat xs)[j]? = some x := fun j c hj => by
        have : j < (flat ys).length := by
          rcases Nat.lt_or_ge j (flat ys).length with h | h
          · exact h
          · rw [List.getElem?_eq_none h] at hj; cases hj
        exact ⟨_, List.getElem?_eq_getElem (by omega)⟩
      refine .list us (by omega) q2 hu (fun j c hj => ?_) (fun j c hj => ?_)
      · obtain ⟨x, hx'⟩ := key j c hj; exact q3 j x hx'
      · obtain ⟨x, hx'⟩ := key j c hj; exact ih j x c hx' hj (q4 j x hx')

/-- Elements side by side. -/
def All2 (R : DV → DV → Prop) : List DV → List DV → Prop
  | [], [] => True
  | x :: xs, y :: ys => R x y ∧ All2 R xs ys
  | _, _ => False
def WkE (e : Nat) (x y : DV) : Prop := x.cells.length = e ∧ Uni e y ∧ ∀ (j : Nat) (a b : DV), x.cells[j]? = some a → y.cells[j]? = some b → WkV a b
theorem WkE.refl {e : Nat} {x : DV} (h : Uni e x) : WkE e x x := ⟨h.1, h, fun j a b h1 h2 => by rw [h1] at h2; cases h2; exact .refl _⟩
theorem All2.refl {R : DV → DV → Prop} : ∀ {xs : List DV}, (∀ x, x ∈ xs → R x x) → All2 R xs xs
  | [], _ => trivial
  | x :: xs, h => ⟨h x (by simp), All2.refl fun y hy => h y (by simp [hy])⟩
theorem All2.append {R : DV → DV → Prop} : ∀ {xs ys zs ws : List DV}, All2 R xs ys → All2 R zs ws → All2 R (xs ++ zs) (ys ++ ws)
  | [], [], _, _, _, h => h
  | _ :: _, _ :: _, _, _, ⟨h1, h2⟩, h => ⟨h1, All2.append h2 h⟩
  | [], _ :: _, _, _, h, _ => h.elim
  | _ :: _, [], _, _, h, _ => h.elim
theorem wkv_list {e : Nat} : ∀ {xs ys : List DV}, All2 (WkE e) xs ys → WkV (.list e xs) (.list e ys) := by
  have key : ∀ xs ys : List DV, All2 (WkE e) xs ys → (flat xs).length = (flat ys).length ∧ xs.length = ys.length ∧ (∀ y, y ∈ ys → Uni e y) ∧
      ∀ (j : Nat) (x y : DV), (flat xs)[j]? = some x → (flat ys)[j]? = some y → WkV x y := by
    intro xs
    induction xs with
    | nil =>
      intro ys h
      cases ys with
      | nil => exact ⟨rfl, rfl, by simp, fun j x y h => by simp [flat] at h⟩
      | cons y ys => exact h.elim
    | cons x xs ih =>
      intro ys h
      cases ys with
      | nil => exact h.elim
      | cons y ys =>
        obtain ⟨⟨h1, h2, h3⟩, h4⟩ := h
        obtain ⟨k1, k2, k3, k4⟩ := ih ys h4
        have e1 : flat (x :: xs) = x.cells ++ flat xs := by simp [flat]
        have e2 : flat (y :: ys) = y.cells ++ flat ys := by simp [flat]
        refine ⟨by rw [e1, e2, List.length_append, List.length_append, h1, h2.1, k1], by simp [k2], fun z hz => ?_, fun j a b ha hb => ?_⟩
        · rcases List.mem_cons.1 hz with e | hz
          · rw [e]; exact h2
          · exact k3 z hz
        · rw [e1] at ha
          rw [e2] at hb
          rcases Nat.lt_or_ge j e with hj | hj
          · rw [List.getElem?_append_left (by omega)] at ha
            rw [List.getElem?_append_left (by rw [h2.1]; omega)] at hb
            exact h3 j a b ha hb
          · rw [List.getElem?_append_right (by omega), h1] at ha
            rw [List.getElem?_append_right (by rw [h2.1]; omega), h2.1] at hb
            exact k4 _ a b ha hb
  intro xs ys h
  obtain ⟨h1, h2, h3, h4⟩ := key xs ys h
  exact .list h1 h2 h3 h4

inductive WkB : AV → AV → Prop
  | d {x y : DV} : WkV x y → WkB (.d x) (.d y)
  | agg {cs ds : List AV} : cs.length = ds.length → (∀ i, i < cs.length → WkB (cs.getD i .any) (ds.getD i .any)) → WkB (.agg cs) (.agg ds)
theorem V.wkb {ρ : RHO} {σ : ST} {I : Nat → Prop} {w : World} {a b : AV} (h : WkB a b) : ∀ {v : Value}, V ρ σ I w a v → V ρ σ I w b v := by
  induction h with
  | d h => intro v hv; exact .d (VD.wkv h hv.d_inv)
  | @agg cs ds hl hx ih =>
    intro v hv
    cases hv with
    | agg h1 h2 =>
      refine .agg (by omega) (fun j c hj => ?_)
      have hjl : j < ds.length := by
        rcases Nat.lt_or_ge j ds.length with h | h
        · exact h
        · rw [List.getElem?_eq_none h] at hj; cases hj
      have e1 : cs[j]? = some (cs.getD j .any) := by rw [List.getD_eq_getElem?_getD, List.getElem?_eq_getElem (by omega)]; rfl
      have e2 : ds.getD j .any = c := by rw [List.getD_eq_getElem?_getD, hj]; rfl
      have := ih j (by omega) (h2 j _ e1)
      rwa [e2] at this
theorem PCall.wkb {P : Program} {f : FuncId} {args args' : List AV} {r : AV} (h : PCall P f args' r) (hl : args.length = args'.length) (ha : ∀ i, i < args.length → WkB (args.getD i .any) (args'.getD i .any)) : PCall P f args r := by
  intro σ ρ I w vs hr hv
  refine h σ ρ I w vs hr ⟨by rw [← hl]; exact hv.1, fun j a hj => ?_⟩
  have hjl : j < args'.length := by
    rcases Nat.lt_or_ge j args'.length with h | h
    · exact h
    · rw [List.getElem?_eq_none h] at hj; cases hj
  have e1 : args[j]? = some (args.getD j .any) := by rw [List.getD_eq_getElem?_getD, List.getElem?_eq_getElem (by omega)]; rfl
  have e2 : args'.getD j .any = a := by rw [List.getD_eq_getElem?_getD, hj]; rfl
  have := V.wkb (ha j (by omega)) (hv.2 j _ e1)
  rwa [e2] at this
end Nv
set_option linter.unusedVariables false
set_option linter.unusedSimpArgs false
set_option maxRecDepth 100000
namespace Go.Proofs.YtjgbdlaecpkmhaaGreatDoor
open Go Nv Pat

/-- What a call hands back, seen with less: a nil slice as a list without elements. -/
theorem ACall.wkr {f : FuncId} {args : List AV} {σ : Nv.ST} {K K' : Out → Nv.ST → Prop} (h : ACall Tryz.prog f args σ K) (hk : ∀ oc σ', K oc σ' → K' oc σ' ∨ ∃ a b, oc = .ret a ∧ WkB a b ∧ K' (.ret b) σ') : ACall Tryz.prog f args σ K' := by
  intro ρ I w vs hr hv
  refine (h ρ I w vs hr hv).mono ?_
  rintro e w' ⟨ρ', I', σ', oc, h1, h2, h3, h4⟩
  rcases hk oc σ' h4 with h5 | ⟨a, b, rfl, hw, h5⟩
  · exact ⟨ρ', I', σ', oc, h1, h2, h3, h5⟩
  · cases e <;> simp only at h3
    exact ⟨ρ', I', σ', .ret b, h1, h2, h3.wkb hw, h5⟩
theorem PS.ofW {f np : Nat} {rs : List ResultVar} {pc : PC} (hf : FnIs Tryz.prog f np rs pc) (hint : Nat → Hint) {args : List AV} {l r : List Int} {out : Option (AV × List Int)} (hn : args.length + 1 ≤ np)
    (h : ∀ (A B : Nv.ST) (u : List Int), l = u ++ r → wW Tryz.prog hint pc (endA Tryz.prog rs fun oc σ' => match out with
      | none => oc = .panic badV ∧ ∃ τ, σ' = A ++ τ
      | some (v, r') => ∃ v0, oc = .ret v0 ∧ WkB v0 v ∧ ∃ (u' : List Int) (τ : Nv.ST), l = u' ++ r' ∧ σ' = A ++ boxP l u'.length :: (B ++ τ)) ⟨⟩ ⟨⟩ (initFr (.ptr A.length 0 :: args)) (A ++ boxP l u.length :: B)) : PS f args l r out := fun A B u e => by
  refine ACall.wkr (hf.go hint hn (h A B u e)) fun oc σ' hh => ?_
  cases out with
  | none => exact .inl hh
  | some x =>
    obtain ⟨v, r'⟩ := x
    obtain ⟨v0, rfl, hw, hh⟩ := hh
    exact .inr ⟨v0, v, rfl, hw, rfl, hh⟩

theorem wkB5 {a b c d e a' b' c' d' e' : AV} (h1 : WkB a a') (h2 : WkB b b') (h3 : WkB c c') (h4 : WkB d d') (h5 : WkB e e') : WkB (.agg [a, b, c, d, e]) (.agg [a', b', c', d', e']) := by
  refine .agg rfl fun i hi => ?_
  match i, hi with
  | 0, _ => exact h1
  | 1, _ => exact h2
  | 2, _ => exact h3
  | 3, _ => exact h4
  | 4, _ => exact h5
  | i + 5, hi => simp at hi; omega
theorem wk_set (s : List (Int × Int)) : WkB (.agg [.d (.int .i64 2), .d (setD s), .d .nilslice, .d (.int .i64 0), .d (.int .i64 0)]) (nodeA (setT s)) :=
  wkB5 (.d (.refl _)) (.d (.refl _)) (.d (.nil 5)) (.d (.refl _)) (.d (.refl _))
theorem wk_rep (x : Tree) (a b : Int) : WkB (.agg [.d (.int .i64 5), .d .nilslice, .d (.list 5 [nodeD x]), .d (.int .i64 a), .d (.int .i64 b)]) (nodeA (rep5 x a b)) :=
  wkB5 (.d (.refl _)) (.d (.nil 2)) (.d (.refl _)) (.d (.refl _)) (.d (.refl _))
theorem wk_many (k : Int) (l : List Tree) : WkB (.agg [.d (.int .i64 k), .d .nilslice, .d (.list 5 (l.map nodeD)), .d (.int .i64 0), .d (.int .i64 0)]) (nodeA (.mk k [] l 0 0)) :=
  wkB5 (.d (.refl _)) (.d (.nil 2)) (.d (.refl _)) (.d (.refl _)) (.d (.refl _))
theorem wk_none : WkB (.agg [.d (.int .i64 1), .d .nilslice, .d .nilslice, .d (.int .i64 0), .d (.int .i64 0)]) (nodeA (.mk 1 [] [] 0 0)) :=
  wkB5 (.d (.refl _)) (.d (.nil 2)) (.d (.nil 5)) (.d (.refl _)) (.d (.refl _))

theorem Sorts_sortR : Sorts sortR := ⟨sort104, sort_len, sort_mem⟩
theorem Chars.nonneg {l : List Int} (h : Chars l) : ∀ c, c ∈ l → 0 ≤ c := fun c hc => by have := h c hc; rw [charB_iff] at this; omega

/-- What a choice of the grammar comes to, with so much depth. -/
def CH (f : Nat) : Prop := ∀ l r : List Int, l.length ≤ 10000 → Chars l → r.length < f → PS 65 [] l r ((chP sortR f r).map fun x => (nodeA x.1, x.2))

def specB : List UInt8 := [92, 40, 41, 91, 93, 123, 125, 124, 42, 43, 63, 46]
theorem spec_eq : ints specB = spec := by decide
def hintM : Nat → Hint := fun i => if i = 40 then .freeze else .no
@[go_sem] theorem hintM_at (i : Nat) : hintM i = if i = 40 then .freeze else .no := nrfl rfl

theorem atom76 (f : Nat) (ih : CH f) (l r : List Int) (hl : l.length ≤ 10000) (hc : Chars l) (hf : r.length ≤ f) : PS 108 [] l r ((atomP sortR (chP sortR f) r).map fun x => (nodeA x.1, x.2)) := by
  refine PS.ofW fn108 hintM (Nat.le_refl _) fun A B u e => ?_
  have hl' : l.length ≤ 1000000 := by omega
  have h0 := hc.nonneg
  simp (disch := omega) only [go_sem, reduceIte, reduceDIte, reduceCtorEq, Nat.reduceBEq, Nat.reduceEqDiff, Nat.reduceAdd, Nat.reduceSub, Nat.reduceMul, Nat.reduceLT, Nat.reduceLeDiff, Nat.reduceBNe, Int.reduceNeg, Int.reduceAdd, Int.reduceSub, Int.reduceMul, Int.reduceLT, Int.reduceLE, Int.reduceGT, Int.reduceGE, Int.reduceEq, Int.reduceNe, Int.reduceToNat, Int.reduceTMod, Int.reduceTDiv, boxP, List.append_assoc, List.cons_append, List.nil_append, List.length_append, stGet_app, stGet_app0, stSet_app, stSet_app0]
  refine (next84 l r hl' h0).at A (B ++ [.box 78 [.d (.int .i64 0), .d .nilslice, .d .nilslice, .d (.int .i64 0), .d (.int .i64 0)]]) u e ?_ ?_
  · intro v r' u1 τ1 ho e1
    cases r with
    | nil => cases ho
    | cons c t =>
      cases ho
      have hcc : charB c = true := hc c (by rw [e]; simp)
      have hlt : r'.length < f := by simp at hf; omega
      by_cases c1 : c = 40
      · simp (disch := omega) only [go_sem, reduceIte, reduceDIte, reduceCtorEq, Nat.reduceBEq, Nat.reduceEqDiff, Nat.reduceAdd, Nat.reduceSub, Nat.reduceMul, Nat.reduceLT, Nat.reduceLeDiff, Nat.reduceBNe, Int.reduceNeg, Int.reduceAdd, Int.reduceSub, Int.reduceMul, Int.reduceLT, Int.reduceLE, Int.reduceGT, Int.reduceGE, Int.reduceEq, Int.reduceNe, Int.reduceToNat, Int.reduceTMod, Int.reduceTDiv, c1, List.append_assoc, List.cons_append, List.nil_append, List.length_append, stGet_app, stGet_app0, stSet_app, stSet_app0]
        refine (ih l r' hl hc hlt).at A _ u1 e1 ?_ ?_
        · intro v r2 u2 τ2 ho e2
          cases hch : chP sortR f r' with
          | none => rw [hch] at ho; cases ho
          | some x =>
            obtain ⟨n, r2'⟩ := x
            rw [hch] at ho
            simp only [Option.map_some, Option.some.injEq, Prod.mk.injEq] at ho
            obtain ⟨rfl, rfl⟩ := ho
            simp (disch := omega) only [go_sem, reduceIte, reduceDIte, reduceCtorEq, Nat.reduceBEq, Nat.reduceEqDiff, Nat.reduceAdd, Nat.reduceSub, Nat.reduceMul, Nat.reduceLT, Nat.reduceLeDiff, Nat.reduceBNe, Int.reduceNeg, Int.reduceAdd, Int.reduceSub, Int.reduceMul, Int.reduceLT, Int.reduceLE, Int.reduceGT, Int.reduceGE, Int.reduceEq, Int.reduceNe, Int.reduceToNat, Int.reduceTMod, Int.reduceTDiv, nodeA, nodeF, List.append_assoc, List.cons_append, List.nil_append, List.length_append, stGet_app, stGet_app0, stSet_app, stSet_app0]
            refine (must78 l r2' hl' 41 (by omega)).at A _ u2 e2 ?_ ?_
            · intro v r3 u3 τ3 ho e3
              by_cases h41 : r2'.headD (-1) = 41
              · rw [if_pos h41] at ho
                simp only [Option.some.injEq, Prod.mk.injEq] at ho
                obtain ⟨rfl, rfl⟩ := ho
                simp (disch := omega) only [go_sem, reduceIte, reduceDIte, reduceCtorEq, Nat.reduceBEq, Nat.reduceEqDiff, Nat.reduceAdd, Nat.reduceSub, Nat.reduceMul, Nat.reduceLT, Nat.reduceLeDiff, Nat.reduceBNe, Int.reduceNeg, Int.reduceAdd, Int.reduceSub, Int.reduceMul, Int.reduceLT, Int.reduceLE, Int.reduceGT, Int.reduceGE, Int.reduceEq, Int.reduceNe, Int.reduceToNat, Int.reduceTMod, Int.reduceTDiv, atomP, c1, hch, h41, Option.map_some, boxP, List.append_assoc, List.cons_append, List.nil_append, List.length_append, stGet_app, stGet_app0, stSet_app, stSet_app0]
                refine ⟨_, rfl, wkB5 (.d (.refl _)) (.d (.refl _)) (.d (.refl _)) (.d (.refl _)) (.d (.refl _)), u3, _, e3, rfl⟩
              · rw [if_neg h41] at ho; cases ho
            · intro ho σ'
              by_cases h41 : r2'.headD (-1) = 41
              · rw [if_pos h41] at ho; cases ho
              · simp (disch := omega) only [go_sem, reduceIte, reduceDIte, reduceCtorEq, Nat.reduceBEq, Nat.reduceEqDiff, Nat.reduceAdd, Nat.reduceSub, Nat.reduceMul, Nat.reduceLT, Nat.reduceLeDiff, Nat.reduceBNe, Int.reduceNeg, Int.reduceAdd, Int.reduceSub, Int.reduceMul, Int.reduceLT, Int.reduceLE, Int.reduceGT, Int.reduceGE, Int.reduceEq, Int.reduceNe, Int.reduceToNat, Int.reduceTMod, Int.reduceTDiv, atomP, c1, hch, h41, Option.map_none]; exact ⟨_, rfl⟩
        · intro ho σ'
          cases hch : chP sortR f r' with
          | none => simp (disch := omega) only [go_sem, reduceIte, reduceDIte, reduceCtorEq, Nat.reduceBEq, Nat.reduceEqDiff, Nat.reduceAdd, Nat.reduceSub, Nat.reduceMul, Nat.reduceLT, Nat.reduceLeDiff, Nat.reduceBNe, Int.reduceNeg, Int.reduceAdd, Int.reduceSub, Int.reduceMul, Int.reduceLT, Int.reduceLE, Int.reduceGT, Int.reduceGE, Int.reduceEq, Int.reduceNe, Int.reduceToNat, Int.reduceTMod, Int.reduceTDiv, atomP, c1, hch, Option.map_none]; exact ⟨_, rfl⟩
          | some x => rw [hch] at ho; cases ho
      by_cases c2 : c = 46
      · simp (disch := omega) only [go_sem, reduceIte, reduceDIte, reduceCtorEq, Nat.reduceBEq, Nat.reduceEqDiff, Nat.reduceAdd, Nat.reduceSub, Nat.reduceMul, Nat.reduceLT, Nat.reduceLeDiff, Nat.reduceBNe, Int.reduceNeg, Int.reduceAdd, Int.reduceSub, Int.reduceMul, Int.reduceLT, Int.reduceLE, Int.reduceGT, Int.reduceGE, Int.reduceEq, Int.reduceNe, Int.reduceToNat, Int.reduceTMod, Int.reduceTDiv, c1, c2, List.append_assoc, List.cons_append, List.nil_append, List.length_append, stGet_app, stGet_app0, stSet_app, stSet_app0]
        refine all59.at ?_
        simp (disch := omega) only [go_sem, reduceIte, reduceDIte, reduceCtorEq, Nat.reduceBEq, Nat.reduceEqDiff, Nat.reduceAdd, Nat.reduceSub, Nat.reduceMul, Nat.reduceLT, Nat.reduceLeDiff, Nat.reduceBNe, Int.reduceNeg, Int.reduceAdd, Int.reduceSub, Int.reduceMul, Int.reduceLT, Int.reduceLE, Int.reduceGT, Int.reduceGE, Int.reduceEq, Int.reduceNe, Int.reduceToNat, Int.reduceTMod, Int.reduceTDiv, setD, atomP, c1, c2, Option.map_some, boxP, List.append_assoc, List.cons_append, List.nil_append, List.length_append, stGet_app, stGet_app0, stSet_app, stSet_app0]
        exact ⟨_, rfl, wk_set _, u1, _, e1, rfl⟩
      by_cases c3 : c = 91
      · simp (disch := omega) only [go_sem, reduceIte, reduceDIte, reduceCtorEq, Nat.reduceBEq, Nat.reduceEqDiff, Nat.reduceAdd, Nat.reduceSub, Nat.reduceMul, Nat.reduceLT, Nat.reduceLeDiff, Nat.reduceBNe, Int.reduceNeg, Int.reduceAdd, Int.reduceSub, Int.reduceMul, Int.reduceLT, Int.reduceLE, Int.reduceGT, Int.reduceGE, Int.reduceEq, Int.reduceNe, Int.reduceToNat, Int.reduceTMod, Int.reduceTDiv, c1, c2, c3, List.append_assoc, List.cons_append, List.nil_append, List.length_append, stGet_app, stGet_app0, stSet_app, stSet_app0]
        refine (class85 sortR Sorts_sortR l r' hl h0).at A _ u1 e1 ?_ ?_
        · intro v r2 u2 τ2 ho e2
          cases hcl : classP sortR r' with
          | none => rw [hcl] at ho; cases ho
          | some x =>
            obtain ⟨s, r2'⟩ := x
            rw [hcl] at ho
            simp only [Option.map_some, Option.some.injEq, Prod.mk.injEq] at ho
            obtain ⟨rfl, rfl⟩ := ho
            simp (disch := omega) only [go_sem, reduceIte, reduceDIte, reduceCtorEq, Nat.reduceBEq, Nat.reduceEqDiff, Nat.reduceAdd, Nat.reduceSub, Nat.reduceMul, Nat.reduceLT, Nat.reduceLeDiff, Nat.reduceBNe, Int.reduceNeg, Int.reduceAdd, Int.reduceSub, Int.reduceMul, Int.reduceLT, Int.reduceLE, Int.reduceGT, Int.reduceGE, Int.reduceEq, Int.reduceNe, Int.reduceToNat, Int.reduceTMod, Int.reduceTDiv, setD, atomP, c1, c2, c3, hcl, Option.map_some, boxP, List.append_assoc, List.cons_append, List.nil_append, List.length_append, stGet_app, stGet_app0, stSet_app, stSet_app0]
            exact ⟨_, rfl, wk_set _, u2, _, e2, rfl⟩
        · intro ho σ'
          cases hcl : classP sortR r' with
          | none => simp (disch := omega) only [go_sem, reduceIte, reduceDIte, reduceCtorEq, Nat.reduceBEq, Nat.reduceEqDiff, Nat.reduceAdd, Nat.reduceSub, Nat.reduceMul, Nat.reduceLT, Nat.reduceLeDiff, Nat.reduceBNe, Int.reduceNeg, Int.reduceAdd, Int.reduceSub, Int.reduceMul, Int.reduceLT, Int.reduceLE, Int.reduceGT, Int.reduceGE, Int.reduceEq, Int.reduceNe, Int.reduceToNat, Int.reduceTMod, Int.reduceTDiv, atomP, c1, c2, c3, hcl, Option.map_none]; exact ⟨_, rfl⟩
          | some x => rw [hcl] at ho; cases ho
      by_cases c4 : c = 92
      · simp (disch := omega) only [go_sem, reduceIte, reduceDIte, reduceCtorEq, Nat.reduceBEq, Nat.reduceEqDiff, Nat.reduceAdd, Nat.reduceSub, Nat.reduceMul, Nat.reduceLT, Nat.reduceLeDiff, Nat.reduceBNe, Int.reduceNeg, Int.reduceAdd, Int.reduceSub, Int.reduceMul, Int.reduceLT, Int.reduceLE, Int.reduceGT, Int.reduceGE, Int.reduceEq, Int.reduceNe, Int.reduceToNat, Int.reduceTMod, Int.reduceTDiv, c1, c2, c3, c4, List.append_assoc, List.cons_append, List.nil_append, List.length_append, stGet_app, stGet_app0, stSet_app, stSet_app0]
        refine (next84 l r' hl' h0).at A _ u1 e1 ?_ ?_
        · intro v r2 u2 τ2 ho e2
          cases r' with
          | nil => cases ho
          | cons d r' =>
            cases ho
            simp (disch := omega) only [go_sem, reduceIte, reduceDIte, reduceCtorEq, Nat.reduceBEq, Nat.reduceEqDiff, Nat.reduceAdd, Nat.reduceSub, Nat.reduceMul, Nat.reduceLT, Nat.reduceLeDiff, Nat.reduceBNe, Int.reduceNeg, Int.reduceAdd, Int.reduceSub, Int.reduceMul, Int.reduceLT, Int.reduceLE, Int.reduceGT, Int.reduceGE, Int.reduceEq, Int.reduceNe, Int.reduceToNat, Int.reduceTMod, Int.reduceTDiv, atomP, c1, c2, c3, c4, Option.map_some, boxP, List.append_assoc, List.cons_append, List.nil_append, List.length_append, stGet_app, stGet_app0, stSet_app, stSet_app0]
            exact ⟨_, rfl, wk_set [(d, d)], u2, _, e2, rfl⟩
        · intro ho σ'
          cases r' with
          | nil => simp (disch := omega) only [go_sem, reduceIte, reduceDIte, reduceCtorEq, Nat.reduceBEq, Nat.reduceEqDiff, Nat.reduceAdd, Nat.reduceSub, Nat.reduceMul, Nat.reduceLT, Nat.reduceLeDiff, Nat.reduceBNe, Int.reduceNeg, Int.reduceAdd, Int.reduceSub, Int.reduceMul, Int.reduceLT, Int.reduceLE, Int.reduceGT, Int.reduceGE, Int.reduceEq, Int.reduceNe, Int.reduceToNat, Int.reduceTMod, Int.reduceTDiv, atomP, c1, c2, c3, c4, Option.map_none]; exact ⟨_, rfl⟩
          | cons d r' => cases ho
      have hcon := contains_all specB (encB c) (by decide)
      rw [contains_enc hcc specB (by decide), spec_eq] at hcon
      simp (disch := omega) only [go_sem, reduceIte, reduceDIte, reduceCtorEq, Nat.reduceBEq, Nat.reduceEqDiff, Nat.reduceAdd, Nat.reduceSub, Nat.reduceMul, Nat.reduceLT, Nat.reduceLeDiff, Nat.reduceBNe, Int.reduceNeg, Int.reduceAdd, Int.reduceSub, Int.reduceMul, Int.reduceLT, Int.reduceLE, Int.reduceGT, Int.reduceGE, Int.reduceEq, Int.reduceNe, Int.reduceToNat, Int.reduceTMod, Int.reduceTDiv, c1, c2, c3, c4, List.append_assoc, List.cons_append, List.nil_append, List.length_append, stGet_app, stGet_app0, stSet_app, stSet_app0]
      refine hcon.at ?_
      by_cases c5 : c ∈ spec
      · simp (disch := omega) only [go_sem, reduceIte, reduceDIte, reduceCtorEq, Nat.reduceBEq, Nat.reduceEqDiff, Nat.reduceAdd, Nat.reduceSub, Nat.reduceMul, Nat.reduceLT, Nat.reduceLeDiff, Nat.reduceBNe, Int.reduceNeg, Int.reduceAdd, Int.reduceSub, Int.reduceMul, Int.reduceLT, Int.reduceLE, Int.reduceGT, Int.reduceGE, Int.reduceEq, Int.reduceNe, Int.reduceToNat, Int.reduceTMod, Int.reduceTDiv, atomP, c1, c2, c3, c4, c5, decide_true, Option.map_none, badV]; exact ⟨_, rfl⟩
      · simp (disch := omega) only [go_sem, reduceIte, reduceDIte, reduceCtorEq, Nat.reduceBEq, Nat.reduceEqDiff, Nat.reduceAdd, Nat.reduceSub, Nat.reduceMul, Nat.reduceLT, Nat.reduceLeDiff, Nat.reduceBNe, Int.reduceNeg, Int.reduceAdd, Int.reduceSub, Int.reduceMul, Int.reduceLT, Int.reduceLE, Int.reduceGT, Int.reduceGE, Int.reduceEq, Int.reduceNe, Int.reduceToNat, Int.reduceTMod, Int.reduceTDiv, atomP, c1, c2, c3, c4, c5, decide_false, Option.map_some, boxP, List.append_assoc, List.cons_append, List.nil_append, List.length_append, stGet_app, stGet_app0, stSet_app, stSet_app0]
        exact ⟨_, rfl, wk_set [(c, c)], u1, _, e1, rfl⟩
  · intro ho σ'
    cases r with
    | nil => simp (disch := omega) only [go_sem, reduceIte, reduceDIte, reduceCtorEq, Nat.reduceBEq, Nat.reduceEqDiff, Nat.reduceAdd, Nat.reduceSub, Nat.reduceMul, Nat.reduceLT, Nat.reduceLeDiff, Nat.reduceBNe, Int.reduceNeg, Int.reduceAdd, Int.reduceSub, Int.reduceMul, Int.reduceLT, Int.reduceLE, Int.reduceGT, Int.reduceGE, Int.reduceEq, Int.reduceNe, Int.reduceToNat, Int.reduceTMod, Int.reduceTDiv, atomP, Option.map_none]; exact ⟨_, rfl⟩
    | cons c t => cases ho
end Go.Proofs.YtjgbdlaecpkmhaaGreatDoor
