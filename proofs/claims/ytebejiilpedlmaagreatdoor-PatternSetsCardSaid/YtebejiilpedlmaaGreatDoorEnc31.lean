/- Part of a proof about the functions of this seat. -/
import Derived.Test.YtebejiilpedlmaaGreatDoorG1V31
import Derived.Lib.TrimUEq
import Derived.Lib.IndexMore
set_option linter.unusedVariables false
set_option linter.unusedSimpArgs false
set_option maxRecDepth 100000
namespace Go.Proofs.YtebejiilpedlmaaGreatDoor
open Go Nv Pat

/- Characters as bytes, and back. -/
def encB (c : Int) : List UInt8 := (Utf8.encode c).data.toList
theorem encB1 {r : Nat} (h : r < 128) : encB r = [UInt8.ofNat r] := by
  have v : Utf8.valid (r : Int) = true := by simp [Utf8.valid]; omega
  simp [encB, Utf8.encode, v, h]
theorem encB2 {r : Nat} (h1 : 128 ≤ r) (h2 : r < 2048) : encB r = [UInt8.ofNat (192 + r / 64), UInt8.ofNat (128 + r % 64)] := by
  have v : Utf8.valid (r : Int) = true := by simp [Utf8.valid]; omega
  have c1 : ¬ r < 128 := by omega
  simp [encB, Utf8.encode, v, c1, h2]
theorem encB3 {r : Nat} (h1 : 2048 ≤ r) (h2 : r < 65536) (hv : r < 55296 ∨ 57344 ≤ r) : encB r = [UInt8.ofNat (224 + r / 4096), UInt8.ofNat (128 + r / 64 % 64), UInt8.ofNat (128 + r % 64)] := by
  have v : Utf8.valid (r : Int) = true := by simp [Utf8.valid]; omega
  have c1 : ¬ r < 128 := by omega
  have c2 : ¬ r < 2048 := by omega
  simp [encB, Utf8.encode, v, c1, c2, h2]
theorem encB4 {r : Nat} (h1 : 65536 ≤ r) (h2 : r ≤ 1114111) : encB r = [UInt8.ofNat (240 + r / 262144), UInt8.ofNat (128 + r / 4096 % 64), UInt8.ofNat (128 + r / 64 % 64), UInt8.ofNat (128 + r % 64)] := by
  have v : Utf8.valid (r : Int) = true := by simp [Utf8.valid]; omega
  have c1 : ¬ r < 128 := by omega
  have c2 : ¬ r < 2048 := by omega
  have c3 : ¬ r < 65536 := by omega
  simp [encB, Utf8.encode, v, c1, c2, c3]
theorem char_cases {c : Int} (h : charB c = true) : ∃ r : Nat, c = r ∧ (r < 128 ∨ (128 ≤ r ∧ r < 2048) ∨ (2048 ≤ r ∧ r < 65536 ∧ (r < 55296 ∨ 57344 ≤ r)) ∨ (65536 ≤ r ∧ r ≤ 1114111)) := by
  rw [charB_iff] at h
  exact ⟨c.toNat, by omega, by omega⟩
theorem u8n (n : Nat) (h : n < 256) : (UInt8.ofNat n).toNat = n := by simp; omega

theorem dec_enc {c : Int} (h : charB c = true) (t : List UInt8) : Lib.decodeL (encB c ++ t) = (c.toNat, (encB c).length) := by
  obtain ⟨r, rfl, h1 | ⟨h1, h2⟩ | ⟨h1, h2, h3⟩ | ⟨h1, h2⟩⟩ := char_cases h
  · rw [encB1 h1, Lib.decodeL_N]
    simp only [List.cons_append, List.nil_append, List.getD_cons_zero, u8n r (by omega), Lib.decodeN, h1, if_true]
    simp
  · rw [encB2 h1 h2, Lib.decodeL_N]
    simp only [List.cons_append, List.nil_append, List.getD_cons_zero, List.getD_cons_succ, u8n (192 + r / 64) (by omega), u8n (128 + r % 64) (by omega), Lib.decodeN, List.length_cons]
    rw [if_neg (by omega), if_pos (by omega), if_pos (by omega)]
    simp; omega
  · rw [encB3 h1 h2 h3, Lib.decodeL_N]
    simp only [List.cons_append, List.nil_append, List.getD_cons_zero, List.getD_cons_succ, u8n (224 + r / 4096) (by omega), u8n (128 + r / 64 % 64) (by omega), u8n (128 + r % 64) (by omega), Lib.decodeN, List.length_cons]
    have e : (224 + r / 4096) % 16 * 4096 + (128 + r / 64 % 64) % 64 * 64 + (128 + r % 64) % 64 = r := by omega
    rw [if_neg (by omega), if_neg (by omega), if_pos (by omega), e, if_pos (by omega)]
    simp
  · rw [encB4 h1 h2, Lib.decodeL_N]
    simp only [List.cons_append, List.nil_append, List.getD_cons_zero, List.getD_cons_succ, u8n (240 + r / 262144) (by omega), u8n (128 + r / 4096 % 64) (by omega), u8n (128 + r / 64 % 64) (by omega), u8n (128 + r % 64) (by omega), Lib.decodeN, List.length_cons]
    have e : (240 + r / 262144) % 8 * 262144 + (128 + r / 4096 % 64) % 64 * 4096 + (128 + r / 64 % 64) % 64 * 64 + (128 + r % 64) % 64 = r := by omega
    rw [if_neg (by omega), if_neg (by omega), if_neg (by omega), if_pos (by omega), e, if_pos (by omega)]
    simp

theorem begin_two {b : Int} (h1 : 194 ≤ b) (h2 : b ≤ 223) : (beginM b).missing = 1 ∧ (beginM b).low = 128 ∧ (beginM b).high = 191 := by
  unfold beginM; rw [if_pos ⟨h1, h2⟩]; exact ⟨rfl, rfl, rfl⟩
theorem begin_three {b : Int} (h1 : 224 ≤ b) (h2 : b ≤ 239) : (beginM b).missing = 2 ∧ (beginM b).low = (if b = 224 then 160 else 128) ∧ (beginM b).high = (if b = 237 then 159 else 191) := by
  unfold beginM; rw [if_neg (by omega), if_pos ⟨h1, h2⟩]; exact ⟨rfl, rfl, rfl⟩
theorem begin_four {b : Int} (h1 : 240 ≤ b) (h2 : b ≤ 244) : (beginM b).missing = 3 ∧ (beginM b).low = (if b = 240 then 144 else 128) ∧ (beginM b).high = (if b = 244 then 143 else 191) := by
  unfold beginM; rw [if_neg (by omega), if_neg (by omega), if_pos ⟨h1, h2⟩]; exact ⟨rfl, rfl, rfl⟩
theorem begin_none {b : Int} (h1 : ¬ (194 ≤ b ∧ b ≤ 223)) (h2 : ¬ (224 ≤ b ∧ b ≤ 239)) (h3 : ¬ (240 ≤ b ∧ b ≤ 244)) : (beginM b).missing = 0 := by
  unfold beginM; rw [if_neg h1, if_neg h2, if_neg h3]
theorem begin_which (b : Int) : (194 ≤ b ∧ b ≤ 223) ∨ (224 ≤ b ∧ b ≤ 239) ∨ (240 ≤ b ∧ b ≤ 244) ∨ (beginM b).missing = 0 := by
  by_cases h1 : 194 ≤ b ∧ b ≤ 223
  · exact .inl h1
  by_cases h2 : 224 ≤ b ∧ b ≤ 239
  · exact .inr (.inl h2)
  by_cases h3 : 240 ≤ b ∧ b ≤ 244
  · exact .inr (.inr (.inl h3))
  · exact .inr (.inr (.inr (begin_none h1 h2 h3)))
theorem begin1 {b : Int} (h : (beginM b).missing = 1) : 194 ≤ b ∧ b ≤ 223 ∧ (beginM b).low = 128 ∧ (beginM b).high = 191 := by
  rcases begin_which b with k | k | k | k
  · exact ⟨k.1, k.2, (begin_two k.1 k.2).2⟩
  · have := (begin_three k.1 k.2).1; omega
  · have := (begin_four k.1 k.2).1; omega
  · omega
theorem begin2 {b : Int} (h : (beginM b).missing = 2) : 224 ≤ b ∧ b ≤ 239 ∧ (beginM b).low = (if b = 224 then 160 else 128) ∧ (beginM b).high = (if b = 237 then 159 else 191) := by
  rcases begin_which b with k | k | k | k
  · have := (begin_two k.1 k.2).1; omega
  · exact ⟨k.1, k.2, (begin_three k.1 k.2).2⟩
  · have := (begin_four k.1 k.2).1; omega
  · omega
theorem begin3 {b : Int} (h : (beginM b).missing = 3) : 240 ≤ b ∧ b ≤ 244 ∧ (beginM b).low = (if b = 240 then 144 else 128) ∧ (beginM b).high = (if b = 244 then 143 else 191) := by
  rcases begin_which b with k | k | k | k
  · have := (begin_two k.1 k.2).1; omega
  · have := (begin_three k.1 k.2).1; omega
  · exact ⟨k.1, k.2, (begin_four k.1 k.2).2⟩
  · omega
theorem u8e {a b : UInt8} (h : a.toNat = b.toNat) : a = b := UInt8.toNat_inj.1 h
theorem seq_enc {p : List UInt8} (hp : OkSeq p) : ∃ c, charB c = true ∧ p = encB c := by
  cases hp with
  | @one b h =>
    refine ⟨(b.toNat : Nat), by rw [charB_iff]; omega, ?_⟩
    rw [encB1 h]; simp
  | @two b c h1 h2 h3 =>
    obtain ⟨k1, k2, k3, k4⟩ := begin1 h1
    rw [k3] at h2; rw [k4] at h3
    unfold bt at *
    obtain ⟨r, hr⟩ : ∃ r, r = (b.toNat - 192) * 64 + (c.toNat - 128) := ⟨_, rfl⟩
    refine ⟨(r : Nat), by rw [charB_iff]; omega, ?_⟩
    rw [encB2 (by omega) (by omega)]
    congr 1
    · apply u8e; rw [u8n _ (by omega)]; omega
    · congr 1; apply u8e; rw [u8n _ (by omega)]; omega
  | @three b c d h1 h2 h3 h4 h5 =>
    obtain ⟨k1, k2, k3, k4⟩ := begin2 h1
    rw [k3] at h2; rw [k4] at h3
    unfold bt at *
    obtain ⟨r, hr⟩ : ∃ r, r = (b.toNat - 224) * 4096 + (c.toNat - 128) * 64 + (d.toNat - 128) := ⟨_, rfl⟩
    have hb : (2048 ≤ r ∧ r < 65536) ∧ (r < 55296 ∨ 57344 ≤ r) := by
      split at h2 <;> split at h3 <;> omega
    have hc : 128 ≤ c.toNat := by split at h2 <;> omega
    have hc2 : c.toNat ≤ 191 := by split at h3 <;> omega
    refine ⟨(r : Nat), by rw [charB_iff]; omega, ?_⟩
    rw [encB3 hb.1.1 hb.1.2 hb.2]
    congr 1
    · apply u8e; rw [u8n _ (by omega)]; omega
    congr 1
    · apply u8e; rw [u8n _ (by omega)]; omega
    · congr 1; apply u8e; rw [u8n _ (by omega)]; omega
  | @four b c d f h1 h2 h3 h4 h5 h6 h7 =>
    obtain ⟨k1, k2, k3, k4⟩ := begin3 h1
    rw [k3] at h2; rw [k4] at h3
    unfold bt at *
    obtain ⟨r, hr⟩ : ∃ r, r = (b.toNat - 240) * 262144 + (c.toNat - 128) * 4096 + (d.toNat - 128) * 64 + (f.toNat - 128) := ⟨_, rfl⟩
    have hb : 65536 ≤ r ∧ r ≤ 1114111 := by
      split at h2 <;> split at h3 <;> omega
    have hc : 128 ≤ c.toNat := by split at h2 <;> omega
    have hc2 : c.toNat ≤ 191 := by split at h3 <;> omega
    refine ⟨(r : Nat), by rw [charB_iff]; omega, ?_⟩
    rw [encB4 hb.1 hb.2]
    congr 1
    · apply u8e; rw [u8n _ (by omega)]; omega
    congr 1
    · apply u8e; rw [u8n _ (by omega)]; omega
    congr 1
    · apply u8e; rw [u8n _ (by omega)]; omega
    · congr 1; apply u8e; rw [u8n _ (by omega)]; omega
theorem enc_seq {c : Int} (h : charB c = true) : OkSeq (encB c) := by
  obtain ⟨r, rfl, h1 | ⟨h1, h2⟩ | ⟨h1, h2, h3⟩ | ⟨h1, h2⟩⟩ := char_cases h
  · rw [encB1 h1]; exact .one (by rw [u8n _ (by omega)]; exact h1)
  · rw [encB2 h1 h2]
    have e1 := u8n (192 + r / 64) (by omega)
    have e2 := u8n (128 + r % 64) (by omega)
    obtain ⟨k1, k2, k3⟩ := begin_two (b := bt (UInt8.ofNat (192 + r / 64))) (by unfold bt; omega) (by unfold bt; omega)
    exact .two k1 (by rw [k2]; unfold bt; omega) (by rw [k3]; unfold bt; omega)
  · rw [encB3 h1 h2 h3]
    have e1 := u8n (224 + r / 4096) (by omega)
    have e2 := u8n (128 + r / 64 % 64) (by omega)
    have e3 := u8n (128 + r % 64) (by omega)
    obtain ⟨k1, k2, k3⟩ := begin_three (b := bt (UInt8.ofNat (224 + r / 4096))) (by unfold bt; omega) (by unfold bt; omega)
    refine .three k1 (by rw [k2]; unfold bt; rw [e1, e2]; split <;> omega) (by rw [k3]; unfold bt; rw [e1, e2]; split <;> omega) (by unfold bt; omega) (by unfold bt; omega)
  · rw [encB4 h1 h2]
    have e1 := u8n (240 + r / 262144) (by omega)
    have e2 := u8n (128 + r / 4096 % 64) (by omega)
    have e3 := u8n (128 + r / 64 % 64) (by omega)
    have e4 := u8n (128 + r % 64) (by omega)
    obtain ⟨k1, k2, k3⟩ := begin_four (b := bt (UInt8.ofNat (240 + r / 262144))) (by unfold bt; omega) (by unfold bt; omega)
    refine .four k1 (by rw [k2]; unfold bt; rw [e1, e2]; split <;> omega) (by rw [k3]; unfold bt; rw [e1, e2]; split <;> omega) (by unfold bt; omega) (by unfold bt; omega) (by unfold bt; omega) (by unfold bt; omega)

def encS (l : List Int) : List UInt8 := l.flatMap encB
theorem encS_cons (c : Int) (l : List Int) : encS (c :: l) = encB c ++ encS l := rfl
theorem encS_append (l m : List Int) : encS (l ++ m) = encS l ++ encS m := by simp [encS]
def Chars (l : List Int) : Prop := ∀ c, c ∈ l → charB c = true
theorem Chars.cons {c : Int} {l : List Int} (h : Chars (c :: l)) : charB c = true ∧ Chars l := ⟨h c (by simp), fun d hd => h d (by simp [hd])⟩
theorem Chars.append {l m : List Int} (h : Chars l) (k : Chars m) : Chars (l ++ m) := fun c hc => (List.mem_append.1 hc).elim (h c) (k c)
theorem valid_enc : ∀ l : List Int, Chars l → Lib.validD (encS l) = true
  | [], _ => rfl
  | c :: l, h => by rw [encS_cons, valid_seq (enc_seq h.cons.1)]; exact valid_enc l h.cons.2
theorem valid_as {s : List UInt8} (h : Lib.validD s = true) : ∃ l, Chars l ∧ s = encS l := by
  refine valid_ind (P := fun s => ∃ l, Chars l ∧ s = encS l) ⟨[], fun c hc => (by cases hc), rfl⟩ (fun p r hp _ ⟨l, h1, h2⟩ => ?_) s.length s (Nat.le_refl _) h
  obtain ⟨c, hc, rfl⟩ := seq_enc hp
  exact ⟨c :: l, fun d hd => (List.mem_cons.1 hd).elim (fun e => e ▸ hc) (h1 d), by rw [encS_cons, h2]⟩
theorem encB_pos (c : Int) : 0 < (encB c).length := by
  unfold encB Utf8.encode
  simp only
  split
  · split <;> (try split) <;> (try split) <;> simp
  · split <;> (try split) <;> (try split) <;> simp
theorem len_enc : ∀ l : List Int, l.length ≤ (encS l).length
  | [] => Nat.le_refl _
  | c :: l => by have := len_enc l; have := encB_pos c; rw [encS_cons, List.length_append, List.length_cons]; omega

theorem runes_from (pre : List UInt8) : ∀ (l : List Int) (done : List UInt8) (bound : Nat) (acc : Array Value), Chars l → pre = done ++ encS l → (encS l).length ≤ bound →
    (Conv.runesFrom ⟨pre.toArray⟩ bound done.length acc).toList = acc.toList ++ l.map (Value.int .i32)
  | [], done, bound, acc, _, e, _ => by
    have hs : ¬ done.length < (⟨pre.toArray⟩ : ByteArray).size := by rw [e]; simp [encS, ByteArray.size]
    cases bound with
    | zero => simp [Conv.runesFrom]
    | succ b => rw [Conv.runesFrom, if_neg hs]; simp
  | c :: l, done, bound, acc, hc, e, hb => by
    have hp := encB_pos c
    rw [encS_cons, List.length_append] at hb
    obtain ⟨b, rfl⟩ : ∃ b, bound = b + 1 := ⟨bound - 1, by omega⟩
    have hs : done.length < (⟨pre.toArray⟩ : ByteArray).size := by rw [e, encS_cons]; simp [ByteArray.size]; omega
    have hd : Utf8.decode ⟨pre.toArray⟩ done.length = (c.toNat, (encB c).length) := by
      rw [← Lib.decodeL_drop]
      have : (⟨pre.toArray⟩ : ByteArray).data.toList.drop done.length = encB c ++ encS l := by simp [e, encS_cons]
      rw [this, dec_enc hc.cons.1]
    have hn : (Int.ofNat c.toNat) = c := by
      have := hc.cons.1
      rw [charB_iff] at this
      simp; omega
    rw [Conv.runesFrom, if_pos hs, hd]
    simp only [hn]
    have := runes_from pre l (done ++ encB c) b (acc.push (.int .i32 c)) hc.cons.2 (by rw [e, encS_cons]; simp) (by omega)
    rw [List.length_append] at this
    rw [this]; simp
theorem runes_enc {l : List Int} (h : Chars l) : Nv.runesD (encS l) = l.map (DV.int .i32) := by
  have := runes_from (encS l) l [] (encS l).length #[] h rfl (Nat.le_refl _)
  unfold Nv.runesD
  simp only [List.length_nil] at this
  rw [this]
  simp [Nv.valD, List.map_map, Function.comp_def]

/- a character among others -/
def ints (l : List UInt8) : List Int := l.map fun b => (b.toNat : Int)
theorem contains_enc {c : Int} (h : charB c = true) : ∀ sp : List UInt8, (∀ b, b ∈ sp → b.toNat < 128) → Lib.contains sp (encB c) = decide (c ∈ ints sp) := by
  have key : ∀ sp : List UInt8, (∀ b, b ∈ sp → b.toNat < 128) → -1 ≤ Lib.index sp (encB c) ∧ (0 ≤ Lib.index sp (encB c) ↔ c ∈ ints sp) := by
    intro sp
    have hne : (encB c).isEmpty = false := by
      have := encB_pos c
      cases he : encB c with
      | nil => rw [he] at this; simp at this
      | cons => rfl
    induction sp with
    | nil => intro _; simp [Lib.index, hne, ints]
    | cons b sp ih =>
      intro hb
      obtain ⟨i1, i2⟩ := ih fun d hd => hb d (by simp [hd])
      have hpre : (encB c).isPrefixOf (b :: sp) = decide (c = (b.toNat : Int)) := by
        have hb' := hb b (by simp)
        obtain ⟨r, rfl, h1 | ⟨h1, h2⟩ | ⟨h1, h2, h3⟩ | ⟨h1, h2⟩⟩ := char_cases h
        · rw [encB1 h1]
          simp only [List.isPrefixOf, Bool.and_true]
          rw [Bool.eq_iff_iff, beq_iff_eq, decide_eq_true_eq]
          constructor
          · intro e; rw [← e, u8n _ (by omega)]
          · intro e; apply u8e; rw [u8n _ (by omega)]; omega
        · have e1 := u8n (192 + r / 64) (by omega)
          have : ¬ (UInt8.ofNat (192 + r / 64)) = b := fun e => by rw [e] at e1; omega
          have hbf : (UInt8.ofNat (192 + r / 64) == b) = false := beq_eq_false_iff_ne.2 this
          rw [encB2 h1 h2]; simp only [List.isPrefixOf, hbf, Bool.false_and]; rw [eq_comm, decide_eq_false_iff_not]; omega
        · have e1 := u8n (224 + r / 4096) (by omega)
          have : ¬ (UInt8.ofNat (224 + r / 4096)) = b := fun e => by rw [e] at e1; omega
          have hbf : (UInt8.ofNat (224 + r / 4096) == b) = false := beq_eq_false_iff_ne.2 this
          rw [encB3 h1 h2 h3]; simp only [List.isPrefixOf, hbf, Bool.false_and]; rw [eq_comm, decide_eq_false_iff_not]; omega
        · have e1 := u8n (240 + r / 262144) (by omega)
          have : ¬ (UInt8.ofNat (240 + r / 262144)) = b := fun e => by rw [e] at e1; omega
          have hbf : (UInt8.ofNat (240 + r / 262144) == b) = false := beq_eq_false_iff_ne.2 this
          rw [encB4 h1 h2]; simp only [List.isPrefixOf, hbf, Bool.false_and]; rw [eq_comm, decide_eq_false_iff_not]; omega
      rw [Lib.index, hpre]
      by_cases he : c = (b.toNat : Int)
      · simp [he, ints]
      · simp only [he, decide_false, Bool.false_eq_true, if_false, beq_iff_eq]
        have em : c ∈ ints (b :: sp) ↔ c ∈ ints sp := by simp [ints, he]
        rw [em, ← i2]
        split <;> omega
  intro sp hsp
  rw [Lib.contains]
  exact decide_eq_decide.2 (key sp hsp).2
end Go.Proofs.YtebejiilpedlmaaGreatDoor
