/- Part of a proof about the functions of this seat. -/
import Derived.Test.YtefpcfooahogkaaGreatDoorG12G03z
import Derived.Lib.ValidLaws
import Derived.Test.YtefpcfooahogkaaGreatDoorG09Base3z
set_option linter.unusedVariables false
set_option linter.unusedSimpArgs false
set_option maxRecDepth 100000
namespace Go.Proofs.YtefpcfooahogkaaGreatDoor
open Go Nv Pat

structure Sq where
  value : Int
  missing : Int
  low : Int
  high : Int
  deriving Inhabited
def Sq.avs (s : Sq) : List AV := [.d (.int .i32 s.value), .d (.int .i64 s.missing), .d (.int .u8 s.low), .d (.int .u8 s.high)]
def Sq.av (s : Sq) : AV := .agg s.avs

def m8 (b m : Int) : Int := ((BitVec.ofInt 8 b &&& BitVec.ofInt 8 m).toNat : Int)
def beginM (b : Int) : Sq :=
  if 194 ≤ b ∧ b ≤ 223 then ⟨m8 b 31, 1, 128, 191⟩
  else if 224 ≤ b ∧ b ≤ 239 then ⟨m8 b 15, 2, if b = 224 then 160 else 128, if b = 237 then 159 else 191⟩
  else if 240 ≤ b ∧ b ≤ 244 then ⟨m8 b 7, 3, if b = 240 then 144 else 128, if b = 244 then 143 else 191⟩
  else ⟨0, 0, 128, 191⟩

/-- One character, whole. -/
inductive OkSeq : List UInt8 → Prop
  | one {b : UInt8} : b.toNat < 128 → OkSeq [b]
  | two {b c : UInt8} : (beginM (bt b)).missing = 1 → (beginM (bt b)).low ≤ bt c → bt c ≤ (beginM (bt b)).high → OkSeq [b, c]
  | three {b c d : UInt8} : (beginM (bt b)).missing = 2 → (beginM (bt b)).low ≤ bt c → bt c ≤ (beginM (bt b)).high → 128 ≤ bt d → bt d ≤ 191 → OkSeq [b, c, d]
  | four {b c d e : UInt8} : (beginM (bt b)).missing = 3 → (beginM (bt b)).low ≤ bt c → bt c ≤ (beginM (bt b)).high → 128 ≤ bt d → bt d ≤ 191 → 128 ≤ bt e → bt e ≤ 191 → OkSeq [b, c, d, e]
theorem first_begin : ∀ b : Fin 256, 128 ≤ b.val →
    ((beginM (b.val : Int)).missing = 0 ∧ Lib.firstT b.val % 8 ≠ 2 ∧ Lib.firstT b.val % 8 ≠ 3 ∧ Lib.firstT b.val % 8 ≠ 4) ∨
    ((beginM (b.val : Int)).missing + 1 = (Lib.firstT b.val % 8 : Nat) ∧ (Lib.firstT b.val % 8 = 2 ∨ Lib.firstT b.val % 8 = 3 ∨ Lib.firstT b.val % 8 = 4) ∧
      (beginM (b.val : Int)).low = (Lib.accLo (Lib.firstT b.val / 16) : Nat) ∧ (beginM (b.val : Int)).high = (Lib.accHi (Lib.firstT b.val / 16) : Nat)) := by decide +kernel
theorem begin_first (b : UInt8) (h : 128 ≤ b.toNat) :
    ((beginM (bt b)).missing = 0 ∧ Lib.firstT b.toNat % 8 ≠ 2 ∧ Lib.firstT b.toNat % 8 ≠ 3 ∧ Lib.firstT b.toNat % 8 ≠ 4) ∨
    ((beginM (bt b)).missing + 1 = (Lib.firstT b.toNat % 8 : Nat) ∧ (Lib.firstT b.toNat % 8 = 2 ∨ Lib.firstT b.toNat % 8 = 3 ∨ Lib.firstT b.toNat % 8 = 4) ∧
      (beginM (bt b)).low = (Lib.accLo (Lib.firstT b.toNat / 16) : Nat) ∧ (beginM (bt b)).high = (Lib.accHi (Lib.firstT b.toNat / 16) : Nat)) :=
  first_begin ⟨b.toNat, b.toNat_lt⟩ h
theorem begin_big {b : UInt8} (h : (beginM (bt b)).missing ≠ 0) : 128 ≤ b.toNat := by
  rcases Nat.lt_or_ge b.toNat 128 with hb | hb
  · exact absurd (by unfold beginM bt; rw [if_neg (by omega), if_neg (by omega), if_neg (by omega)]) h
  · exact hb
theorem valid_seq {p : List UInt8} (hp : OkSeq p) (r : List UInt8) : Lib.validD (p ++ r) = Lib.validD r := by
  cases hp with
  | one h => exact Lib.validD_cons _ _ h
  | @two b c h1 h2 h3 =>
    have hb := begin_big (b := b) (by omega)
    rw [Lib.validD_lead _ (by simp) (by simpa using hb)]
    rcases begin_first b hb with ⟨k1, _⟩ | ⟨k1, k2, k3, k4⟩
    · omega
    · have e : Lib.firstT b.toNat % 8 = 2 := by omega
      unfold bt at h2 h3 k1 k3 k4
      simp only [List.cons_append, List.nil_append, List.getD_cons_zero, List.getD_cons_succ, List.length_cons, e, Lib.checkN, if_true]
      rw [if_neg (by unfold bt at *; omega)]
      simp
  | @three b c d h1 h2 h3 h4 h5 =>
    have hb := begin_big (b := b) (by omega)
    rw [Lib.validD_lead _ (by simp) (by simpa using hb)]
    rcases begin_first b hb with ⟨k1, _⟩ | ⟨k1, k2, k3, k4⟩
    · omega
    · have e : Lib.firstT b.toNat % 8 = 3 := by omega
      simp only [List.cons_append, List.nil_append, List.getD_cons_zero, List.getD_cons_succ, List.length_cons, e, Lib.checkN, if_true, show ¬ (3 : Nat) = 2 by omega, if_false]
      rw [if_neg (by unfold bt at *; omega)]
      simp
  | @four b c d f h1 h2 h3 h4 h5 h6 h7 =>
    have hb := begin_big (b := b) (by omega)
    rw [Lib.validD_lead _ (by simp) (by simpa using hb)]
    rcases begin_first b hb with ⟨k1, _⟩ | ⟨k1, k2, k3, k4⟩
    · omega
    · have e : Lib.firstT b.toNat % 8 = 4 := by omega
      simp only [List.cons_append, List.nil_append, List.getD_cons_zero, List.getD_cons_succ, List.length_cons, e, Lib.checkN, if_true, show ¬ (4 : Nat) = 2 by omega, show ¬ (4 : Nat) = 3 by omega, if_false]
      rw [if_neg (by unfold bt at *; omega)]
      simp
theorem valid_split {s : List UInt8} (h : Lib.validD s = true) (hne : s ≠ []) : ∃ p r, s = p ++ r ∧ OkSeq p ∧ Lib.validD r = true := by
  cases s with
  | nil => exact absurd rfl hne
  | cons b t =>
    rcases Nat.lt_or_ge b.toNat 128 with hb | hb
    · exact ⟨[b], t, rfl, .one hb, by rwa [Lib.validD_cons _ _ hb] at h⟩
    · rw [Lib.validD_lead _ (by simp) (by simpa using hb)] at h
      simp only [List.getD_cons_zero, List.getD_cons_succ, List.length_cons] at h
      rcases begin_first b hb with ⟨k1, k2, k3, k4⟩ | ⟨k1, k2, k3, k4⟩
      · simp only [Lib.checkN, k2, k3, k4, if_false] at h; exact absurd h (by simp)
      · rcases k2 with e | e | e
        · simp only [e, Lib.checkN, if_true] at h
          split at h
          · exact absurd h (by simp)
          · rename_i hk
            split at hk
            · cases hk
            · rename_i hc
              cases hk
              match t, hc with
              | [], hc => simp at hc
              | c :: t, hc =>
                simp only [List.getD_cons_zero, List.getD_cons_succ, List.length_cons] at hc
                refine ⟨[b, c], t, rfl, .two (by omega) ?_ ?_, by simpa using h⟩ <;> (unfold bt at *; omega)
        · simp only [e, Lib.checkN, if_true, show ¬ (3 : Nat) = 2 by omega, if_false] at h
          split at h
          · exact absurd h (by simp)
          · rename_i hk
            split at hk
            · cases hk
            · rename_i hc
              cases hk
              match t, hc with
              | [], hc => simp at hc
              | [c], hc => simp at hc
              | c :: d :: t, hc =>
                simp only [List.getD_cons_zero, List.getD_cons_succ, List.length_cons] at hc
                refine ⟨[b, c, d], t, rfl, .three (by omega) ?_ ?_ ?_ ?_, by simpa using h⟩ <;> (unfold bt at *; omega)
        · simp only [e, Lib.checkN, if_true, show ¬ (4 : Nat) = 2 by omega, show ¬ (4 : Nat) = 3 by omega, if_false] at h
          split at h
          · exact absurd h (by simp)
          · rename_i hk
            split at hk
            · cases hk
            · rename_i hc
              cases hk
              match t, hc with
              | [], hc => simp at hc
              | [c], hc => simp at hc
              | [c, d], hc => simp at hc
              | c :: d :: f :: t, hc =>
                simp only [List.getD_cons_zero, List.getD_cons_succ, List.length_cons] at hc
                refine ⟨[b, c, d, f], t, rfl, .four (by omega) ?_ ?_ ?_ ?_ ?_ ?_, by simpa using h⟩ <;> (unfold bt at *; omega)
theorem valid_ind {P : List UInt8 → Prop} (h0 : P []) (h1 : ∀ p r, OkSeq p → Lib.validD r = true → P r → P (p ++ r)) : ∀ (n : Nat) (s : List UInt8), s.length ≤ n → Lib.validD s = true → P s
  | 0, s, hn, _ => by rw [List.eq_nil_of_length_eq_zero (l := s) (by omega)]; exact h0
  | n + 1, s, hn, hv => by
    by_cases hne : s = []
    · rw [hne]; exact h0
    · obtain ⟨p, r, rfl, hp, hr⟩ := valid_split hv hne
      have hl : 0 < p.length := by cases hp <;> simp
      rw [List.length_append] at hn
      exact h1 p r hp hr (valid_ind h0 h1 n r (by omega) hr)
end Go.Proofs.YtefpcfooahogkaaGreatDoor
/- The prepared code of further functions. Written by a program of mine (gen.py) out of what the loaded dump prints. -/

set_option linter.unusedVariables false
set_option maxRecDepth 100000
namespace Go.Proofs.YtefpcfooahogkaaGreatDoor
open Go Nv

/-- narrator.narratorref01.Decode -/
theorem fn27 : FnIs Tryz.prog 27 2 [Go.ResultVar.tmp 4, Go.ResultVar.tmp 5] (.seq (.region [⟨some 4, Go.Op.assign (Go.Operand.const (Go.Value.slice none 0 0)), 62, none⟩,
      ⟨some 5, Go.Op.assign (Go.Operand.const (Go.Value.string { data := #[] })), 9, none⟩])
    (.seq (.region [⟨some 17, Go.Op.move (Go.Operand.tmp 0), 9, none⟩,
      ⟨some 18, Go.Op.move (Go.Operand.tmp 1), 9, none⟩,
      ⟨some 19, Go.Op.binOp Go.BinOp.add 9 (Go.Operand.tmp 17) (Go.Operand.tmp 18) 9, 9, none⟩,
      ⟨some 6, Go.Op.assign (Go.Operand.tmp 19), 9, none⟩])
    (.seq (.region [⟨some 20, Go.Op.buildSlice 62 0 #[], 62, none⟩,
      ⟨some 7, Go.Op.assign (Go.Operand.tmp 20), 62, none⟩])
    (.seq (.region [⟨some 21, Go.Op.buildSlice 88 0 #[], 88, none⟩,
      ⟨some 8, Go.Op.assign (Go.Operand.tmp 21), 88, none⟩])
    (.seq (.seq (.region [⟨some 9, Go.Op.assign (Go.Operand.const (Go.Value.int Go.IntKind.i64 0)), 3, none⟩])
    (.block 0
      (.loop
        (.seq (.seq (.region [⟨some 22, Go.Op.move (Go.Operand.tmp 9), 3, none⟩,
          ⟨some 23, Go.Op.move (Go.Operand.tmp 6), 9, none⟩,
          ⟨some 24, Go.Op.call { callee := Go.Callee.builtin Go.Builtin.len, args := #[Go.Operand.tmp 23], argTypes := #[9] }, 3, none⟩,
          ⟨some 25, Go.Op.binOp Go.BinOp.lss 3 (Go.Operand.tmp 22) (Go.Operand.tmp 24) 3, 4, none⟩])
        (.cond (Go.Operand.tmp 25)
          .skip
          (.exit 0)))
        (.block 1
          (.seq (.region [⟨some 26, Go.Op.move (Go.Operand.tmp 6), 9, none⟩,
            ⟨some 27, Go.Op.move (Go.Operand.tmp 9), 3, none⟩,
            ⟨some 28, Go.Op.index 9 (Go.Operand.tmp 26) (Go.Operand.tmp 27), 5, none⟩,
            ⟨some 10, Go.Op.assign (Go.Operand.tmp 28), 5, none⟩])
          (.seq (.seq (.region [⟨some 29, Go.Op.move (Go.Operand.tmp 8), 88, none⟩,
            ⟨some 30, Go.Op.call { callee := Go.Callee.builtin Go.Builtin.len, args := #[Go.Operand.tmp 29], argTypes := #[88] }, 3, none⟩,
            ⟨some 31, Go.Op.binOp Go.BinOp.eql 3 (Go.Operand.tmp 30) (Go.Operand.const (Go.Value.int Go.IntKind.i64 0)) 3, 4, none⟩])
          (.cond (Go.Operand.tmp 31)
            (.seq (.region [⟨some 32, Go.Op.move (Go.Operand.tmp 9), 3, none⟩,
              ⟨some 33, Go.Op.binOp Go.BinOp.add 3 (Go.Operand.tmp 32) (Go.Operand.const (Go.Value.int Go.IntKind.i64 1)) 3, 3, none⟩,
              ⟨some 9, Go.Op.assign (Go.Operand.tmp 33), 3, none⟩])
            (.seq (.region [⟨some 35, Go.Op.move (Go.Operand.tmp 10), 5, none⟩,
              ⟨some 36, Go.Op.buildSlice 88 1 #[(0, Go.Operand.tmp 35)], 88, none⟩,
              ⟨some 37, Go.Op.call { callee := Go.Callee.value (Go.Operand.func 43), args := #[Go.Operand.tmp 36], argTypes := #[88] }, 89, none⟩,
              ⟨some 34, Go.Op.move (Go.Operand.tmp 37), 89, none⟩,
              ⟨some 38, Go.Op.extract (Go.Operand.tmp 34) 0, 5, none⟩,
              ⟨some 39, Go.Op.extract (Go.Operand.tmp 34) 1, 5, none⟩,
              ⟨some 40, Go.Op.extract (Go.Operand.tmp 34) 2, 3, none⟩,
              ⟨some 11, Go.Op.assign (Go.Operand.tmp 38), 5, none⟩,
              ⟨some 12, Go.Op.assign (Go.Operand.tmp 39), 5, none⟩,
              ⟨some 13, Go.Op.assign (Go.Operand.tmp 40), 3, none⟩])
            (.seq (.block 2
              (.seq (.region [⟨some 45, Go.Op.move (Go.Operand.tmp 10), 5, none⟩,
                ⟨some 46, Go.Op.binOp Go.BinOp.lss 5 (Go.Operand.tmp 45) (Go.Operand.const (Go.Value.int Go.IntKind.u8 128)) 5, 4, none⟩,
                ⟨some 44, Go.Op.assign (Go.Operand.tmp 46), 4, none⟩])
              (.cond (Go.Operand.tmp 44)
                (.region [⟨some 47, Go.Op.move (Go.Operand.tmp 7), 62, none⟩,
                  ⟨some 48, Go.Op.move (Go.Operand.tmp 10), 5, none⟩,
                  ⟨some 49, Go.Op.convert 5 21 (Go.Operand.tmp 48), 21, none⟩,
                  ⟨some 50, Go.Op.buildSlice 62 1 #[(0, Go.Operand.tmp 49)], 62, none⟩,
                  ⟨some 51, Go.Op.call { callee := Go.Callee.builtin Go.Builtin.append, args := #[Go.Operand.tmp 47, Go.Operand.tmp 50], argTypes := #[62, 62] }, 62, none⟩,
                  ⟨some 7, Go.Op.assign (Go.Operand.tmp 51), 62, none⟩])
                (.seq (.region [⟨some 53, Go.Op.move (Go.Operand.tmp 13), 3, none⟩,
                  ⟨some 54, Go.Op.binOp Go.BinOp.gtr 3 (Go.Operand.tmp 53) (Go.Operand.const (Go.Value.int Go.IntKind.i64 0)) 3, 4, none⟩,
                  ⟨some 52, Go.Op.assign (Go.Operand.tmp 54), 4, none⟩])
                (.cond (Go.Operand.tmp 52)
                  (.region [⟨some 55, Go.Op.move (Go.Operand.tmp 8), 88, none⟩,
                    ⟨some 56, Go.Op.move (Go.Operand.tmp 10), 5, none⟩,
                    ⟨some 57, Go.Op.buildSlice 88 1 #[(0, Go.Operand.tmp 56)], 88, none⟩,
                    ⟨some 58, Go.Op.call { callee := Go.Callee.builtin Go.Builtin.append, args := #[Go.Operand.tmp 55, Go.Operand.tmp 57], argTypes := #[88, 88] }, 88, none⟩,
                    ⟨some 8, Go.Op.assign (Go.Operand.tmp 58), 88, none⟩])
                  (.region [⟨some 41, Go.Op.move (Go.Operand.tmp 7), 62, none⟩,
                    ⟨some 42, Go.Op.buildSlice 62 1 #[(0, Go.Operand.const (Go.Value.int Go.IntKind.i32 65533))], 62, none⟩,
                    ⟨some 43, Go.Op.call { callee := Go.Callee.builtin Go.Builtin.append, args := #[Go.Operand.tmp 41, Go.Operand.tmp 42], argTypes := #[62, 62] }, 62, none⟩,
                    ⟨some 7, Go.Op.assign (Go.Operand.tmp 43), 62, none⟩]))))))
            (.exit 1))))
            .skip))
          (.seq (.region [⟨some 60, Go.Op.move (Go.Operand.tmp 8), 88, none⟩,
            ⟨some 61, Go.Op.call { callee := Go.Callee.value (Go.Operand.func 43), args := #[Go.Operand.tmp 60], argTypes := #[88] }, 89, none⟩,
            ⟨some 59, Go.Op.move (Go.Operand.tmp 61), 89, none⟩,
            ⟨some 62, Go.Op.extract (Go.Operand.tmp 59) 0, 5, none⟩,
            ⟨some 63, Go.Op.extract (Go.Operand.tmp 59) 1, 5, none⟩,
            ⟨some 64, Go.Op.extract (Go.Operand.tmp 59) 2, 3, none⟩,
            ⟨some 14, Go.Op.assign (Go.Operand.tmp 62), 5, none⟩,
            ⟨some 15, Go.Op.assign (Go.Operand.tmp 63), 5, none⟩,
            ⟨some 16, Go.Op.assign (Go.Operand.tmp 64), 3, none⟩])
          (.seq (.seq (.region [⟨some 65, Go.Op.move (Go.Operand.tmp 10), 5, none⟩,
            ⟨some 66, Go.Op.move (Go.Operand.tmp 14), 5, none⟩,
            ⟨some 67, Go.Op.binOp Go.BinOp.lss 5 (Go.Operand.tmp 65) (Go.Operand.tmp 66) 5, 4, none⟩,
            ⟨some 68, Go.Op.move (Go.Operand.tmp 67), 4, none⟩,
            ⟨some 69, Go.Op.move (Go.Operand.tmp 10), 5, (some (68, false))⟩,
            ⟨some 70, Go.Op.move (Go.Operand.tmp 15), 5, (some (68, false))⟩,
            ⟨some 71, Go.Op.binOp Go.BinOp.gtr 5 (Go.Operand.tmp 69) (Go.Operand.tmp 70) 5, 4, (some (68, false))⟩,
            ⟨some 72, Go.Op.pick (Go.Operand.tmp 68) (Go.Operand.const (Go.Value.bool true)) (Go.Operand.tmp 71), 4, none⟩])
          (.cond (Go.Operand.tmp 72)
            (.seq (.region [⟨some 73, Go.Op.move (Go.Operand.tmp 7), 62, none⟩,
              ⟨some 74, Go.Op.buildSlice 62 1 #[(0, Go.Operand.const (Go.Value.int Go.IntKind.i32 65533))], 62, none⟩,
              ⟨some 75, Go.Op.call { callee := Go.Callee.builtin Go.Builtin.append, args := #[Go.Operand.tmp 73, Go.Operand.tmp 74], argTypes := #[62, 62] }, 62, none⟩,
              ⟨some 7, Go.Op.assign (Go.Operand.tmp 75), 62, none⟩])
            (.seq (.region [⟨some 76, Go.Op.buildSlice 88 0 #[], 88, none⟩,
              ⟨some 8, Go.Op.assign (Go.Operand.tmp 76), 88, none⟩])
            (.exit 1)))
            .skip))
          (.seq (.region [⟨some 77, Go.Op.move (Go.Operand.tmp 9), 3, none⟩,
            ⟨some 78, Go.Op.binOp Go.BinOp.add 3 (Go.Operand.tmp 77) (Go.Operand.const (Go.Value.int Go.IntKind.i64 1)) 3, 3, none⟩,
            ⟨some 9, Go.Op.assign (Go.Operand.tmp 78), 3, none⟩])
          (.seq (.region [⟨some 79, Go.Op.move (Go.Operand.tmp 8), 88, none⟩,
            ⟨some 80, Go.Op.move (Go.Operand.tmp 10), 5, none⟩,
            ⟨some 81, Go.Op.buildSlice 88 1 #[(0, Go.Operand.tmp 80)], 88, none⟩,
            ⟨some 82, Go.Op.call { callee := Go.Callee.builtin Go.Builtin.append, args := #[Go.Operand.tmp 79, Go.Operand.tmp 81], argTypes := #[88, 88] }, 88, none⟩,
            ⟨some 8, Go.Op.assign (Go.Operand.tmp 82), 88, none⟩])
          (.seq (.region [⟨some 83, Go.Op.move (Go.Operand.tmp 8), 88, none⟩,
            ⟨some 84, Go.Op.call { callee := Go.Callee.builtin Go.Builtin.len, args := #[Go.Operand.tmp 83], argTypes := #[88] }, 3, none⟩,
            ⟨some 85, Go.Op.move (Go.Operand.tmp 16), 3, none⟩,
            ⟨some 86, Go.Op.binOp Go.BinOp.eql 3 (Go.Operand.tmp 84) (Go.Operand.tmp 85) 3, 4, none⟩])
          (.cond (Go.Operand.tmp 86)
            (.seq (.region [⟨some 87, Go.Op.move (Go.Operand.tmp 7), 62, none⟩,
              ⟨some 88, Go.Op.move (Go.Operand.tmp 8), 88, none⟩,
              ⟨some 89, Go.Op.call { callee := Go.Callee.value (Go.Operand.func 44), args := #[Go.Operand.tmp 88], argTypes := #[88] }, 21, none⟩,
              ⟨some 90, Go.Op.buildSlice 62 1 #[(0, Go.Operand.tmp 89)], 62, none⟩,
              ⟨some 91, Go.Op.call { callee := Go.Callee.builtin Go.Builtin.append, args := #[Go.Operand.tmp 87, Go.Operand.tmp 90], argTypes := #[62, 62] }, 62, none⟩,
              ⟨some 7, Go.Op.assign (Go.Operand.tmp 91), 62, none⟩])
            (.region [⟨some 92, Go.Op.buildSlice 88 0 #[], 88, none⟩,
              ⟨some 8, Go.Op.assign (Go.Operand.tmp 92), 88, none⟩]))
            .skip)))))))))))))
    (.seq (.draw [⟨⟨some 93, Go.Op.move (Go.Operand.tmp 7), 62, none⟩, false, false, false⟩,
      ⟨⟨some 94, Go.Op.move (Go.Operand.tmp 8), 88, none⟩, false, false, false⟩,
      ⟨⟨some 95, Go.Op.convert 88 9 (Go.Operand.tmp 94), 9, none⟩, false, false, false⟩,
      ⟨⟨some 4, Go.Op.assign (Go.Operand.tmp 93), 62, none⟩, false, false, false⟩,
      ⟨⟨some 5, Go.Op.assign (Go.Operand.tmp 95), 9, none⟩, false, false, false⟩])
    .ret)))))) :=
  ⟨foll, Tryz.f27, Tryz.func27, by kernel_rfl, by kernel_rfl, by kernel_rfl, by rw [Tryz.ntmps27]; decide⟩

/-- narrator.narratorref01.limits -/
theorem fn43 : FnIs Tryz.prog 43 1 [Go.ResultVar.tmp 2, Go.ResultVar.tmp 3, Go.ResultVar.tmp 4] (.seq (.region [⟨some 2, Go.Op.assign (Go.Operand.const (Go.Value.int Go.IntKind.u8 0)), 5, none⟩,
      ⟨some 3, Go.Op.assign (Go.Operand.const (Go.Value.int Go.IntKind.u8 0)), 5, none⟩,
      ⟨some 4, Go.Op.assign (Go.Operand.const (Go.Value.int Go.IntKind.i64 0)), 3, none⟩])
    (.seq (.seq (.region [⟨some 8, Go.Op.move (Go.Operand.tmp 0), 88, none⟩,
      ⟨some 9, Go.Op.call { callee := Go.Callee.builtin Go.Builtin.len, args := #[Go.Operand.tmp 8], argTypes := #[88] }, 3, none⟩,
      ⟨some 10, Go.Op.binOp Go.BinOp.eql 3 (Go.Operand.tmp 9) (Go.Operand.const (Go.Value.int Go.IntKind.i64 0)) 3, 4, none⟩])
    (.cond (Go.Operand.tmp 10)
      (.seq (.region [⟨some 2, Go.Op.assign (Go.Operand.const (Go.Value.int Go.IntKind.u8 0)), 5, none⟩,
        ⟨some 3, Go.Op.assign (Go.Operand.const (Go.Value.int Go.IntKind.u8 255)), 5, none⟩,
        ⟨some 4, Go.Op.assign (Go.Operand.const (Go.Value.int Go.IntKind.i64 0)), 3, none⟩])
      .ret)
      .skip))
    (.seq (.region [⟨some 5, Go.Op.assign (Go.Operand.const (Go.Value.int Go.IntKind.i64 0)), 3, none⟩])
    (.seq (.block 0
      (.seq (.region [⟨some 12, Go.Op.move (Go.Operand.tmp 0), 88, none⟩,
        ⟨some 13, Go.Op.indexAddr 88 (Go.Operand.tmp 12) (Go.Operand.const (Go.Value.int Go.IntKind.i64 0)), 0, none⟩,
        ⟨some 14, Go.Op.load 5 (Go.Operand.tmp 13), 5, none⟩,
        ⟨some 15, Go.Op.binOp Go.BinOp.geq 5 (Go.Operand.tmp 14) (Go.Operand.const (Go.Value.int Go.IntKind.u8 194)) 5, 4, none⟩,
        ⟨some 16, Go.Op.move (Go.Operand.tmp 15), 4, none⟩,
        ⟨some 17, Go.Op.move (Go.Operand.tmp 0), 88, (some (16, true))⟩,
        ⟨some 18, Go.Op.indexAddr 88 (Go.Operand.tmp 17) (Go.Operand.const (Go.Value.int Go.IntKind.i64 0)), 0, (some (16, true))⟩,
        ⟨some 19, Go.Op.load 5 (Go.Operand.tmp 18), 5, (some (16, true))⟩,
        ⟨some 20, Go.Op.binOp Go.BinOp.leq 5 (Go.Operand.tmp 19) (Go.Operand.const (Go.Value.int Go.IntKind.u8 223)) 5, 4, (some (16, true))⟩,
        ⟨some 21, Go.Op.pick (Go.Operand.tmp 16) (Go.Operand.tmp 20) (Go.Operand.const (Go.Value.bool false)), 4, none⟩,
        ⟨some 11, Go.Op.assign (Go.Operand.tmp 21), 4, none⟩])
      (.cond (Go.Operand.tmp 11)
        (.region [⟨some 5, Go.Op.assign (Go.Operand.const (Go.Value.int Go.IntKind.i64 2)), 3, none⟩])
        (.seq (.region [⟨some 23, Go.Op.move (Go.Operand.tmp 0), 88, none⟩,
          ⟨some 24, Go.Op.indexAddr 88 (Go.Operand.tmp 23) (Go.Operand.const (Go.Value.int Go.IntKind.i64 0)), 0, none⟩,
          ⟨some 25, Go.Op.load 5 (Go.Operand.tmp 24), 5, none⟩,
          ⟨some 26, Go.Op.binOp Go.BinOp.geq 5 (Go.Operand.tmp 25) (Go.Operand.const (Go.Value.int Go.IntKind.u8 224)) 5, 4, none⟩,
          ⟨some 27, Go.Op.move (Go.Operand.tmp 26), 4, none⟩,
          ⟨some 28, Go.Op.move (Go.Operand.tmp 0), 88, (some (27, true))⟩,
          ⟨some 29, Go.Op.indexAddr 88 (Go.Operand.tmp 28) (Go.Operand.const (Go.Value.int Go.IntKind.i64 0)), 0, (some (27, true))⟩,
          ⟨some 30, Go.Op.load 5 (Go.Operand.tmp 29), 5, (some (27, true))⟩,
          ⟨some 31, Go.Op.binOp Go.BinOp.leq 5 (Go.Operand.tmp 30) (Go.Operand.const (Go.Value.int Go.IntKind.u8 239)) 5, 4, (some (27, true))⟩,
          ⟨some 32, Go.Op.pick (Go.Operand.tmp 27) (Go.Operand.tmp 31) (Go.Operand.const (Go.Value.bool false)), 4, none⟩,
          ⟨some 22, Go.Op.assign (Go.Operand.tmp 32), 4, none⟩])
        (.cond (Go.Operand.tmp 22)
          (.region [⟨some 5, Go.Op.assign (Go.Operand.const (Go.Value.int Go.IntKind.i64 3)), 3, none⟩])
          (.seq (.region [⟨some 34, Go.Op.move (Go.Operand.tmp 0), 88, none⟩,
            ⟨some 35, Go.Op.indexAddr 88 (Go.Operand.tmp 34) (Go.Operand.const (Go.Value.int Go.IntKind.i64 0)), 0, none⟩,
            ⟨some 36, Go.Op.load 5 (Go.Operand.tmp 35), 5, none⟩,
            ⟨some 37, Go.Op.binOp Go.BinOp.geq 5 (Go.Operand.tmp 36) (Go.Operand.const (Go.Value.int Go.IntKind.u8 240)) 5, 4, none⟩,
            ⟨some 38, Go.Op.move (Go.Operand.tmp 37), 4, none⟩,
            ⟨some 39, Go.Op.move (Go.Operand.tmp 0), 88, (some (38, true))⟩,
            ⟨some 40, Go.Op.indexAddr 88 (Go.Operand.tmp 39) (Go.Operand.const (Go.Value.int Go.IntKind.i64 0)), 0, (some (38, true))⟩,
            ⟨some 41, Go.Op.load 5 (Go.Operand.tmp 40), 5, (some (38, true))⟩,
            ⟨some 42, Go.Op.binOp Go.BinOp.leq 5 (Go.Operand.tmp 41) (Go.Operand.const (Go.Value.int Go.IntKind.u8 244)) 5, 4, (some (38, true))⟩,
            ⟨some 43, Go.Op.pick (Go.Operand.tmp 38) (Go.Operand.tmp 42) (Go.Operand.const (Go.Value.bool false)), 4, none⟩,
            ⟨some 33, Go.Op.assign (Go.Operand.tmp 43), 4, none⟩])
          (.cond (Go.Operand.tmp 33)
            (.region [⟨some 5, Go.Op.assign (Go.Operand.const (Go.Value.int Go.IntKind.i64 4)), 3, none⟩])
            .skip)))))))
    (.seq (.region [⟨some 6, Go.Op.assign (Go.Operand.const (Go.Value.int Go.IntKind.u8 128)), 5, none⟩,
      ⟨some 7, Go.Op.assign (Go.Operand.const (Go.Value.int Go.IntKind.u8 191)), 5, none⟩])
    (.seq (.seq (.region [⟨some 44, Go.Op.move (Go.Operand.tmp 0), 88, none⟩,
      ⟨some 45, Go.Op.call { callee := Go.Callee.builtin Go.Builtin.len, args := #[Go.Operand.tmp 44], argTypes := #[88] }, 3, none⟩,
      ⟨some 46, Go.Op.binOp Go.BinOp.eql 3 (Go.Operand.tmp 45) (Go.Operand.const (Go.Value.int Go.IntKind.i64 1)) 3, 4, none⟩])
    (.cond (Go.Operand.tmp 46)
      (.seq (.region [⟨some 47, Go.Op.move (Go.Operand.tmp 0), 88, none⟩,
        ⟨some 48, Go.Op.indexAddr 88 (Go.Operand.tmp 47) (Go.Operand.const (Go.Value.int Go.IntKind.i64 0)), 0, none⟩,
        ⟨some 49, Go.Op.load 5 (Go.Operand.tmp 48), 5, none⟩])
      (.block 1
        (.seq (.region [⟨some 51, Go.Op.binOp Go.BinOp.eql 5 (Go.Operand.tmp 49) (Go.Operand.const (Go.Value.int Go.IntKind.u8 224)) 5, 4, none⟩,
          ⟨some 50, Go.Op.assign (Go.Operand.tmp 51), 4, none⟩])
        (.cond (Go.Operand.tmp 50)
          (.region [⟨some 6, Go.Op.assign (Go.Operand.const (Go.Value.int Go.IntKind.u8 160)), 5, none⟩])
          (.seq (.region [⟨some 53, Go.Op.binOp Go.BinOp.eql 5 (Go.Operand.tmp 49) (Go.Operand.const (Go.Value.int Go.IntKind.u8 237)) 5, 4, none⟩,
            ⟨some 52, Go.Op.assign (Go.Operand.tmp 53), 4, none⟩])
          (.cond (Go.Operand.tmp 52)
            (.region [⟨some 7, Go.Op.assign (Go.Operand.const (Go.Value.int Go.IntKind.u8 159)), 5, none⟩])
            (.seq (.region [⟨some 55, Go.Op.binOp Go.BinOp.eql 5 (Go.Operand.tmp 49) (Go.Operand.const (Go.Value.int Go.IntKind.u8 240)) 5, 4, none⟩,
              ⟨some 54, Go.Op.assign (Go.Operand.tmp 55), 4, none⟩])
            (.cond (Go.Operand.tmp 54)
              (.region [⟨some 6, Go.Op.assign (Go.Operand.const (Go.Value.int Go.IntKind.u8 144)), 5, none⟩])
              (.seq (.region [⟨some 57, Go.Op.binOp Go.BinOp.eql 5 (Go.Operand.tmp 49) (Go.Operand.const (Go.Value.int Go.IntKind.u8 244)) 5, 4, none⟩,
                ⟨some 56, Go.Op.assign (Go.Operand.tmp 57), 4, none⟩])
              (.cond (Go.Operand.tmp 56)
                (.region [⟨some 7, Go.Op.assign (Go.Operand.const (Go.Value.int Go.IntKind.u8 143)), 5, none⟩])
                .skip))))))))))
      .skip))
    (.seq (.region [⟨some 58, Go.Op.move (Go.Operand.tmp 6), 5, none⟩,
      ⟨some 59, Go.Op.move (Go.Operand.tmp 7), 5, none⟩,
      ⟨some 60, Go.Op.move (Go.Operand.tmp 5), 3, none⟩,
      ⟨some 2, Go.Op.assign (Go.Operand.tmp 58), 5, none⟩,
      ⟨some 3, Go.Op.assign (Go.Operand.tmp 59), 5, none⟩,
      ⟨some 4, Go.Op.assign (Go.Operand.tmp 60), 3, none⟩])
    .ret))))))) :=
  ⟨foll, Tryz.f43, Tryz.func43, by kernel_rfl, by kernel_rfl, by kernel_rfl, by rw [Tryz.ntmps43]; decide⟩

/-- narrator.narratorref01.value -/
theorem fn44 : FnIs Tryz.prog 44 1 [Go.ResultVar.tmp 2] (.seq (.region [⟨some 2, Go.Op.assign (Go.Operand.const (Go.Value.int Go.IntKind.i32 0)), 21, none⟩])
    (.seq (.region [⟨some 3, Go.Op.assign (Go.Operand.const (Go.Value.int Go.IntKind.i32 0)), 21, none⟩])
    (.seq (.seq (.region [⟨some 5, Go.Op.move (Go.Operand.tmp 0), 88, none⟩,
      ⟨some 6, Go.Op.call { callee := Go.Callee.builtin Go.Builtin.len, args := #[Go.Operand.tmp 5], argTypes := #[88] }, 3, none⟩])
    (.block 0
      (.seq (.region [⟨some 8, Go.Op.binOp Go.BinOp.eql 3 (Go.Operand.tmp 6) (Go.Operand.const (Go.Value.int Go.IntKind.i64 2)) 3, 4, none⟩,
        ⟨some 7, Go.Op.assign (Go.Operand.tmp 8), 4, none⟩])
      (.cond (Go.Operand.tmp 7)
        (.region [⟨some 9, Go.Op.move (Go.Operand.tmp 0), 88, none⟩,
          ⟨some 10, Go.Op.indexAddr 88 (Go.Operand.tmp 9) (Go.Operand.const (Go.Value.int Go.IntKind.i64 0)), 0, none⟩,
          ⟨some 11, Go.Op.load 5 (Go.Operand.tmp 10), 5, none⟩,
          ⟨some 12, Go.Op.convert 5 21 (Go.Operand.tmp 11), 21, none⟩,
          ⟨some 13, Go.Op.binOp Go.BinOp.sub 21 (Go.Operand.tmp 12) (Go.Operand.const (Go.Value.int Go.IntKind.i32 192)) 21, 21, none⟩,
          ⟨some 3, Go.Op.assign (Go.Operand.tmp 13), 21, none⟩])
        (.seq (.region [⟨some 15, Go.Op.binOp Go.BinOp.eql 3 (Go.Operand.tmp 6) (Go.Operand.const (Go.Value.int Go.IntKind.i64 3)) 3, 4, none⟩,
          ⟨some 14, Go.Op.assign (Go.Operand.tmp 15), 4, none⟩])
        (.cond (Go.Operand.tmp 14)
          (.region [⟨some 16, Go.Op.move (Go.Operand.tmp 0), 88, none⟩,
            ⟨some 17, Go.Op.indexAddr 88 (Go.Operand.tmp 16) (Go.Operand.const (Go.Value.int Go.IntKind.i64 0)), 0, none⟩,
            ⟨some 18, Go.Op.load 5 (Go.Operand.tmp 17), 5, none⟩,
            ⟨some 19, Go.Op.convert 5 21 (Go.Operand.tmp 18), 21, none⟩,
            ⟨some 20, Go.Op.binOp Go.BinOp.sub 21 (Go.Operand.tmp 19) (Go.Operand.const (Go.Value.int Go.IntKind.i32 224)) 21, 21, none⟩,
            ⟨some 3, Go.Op.assign (Go.Operand.tmp 20), 21, none⟩])
          (.seq (.region [⟨some 22, Go.Op.binOp Go.BinOp.eql 3 (Go.Operand.tmp 6) (Go.Operand.const (Go.Value.int Go.IntKind.i64 4)) 3, 4, none⟩,
            ⟨some 21, Go.Op.assign (Go.Operand.tmp 22), 4, none⟩])
          (.cond (Go.Operand.tmp 21)
            (.region [⟨some 23, Go.Op.move (Go.Operand.tmp 0), 88, none⟩,
              ⟨some 24, Go.Op.indexAddr 88 (Go.Operand.tmp 23) (Go.Operand.const (Go.Value.int Go.IntKind.i64 0)), 0, none⟩,
              ⟨some 25, Go.Op.load 5 (Go.Operand.tmp 24), 5, none⟩,
              ⟨some 26, Go.Op.convert 5 21 (Go.Operand.tmp 25), 21, none⟩,
              ⟨some 27, Go.Op.binOp Go.BinOp.sub 21 (Go.Operand.tmp 26) (Go.Operand.const (Go.Value.int Go.IntKind.i32 240)) 21, 21, none⟩,
              ⟨some 3, Go.Op.assign (Go.Operand.tmp 27), 21, none⟩])
            .skip))))))))
    (.seq (.seq (.region [⟨some 4, Go.Op.assign (Go.Operand.const (Go.Value.int Go.IntKind.i64 1)), 3, none⟩])
    (.block 1
      (.loop
        (.seq (.seq (.region [⟨some 28, Go.Op.move (Go.Operand.tmp 4), 3, none⟩,
          ⟨some 29, Go.Op.move (Go.Operand.tmp 0), 88, none⟩,
          ⟨some 30, Go.Op.call { callee := Go.Callee.builtin Go.Builtin.len, args := #[Go.Operand.tmp 29], argTypes := #[88] }, 3, none⟩,
          ⟨some 31, Go.Op.binOp Go.BinOp.lss 3 (Go.Operand.tmp 28) (Go.Operand.tmp 30) 3, 4, none⟩])
        (.cond (Go.Operand.tmp 31)
          .skip
          (.exit 1)))
        (.seq (.block 2
          (.region [⟨some 34, Go.Op.move (Go.Operand.tmp 3), 21, none⟩,
            ⟨some 35, Go.Op.binOp Go.BinOp.mul 21 (Go.Operand.tmp 34) (Go.Operand.const (Go.Value.int Go.IntKind.i32 64)) 21, 21, none⟩,
            ⟨some 36, Go.Op.move (Go.Operand.tmp 0), 88, none⟩,
            ⟨some 37, Go.Op.move (Go.Operand.tmp 4), 3, none⟩,
            ⟨some 38, Go.Op.indexAddr 88 (Go.Operand.tmp 36) (Go.Operand.tmp 37), 0, none⟩,
            ⟨some 39, Go.Op.load 5 (Go.Operand.tmp 38), 5, none⟩,
            ⟨some 40, Go.Op.convert 5 21 (Go.Operand.tmp 39), 21, none⟩,
            ⟨some 41, Go.Op.binOp Go.BinOp.add 21 (Go.Operand.tmp 35) (Go.Operand.tmp 40) 21, 21, none⟩,
            ⟨some 42, Go.Op.binOp Go.BinOp.sub 21 (Go.Operand.tmp 41) (Go.Operand.const (Go.Value.int Go.IntKind.i32 128)) 21, 21, none⟩,
            ⟨some 3, Go.Op.assign (Go.Operand.tmp 42), 21, none⟩]))
        (.region [⟨some 32, Go.Op.move (Go.Operand.tmp 4), 3, none⟩,
          ⟨some 33, Go.Op.binOp Go.BinOp.add 3 (Go.Operand.tmp 32) (Go.Operand.const (Go.Value.int Go.IntKind.i64 1)) 3, 3, none⟩,
          ⟨some 4, Go.Op.assign (Go.Operand.tmp 33), 3, none⟩]))))))
    (.seq (.region [⟨some 43, Go.Op.move (Go.Operand.tmp 3), 21, none⟩,
      ⟨some 2, Go.Op.assign (Go.Operand.tmp 43), 21, none⟩])
    .ret))))) :=
  ⟨foll, Tryz.f44, Tryz.func44, by kernel_rfl, by kernel_rfl, by kernel_rfl, by rw [Tryz.ntmps44]; decide⟩

end Go.Proofs.YtefpcfooahogkaaGreatDoor
set_option linter.unusedVariables false
set_option linter.unusedSimpArgs false
set_option maxRecDepth 100000
namespace Go.Proofs.YtefpcfooahogkaaGreatDoor
open Go Nv Pat

/- The reference's decoder: what may follow a prefix. -/
def sizeX (x : Int) : Int := if (beginM x).missing = 0 then 0 else (beginM x).missing + 1
def lowX (x : Int) (n : Nat) : Int := if n = 0 then (beginM x).low else 128
def highX (x : Int) (n : Nat) : Int := if n = 0 then (beginM x).high else 191
theorem limits70 (x : Int) (rest : List DV) (hr : rest.length ≤ 1000) : PCall Tryz.prog 43 [.d (.list 1 (.int .u8 x :: rest))] (.tuple [.d (.int .u8 (lowX x rest.length)), .d (.int .u8 (highX x rest.length)), .d (.int .i64 (sizeX x))]) := by
  refine fn43.pure noHint (Nat.le_refl _) (by simp only [go_sem]) (by simp only [go_sem]) ?_
  have hpos : (0 : Int) < ((rest.length + 1 : Nat) : Int) := by omega
  have hne : ¬ ((rest.length + 1 : Nat) : Int) = 0 := by omega
  refine wW_cut (fun fr σ => fr 0 = .d (.list 1 (.int .u8 x :: rest)) ∧ σ = []) ?_ ?_
  · simp (disch := omega) only [go_sem, reduceIte, reduceCtorEq, Nat.reduceBEq, Nat.reduceEqDiff, Nat.reduceAdd, Nat.reduceLT, Nat.reduceLeDiff, Int.reduceNeg, Int.reduceAdd, Int.reduceLT, Int.reduceLE, Int.reduceEq, Int.reduceNe]
  rintro fr σ ⟨f0, rfl⟩
  refine wW_cut (fun fr σ => fr 0 = .d (.list 1 (.int .u8 x :: rest)) ∧ σ = []) ?_ ?_
  · simp (disch := omega) only [go_sem, reduceIte, reduceCtorEq, Nat.reduceBEq, Nat.reduceEqDiff, Nat.reduceAdd, Nat.reduceLT, Nat.reduceLeDiff, Int.reduceNeg, Int.reduceAdd, Int.reduceLT, Int.reduceLE, Int.reduceEq, Int.reduceNe, f0, hne]
  rintro fr σ ⟨f0, rfl⟩
  refine wW_cut (fun fr σ => fr 0 = .d (.list 1 (.int .u8 x :: rest)) ∧ fr 5 = .d (.int .i64 0) ∧ σ = []) ?_ ?_
  · simp (disch := omega) only [go_sem, reduceIte, reduceCtorEq, Nat.reduceBEq, Nat.reduceEqDiff, Nat.reduceAdd, Nat.reduceLT, Nat.reduceLeDiff, Int.reduceNeg, Int.reduceAdd, Int.reduceLT, Int.reduceLE, Int.reduceEq, Int.reduceNe, f0]
  rintro fr σ ⟨f0, f5, rfl⟩
  refine wW_cut (fun fr σ => fr 0 = .d (.list 1 (.int .u8 x :: rest)) ∧ fr 5 = .d (.int .i64 (sizeX x)) ∧ σ = []) ?_ ?_
  · by_cases h1 : 194 ≤ x
    · by_cases h2 : x ≤ 223
      · have e : sizeX x = 2 := by simp [sizeX, beginM, h1, h2]
        simp (disch := omega) only [go_sem, reduceIte, reduceCtorEq, Nat.reduceBEq, Nat.reduceEqDiff, Nat.reduceAdd, Nat.reduceLT, Nat.reduceLeDiff, Int.reduceNeg, Int.reduceAdd, Int.reduceLT, Int.reduceLE, Int.reduceEq, Int.reduceNe, f0, f5, hpos, h1, h2, e]
      · by_cases h3 : 224 ≤ x
        · by_cases h4 : x ≤ 239
          · have e : sizeX x = 3 := by simp [sizeX, beginM, h2, h3, h4]
            simp (disch := omega) only [go_sem, reduceIte, reduceCtorEq, Nat.reduceBEq, Nat.reduceEqDiff, Nat.reduceAdd, Nat.reduceLT, Nat.reduceLeDiff, Int.reduceNeg, Int.reduceAdd, Int.reduceLT, Int.reduceLE, Int.reduceEq, Int.reduceNe, f0, f5, hpos, h1, h2, h3, h4, e]
          · by_cases h5 : 240 ≤ x
            · by_cases h6 : x ≤ 244
              · have e : sizeX x = 4 := by simp [sizeX, beginM, h2, h4, h5, h6]
                simp (disch := omega) only [go_sem, reduceIte, reduceCtorEq, Nat.reduceBEq, Nat.reduceEqDiff, Nat.reduceAdd, Nat.reduceLT, Nat.reduceLeDiff, Int.reduceNeg, Int.reduceAdd, Int.reduceLT, Int.reduceLE, Int.reduceEq, Int.reduceNe, f0, f5, hpos, h1, h2, h3, h4, h5, h6, e]
              · have e : sizeX x = 0 := by simp [sizeX, beginM, h2, h4, h6]
                simp (disch := omega) only [go_sem, reduceIte, reduceCtorEq, Nat.reduceBEq, Nat.reduceEqDiff, Nat.reduceAdd, Nat.reduceLT, Nat.reduceLeDiff, Int.reduceNeg, Int.reduceAdd, Int.reduceLT, Int.reduceLE, Int.reduceEq, Int.reduceNe, f0, f5, hpos, h1, h2, h3, h4, h5, h6, e]
            · omega
        · omega
    · have h3 : ¬ 224 ≤ x := by omega
      have h5 : ¬ 240 ≤ x := by omega
      have e : sizeX x = 0 := by simp [sizeX, beginM, h1, h3, h5]
      simp (disch := omega) only [go_sem, reduceIte, reduceCtorEq, Nat.reduceBEq, Nat.reduceEqDiff, Nat.reduceAdd, Nat.reduceLT, Nat.reduceLeDiff, Int.reduceNeg, Int.reduceAdd, Int.reduceLT, Int.reduceLE, Int.reduceEq, Int.reduceNe, f0, f5, hpos, h1, h3, h5, e]
  rintro fr σ ⟨f0, f5, rfl⟩
  cases rest with
  | cons y rest =>
    have e1 : lowX x (rest.length + 1) = 128 := by simp [lowX]
    have e2 : highX x (rest.length + 1) = 191 := by simp [highX]
    have hn1 : ¬ ((rest.length + 1 + 1 : Nat) : Int) = 1 := by omega
    simp (disch := omega) only [go_sem, reduceIte, reduceCtorEq, Nat.reduceBEq, Nat.reduceEqDiff, Nat.reduceAdd, Nat.reduceLT, Nat.reduceLeDiff, Int.reduceNeg, Int.reduceAdd, Int.reduceLT, Int.reduceLE, Int.reduceEq, Int.reduceNe, f0, f5, hn1, e1, e2]
  | nil =>
    have h01 : (0 : Int) < ((0 + 1 : Nat) : Int) := by omega
    have e11 : (((0 + 1 : Nat) : Int) = 1) := by omega
    by_cases h1 : x = 224
    · have e1 : lowX 224 0 = 160 := rfl
      have e2 : highX 224 0 = 191 := rfl
      subst h1
      simp (disch := omega) only [go_sem, reduceIte, reduceCtorEq, Nat.reduceBEq, Nat.reduceEqDiff, Nat.reduceAdd, Nat.reduceLT, Nat.reduceLeDiff, Int.reduceNeg, Int.reduceAdd, Int.reduceLT, Int.reduceLE, Int.reduceEq, Int.reduceNe, f0, f5, h01, e11, e1, e2]
      done
    by_cases h2 : x = 237
    · have e1 : lowX 237 0 = 128 := rfl
      have e2 : highX 237 0 = 159 := rfl
      subst h2
      simp (disch := omega) only [go_sem, reduceIte, reduceCtorEq, Nat.reduceBEq, Nat.reduceEqDiff, Nat.reduceAdd, Nat.reduceLT, Nat.reduceLeDiff, Int.reduceNeg, Int.reduceAdd, Int.reduceLT, Int.reduceLE, Int.reduceEq, Int.reduceNe, f0, f5, h01, e11, e1, e2]
      done
    by_cases h3 : x = 240
    · have e1 : lowX 240 0 = 144 := rfl
      have e2 : highX 240 0 = 191 := rfl
      subst h3
      simp (disch := omega) only [go_sem, reduceIte, reduceCtorEq, Nat.reduceBEq, Nat.reduceEqDiff, Nat.reduceAdd, Nat.reduceLT, Nat.reduceLeDiff, Int.reduceNeg, Int.reduceAdd, Int.reduceLT, Int.reduceLE, Int.reduceEq, Int.reduceNe, f0, f5, h01, e11, e1, e2]
      done
    by_cases h4 : x = 244
    · have e1 : lowX 244 0 = 128 := rfl
      have e2 : highX 244 0 = 143 := rfl
      subst h4
      simp (disch := omega) only [go_sem, reduceIte, reduceCtorEq, Nat.reduceBEq, Nat.reduceEqDiff, Nat.reduceAdd, Nat.reduceLT, Nat.reduceLeDiff, Int.reduceNeg, Int.reduceAdd, Int.reduceLT, Int.reduceLE, Int.reduceEq, Int.reduceNe, f0, f5, h01, e11, e1, e2]
      done
    · have e1 : lowX x 0 = 128 := by simp only [lowX, beginM, h1, h3, if_true, if_false]; split <;> (try split) <;> (try split) <;> rfl
      have e2 : highX x 0 = 191 := by simp only [highX, beginM, h2, h4, if_true, if_false]; split <;> (try split) <;> (try split) <;> rfl
      simp (disch := omega) only [go_sem, reduceIte, reduceCtorEq, Nat.reduceBEq, Nat.reduceEqDiff, Nat.reduceAdd, Nat.reduceLT, Nat.reduceLeDiff, Int.reduceNeg, Int.reduceAdd, Int.reduceLT, Int.reduceLE, Int.reduceEq, Int.reduceNe, f0, f5, h01, e11, h1, h2, h3, h4, e1, e2]
      done

def vals (v : Int) (l : List Int) : Int := l.foldl (fun n b => n * 64 + b - 128) v
def baseX (n : Nat) : Int := if n = 1 then 192 else if n = 2 then 224 else 240
theorem vals_snoc (v : Int) (l : List Int) (b : Int) : vals v (l ++ [b]) = vals v l * 64 + b - 128 := by simp [vals]
theorem vals_ok : ∀ (l : List Int) (k : Nat) (v : Int), 0 ≤ v → v < 32 * (64 : Int) ^ k → (∀ b, b ∈ l → 128 ≤ b ∧ b ≤ 191) → 0 ≤ vals v l ∧ vals v l < 32 * (64 : Int) ^ (k + l.length)
  | [], k, v, h0, h1, _ => ⟨h0, by simpa [vals] using h1⟩
  | b :: l, k, v, h0, h1, h => by
    have hb := h b (by simp)
    have := vals_ok l (k + 1) (v * 64 + b - 128) (by omega) (by rw [Int.pow_succ]; omega) (fun y hy => h y (by simp [hy]))
    rw [show k + 1 + l.length = k + (b :: l).length by simp; omega] at this
    exact this
theorem value71 (x : Int) (l : List Int) (hl : 1 ≤ l.length ∧ l.length ≤ 3) (hx : baseX l.length ≤ x ∧ x < baseX l.length + 32 ∧ x ≤ 255) (hb : ∀ b, b ∈ l → 128 ≤ b ∧ b ≤ 191) :
    PCall Tryz.prog 44 [.d (.list 1 (.int .u8 x :: l.map (DV.int .u8)))] (.d (.int .i32 (vals (x - baseX l.length) l))) := by
  refine fn44.pure noHint (Nat.le_refl _) (by simp only [go_sem]) (by simp only [go_sem]) ?_
  refine wW_cut (fun fr σ => fr 0 = .d (.list 1 (.int .u8 x :: l.map (DV.int .u8))) ∧ σ = []) ?_ ?_
  · simp (disch := omega) only [go_sem, reduceIte, reduceCtorEq, Nat.reduceBEq, Nat.reduceEqDiff, Nat.reduceAdd, Nat.reduceLT, Nat.reduceLeDiff, Int.reduceNeg, Int.reduceAdd, Int.reduceLT, Int.reduceLE, Int.reduceEq, Int.reduceNe]
  rintro fr σ ⟨f0, rfl⟩
  refine wW_cut (fun fr σ => fr 0 = .d (.list 1 (.int .u8 x :: l.map (DV.int .u8))) ∧ σ = []) ?_ ?_
  · simp (disch := omega) only [go_sem, reduceIte, reduceCtorEq, Nat.reduceBEq, Nat.reduceEqDiff, Nat.reduceAdd, Nat.reduceLT, Nat.reduceLeDiff, Int.reduceNeg, Int.reduceAdd, Int.reduceLT, Int.reduceLE, Int.reduceEq, Int.reduceNe, f0]
  rintro fr σ ⟨f0, rfl⟩
  refine wW_cut (fun fr σ => fr 0 = .d (.list 1 (.int .u8 x :: l.map (DV.int .u8))) ∧ fr 3 = .d (.int .i32 (x - baseX l.length)) ∧ σ = []) ?_ ?_
  · have hpos : (0 : Int) < ((l.length + 1 : Nat) : Int) := by omega
    rcases (by omega : l.length = 1 ∨ l.length = 2 ∨ l.length = 3) with h | h | h
    · rw [h] at hx
      simp [baseX] at hx
      have e : baseX 1 = 192 := rfl
      have e1 : ((1 + 1 : Nat) : Int) = 2 := by omega
      have h01 : (0 : Int) < ((1 + 1 : Nat) : Int) := by omega
      simp (disch := omega) only [go_sem, reduceIte, reduceCtorEq, Nat.reduceBEq, Nat.reduceEqDiff, Nat.reduceAdd, Nat.reduceLT, Nat.reduceLeDiff, Int.reduceNeg, Int.reduceAdd, Int.reduceLT, Int.reduceLE, Int.reduceEq, Int.reduceNe, f0, List.length_map, h, e, e1, h01]
    · rw [h] at hx
      simp [baseX] at hx
      have e : baseX 2 = 224 := rfl
      have e1 : ((2 + 1 : Nat) : Int) = 3 := by omega
      have h01 : (0 : Int) < ((2 + 1 : Nat) : Int) := by omega
      simp (disch := omega) only [go_sem, reduceIte, reduceCtorEq, Nat.reduceBEq, Nat.reduceEqDiff, Nat.reduceAdd, Nat.reduceLT, Nat.reduceLeDiff, Int.reduceNeg, Int.reduceAdd, Int.reduceLT, Int.reduceLE, Int.reduceEq, Int.reduceNe, f0, List.length_map, h, e, e1, h01]
    · rw [h] at hx
      simp [baseX] at hx
      have e : baseX 3 = 240 := rfl
      have e1 : ((3 + 1 : Nat) : Int) = 4 := by omega
      have h01 : (0 : Int) < ((3 + 1 : Nat) : Int) := by omega
      simp (disch := omega) only [go_sem, reduceIte, reduceCtorEq, Nat.reduceBEq, Nat.reduceEqDiff, Nat.reduceAdd, Nat.reduceLT, Nat.reduceLeDiff, Int.reduceNeg, Int.reduceAdd, Int.reduceLT, Int.reduceLE, Int.reduceEq, Int.reduceNe, f0, List.length_map, h, e, e1, h01]
  rintro fr σ ⟨f0, f3, rfl⟩
  obtain ⟨v0, hv0⟩ : ∃ v0, v0 = x - baseX l.length := ⟨_, rfl⟩
  rw [← hv0] at f3 ⊢
  have hb0 : 0 ≤ v0 ∧ v0 < 32 := by omega
  simp (disch := omega) only [go_sem, reduceIte, reduceCtorEq, Nat.reduceBEq, Nat.reduceEqDiff, Nat.reduceAdd, Nat.reduceLT, Nat.reduceLeDiff, Int.reduceNeg, Int.reduceAdd, Int.reduceLT, Int.reduceLE, Int.reduceEq, Int.reduceNe, f0, f3]
  refine wL_ind (fun (j : Nat) fr σ => j ≤ l.length ∧ fr 0 = .d (.list 1 (.int .u8 x :: l.map (DV.int .u8))) ∧ fr 3 = .d (.int .i32 (vals v0 (l.take j))) ∧ fr 4 = .d (.int .i64 (j + 1 : Nat))) (fun j => l.length - j) ?_ 0 ?_
  · rintro j fr σ ⟨hj, f0, f3, f4⟩ ih
    by_cases hlt : j < l.length
    · obtain ⟨b, hbe⟩ : ∃ b, b = l.getD j 0 := ⟨_, rfl⟩
      have hbm : b ∈ l := by rw [hbe, List.getD_eq_getElem?_getD, List.getElem?_eq_getElem hlt]; simp
      have hbr := hb b hbm
      have gd : (DV.int .u8 x :: l.map (DV.int .u8)).getD (j + 1) default = .int .u8 b := by rw [hbe]; simp [List.getD_eq_getElem?_getD, hlt]
      have hlt2 : j + 1 < l.length + 1 := by omega
      have hv := vals_ok (l.take j) 0 v0 hb0.1 (by omega) (fun y hy => hb y (List.mem_of_mem_take hy))
      have hpow : (64 : Int) ^ (0 + (l.take j).length) ≤ 4096 := by
        have : (l.take j).length ≤ 2 := by rw [List.length_take]; omega
        match (l.take j).length, this with
        | 0, _ => decide
        | 1, _ => decide
        | 2, _ => decide
      have es : vals v0 (l.take (j + 1)) = vals v0 (l.take j) * 64 + b - 128 := by
        rw [List.take_succ_eq_append_getElem hlt, vals_snoc, hbe]; simp [List.getD_eq_getElem?_getD, hlt]
      generalize vals v0 (l.take j) = w at hv f3 es
      simp (disch := omega) only [go_sem, reduceIte, reduceCtorEq, Nat.reduceBEq, Nat.reduceEqDiff, Nat.reduceAdd, Nat.reduceLT, Nat.reduceLeDiff, Int.reduceNeg, Int.reduceAdd, Int.reduceLT, Int.reduceLE, Int.reduceEq, Int.reduceNe, f0, f3, f4, List.length_map, hlt2, gd]
      refine ih (j + 1) _ _ (by omega) ⟨by omega, ?_, ?_, ?_⟩
      · simp (disch := omega) only [go_sem, reduceIte, reduceCtorEq, Nat.reduceBEq, Nat.reduceEqDiff, Nat.reduceAdd, Nat.reduceLT, Nat.reduceLeDiff, Int.reduceNeg, Int.reduceAdd, Int.reduceLT, Int.reduceLE, Int.reduceEq, Int.reduceNe, f0]
      · rw [es]; simp (disch := omega) only [go_sem, reduceIte, reduceCtorEq, Nat.reduceBEq, Nat.reduceEqDiff, Nat.reduceAdd, Nat.reduceLT, Nat.reduceLeDiff, Int.reduceNeg, Int.reduceAdd, Int.reduceLT, Int.reduceLE, Int.reduceEq, Int.reduceNe]
      · simp (disch := omega) only [go_sem, reduceIte, reduceCtorEq, Nat.reduceBEq, Nat.reduceEqDiff, Nat.reduceAdd, Nat.reduceLT, Nat.reduceLeDiff, Int.reduceNeg, Int.reduceAdd, Int.reduceLT, Int.reduceLE, Int.reduceEq, Int.reduceNe]
    · have e : l.take j = l := List.take_of_length_le (by omega)
      rw [e] at f3
      have hlt2 : ¬ j + 1 < l.length + 1 := by omega
      simp (disch := omega) only [go_sem, reduceIte, reduceCtorEq, Nat.reduceBEq, Nat.reduceEqDiff, Nat.reduceAdd, Nat.reduceLT, Nat.reduceLeDiff, Int.reduceNeg, Int.reduceAdd, Int.reduceLT, Int.reduceLE, Int.reduceEq, Int.reduceNe, f0, f3, f4, List.length_map, hlt2]
  · refine ⟨by omega, ?_, ?_, ?_⟩
    · simp (disch := omega) only [go_sem, reduceIte, reduceCtorEq, Nat.reduceBEq, Nat.reduceEqDiff, Nat.reduceAdd, Nat.reduceLT, Nat.reduceLeDiff, Int.reduceNeg, Int.reduceAdd, Int.reduceLT, Int.reduceLE, Int.reduceEq, Int.reduceNe, f0]
    · simp (disch := omega) only [go_sem, reduceIte, reduceCtorEq, Nat.reduceBEq, Nat.reduceEqDiff, Nat.reduceAdd, Nat.reduceLT, Nat.reduceLeDiff, Int.reduceNeg, Int.reduceAdd, Int.reduceLT, Int.reduceLE, Int.reduceEq, Int.reduceNe, f3, vals]; rfl
    · simp (disch := omega) only [go_sem, reduceIte, reduceCtorEq, Nat.reduceBEq, Nat.reduceEqDiff, Nat.reduceAdd, Nat.reduceLT, Nat.reduceLeDiff, Int.reduceNeg, Int.reduceAdd, Int.reduceLT, Int.reduceLE, Int.reduceEq, Int.reduceNe]; rfl
end Go.Proofs.YtefpcfooahogkaaGreatDoor
