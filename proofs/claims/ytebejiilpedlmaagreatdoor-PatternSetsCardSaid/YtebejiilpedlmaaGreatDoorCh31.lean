/- Part of a proof about the functions of this seat. -/
import Derived.Test.YtebejiilpedlmaaGreatDoorUVW31
import Derived.Test.YtebejiilpedlmaaGreatDoorG1V31
import Derived.Lib.ValidLaws
set_option linter.unusedVariables false
set_option linter.unusedSimpArgs false
set_option maxRecDepth 100000
namespace Go.Proofs.YtebejiilpedlmaaGreatDoor
open Go Nv Pat

/- The characters of two texts one after the other. -/
def shiftD (o : List Int) (k : Nat) (d : Dec) : Dec := ⟨o ++ d.out, d.q, d.start + k⟩
theorem step_shift (o : List Int) (k i : Nat) (d : Dec) (b : Int) : stepD (shiftD o k d) (i + k) b = shiftD o k (stepD d i b) := by
  unfold stepD
  by_cases h : goesOn d.q b
  · rw [if_pos (show goesOn (shiftD o k d).q b from h), if_pos h]
    by_cases h0 : d.q.missing - 1 = 0
    · simp only [shiftD, h0, if_true, List.append_assoc]
    · simp only [shiftD, h0, if_false]
  · rw [if_neg (show ¬ goesOn (shiftD o k d).q b from h), if_neg h]
    simp only [shiftD]
    by_cases hm : 0 < d.q.missing <;> by_cases hb : b < 128 <;> by_cases h0 : (beginM b).missing = 0 <;> simp only [hm, hb, h0, if_true, if_false, List.append_assoc]
theorem decL_shift (o : List Int) (k : Nat) : ∀ (l : List UInt8) (i : Nat) (d : Dec), decL l (i + k) (shiftD o k d) = shiftD o k (decL l i d)
  | [], _, _ => rfl
  | b :: l, i, d => by
    rw [decL, step_shift, show i + k + 1 = (i + 1) + k by omega, decL_shift o k l (i + 1), decL]
theorem decL_append : ∀ (a b : List UInt8) (i : Nat) (d : Dec), decL (a ++ b) i d = decL b (i + a.length) (decL a i d)
  | [], b, i, d => rfl
  | x :: a, b, i, d => by
    rw [List.cons_append, decL, decL_append a b (i + 1), decL, List.length_cons, show i + 1 + a.length = i + (a.length + 1) by omega]
/-- A text that ends with a whole character. -/
def Closed (a : List UInt8) : Prop := (decM a).q.missing = 0
theorem closed_nil : Closed [] := rfl
theorem step_closed {d : Dec} (h : d.q.missing = 0) (i : Nat) (b : Int) : stepD d i b = shiftD d.out i (stepD dec0 0 b) := by
  have h1 : ¬ goesOn d.q b := fun g => by have := g.1; omega
  have h2 : ¬ goesOn dec0.q b := fun g => by have := g.1; simp [dec0] at this
  have h3 : ¬ (0 < d.q.missing) := by omega
  have h4 : ¬ (0 < dec0.q.missing) := by simp [dec0]
  unfold stepD
  rw [if_neg h1, if_neg h2]
  simp only [h3, h4, if_false, shiftD, dec0, List.nil_append, Nat.zero_add]
  split <;> (try split) <;> simp
theorem decM_append {a : List UInt8} (h : Closed a) (b : List UInt8) (hb : b ≠ []) : decM (a ++ b) = shiftD (decM a).out a.length (decM b) := by
  cases b with
  | nil => exact absurd rfl hb
  | cons x b =>
    rw [decM, decL_append, decL, step_closed (show (decL a 0 dec0).q.missing = 0 from h)]
    rw [show 0 + a.length + 1 = (0 + 1) + a.length by omega, show 0 + a.length = a.length by omega, decL_shift]
    rfl
theorem closed_append {a b : List UInt8} (ha : Closed a) (hb : Closed b) : Closed (a ++ b) := by
  by_cases h : b = []
  · subst h; simpa using ha
  · unfold Closed; rw [decM_append ha b h]; exact hb
theorem chars_nil : charsM [] = [] := rfl
theorem chars_closed {a : List UInt8} (ha : Closed a) : charsM a = (decM a).out := by
  have e : restM a = [] := if_pos ha
  rw [charsM, e]; simp [show finM [] = [] from rfl]
theorem chars_append {a : List UInt8} (ha : Closed a) (b : List UInt8) : charsM (a ++ b) = charsM a ++ charsM b := by
  by_cases h : b = []
  · subst h; simp [chars_nil]
  · have e : restM (a ++ b) = restM b := by
      unfold restM
      rw [decM_append ha b h]
      simp only [shiftD]
      rw [show (decM b).start + a.length = a.length + (decM b).start by omega, ← List.drop_drop, List.drop_left]
      rfl
    rw [charsM, e, decM_append ha b h, chars_closed ha, charsM]
    simp [shiftD]

theorem step0 (b : UInt8) (h : (beginM (bt b)).missing ≠ 0) : stepD dec0 0 (bt b) = ⟨[], beginM (bt b), 0⟩ := by
  have hb := begin_big h
  unfold stepD
  rw [if_neg (fun g => by have := g.1; simp [dec0] at this)]
  simp only [dec0, show ¬ (0 : Int) < 0 by omega, if_false, show ¬ bt b < 128 by unfold bt; omega, h]
theorem seq_dec {p : List UInt8} (hp : OkSeq p) : Closed p ∧ ∃ c, (decM p).out = [c] := by
  cases hp with
  | @one b h =>
    have h1 : ¬ goesOn dec0.q (bt b) := fun g => by have := g.1; simp [dec0] at this
    have e : stepD dec0 0 (bt b) = ⟨[bt b], beginM (bt b), 0⟩ := by
      unfold stepD; rw [if_neg h1]
      simp only [dec0, show ¬ (0 : Int) < 0 by omega, if_false, show bt b < 128 by unfold bt; omega, if_true, List.nil_append]
    have e0 : (beginM (bt b)).missing = 0 := by unfold beginM bt; rw [if_neg (by omega), if_neg (by omega), if_neg (by omega)]
    refine ⟨?_, bt b, ?_⟩
    · show (stepD dec0 0 (bt b)).q.missing = 0
      rw [e]; exact e0
    · show (stepD dec0 0 (bt b)).out = _
      rw [e]
  | @two b c h1 h2 h3 =>
    have e : decM [b, c] = stepD (stepD dec0 0 (bt b)) 1 (bt c) := rfl
    rw [step0 b (by omega), stepD, if_pos (show goesOn (beginM (bt b)) (bt c) from ⟨by omega, h2, h3⟩)] at e
    simp only [h1, show (1 : Int) - 1 = 0 by omega, if_true] at e
    exact ⟨by show (decM [b, c]).q.missing = 0; rw [e]; simp only [more]; omega, _, by rw [e]; rfl⟩
  | @three b c d h1 h2 h3 h4 h5 =>
    have e : decM [b, c, d] = stepD (stepD (stepD dec0 0 (bt b)) 1 (bt c)) 2 (bt d) := rfl
    rw [step0 b (by omega), stepD, stepD, if_pos (show goesOn (beginM (bt b)) (bt c) from ⟨by omega, h2, h3⟩)] at e
    simp only [h1, show ¬ (2 : Int) - 1 = 0 by omega, if_false] at e
    rw [if_pos (show goesOn (more (beginM (bt b)) (bt c)) (bt d) from ⟨by simp only [more]; omega, h4, h5⟩)] at e
    simp only [more, h1, show (2 : Int) - 1 - 1 = 0 by omega, if_true] at e
    exact ⟨by show (decM [b, c, d]).q.missing = 0; rw [e], _, by rw [e]; rfl⟩
  | @four b c d f h1 h2 h3 h4 h5 h6 h7 =>
    have e : decM [b, c, d, f] = stepD (stepD (stepD (stepD dec0 0 (bt b)) 1 (bt c)) 2 (bt d)) 3 (bt f) := rfl
    rw [step0 b (by omega), stepD, stepD, stepD, if_pos (show goesOn (beginM (bt b)) (bt c) from ⟨by omega, h2, h3⟩)] at e
    simp only [h1, show ¬ (3 : Int) - 1 = 0 by omega, if_false] at e
    rw [if_pos (show goesOn (more (beginM (bt b)) (bt c)) (bt d) from ⟨by simp only [more]; omega, h4, h5⟩)] at e
    simp only [more, h1, show ¬ (3 : Int) - 1 - 1 = 0 by omega, if_false] at e
    rw [if_pos (show goesOn ⟨_, 3 - 1 - 1, 128, 191⟩ (bt f) from ⟨by simp, h6, h7⟩)] at e
    simp only [show (3 : Int) - 1 - 1 - 1 = 0 by omega, if_true] at e
    exact ⟨by show (decM [b, c, d, f]).q.missing = 0; rw [e], _, by rw [e]; rfl⟩
theorem valid_closed {s : List UInt8} (h : Lib.validD s = true) : Closed s :=
  valid_ind (P := Closed) closed_nil (fun p r hp _ ih => closed_append (seq_dec hp).1 ih) s.length s (Nat.le_refl _) h
/-- Where the characters of a valid text divide, the text divides. -/
theorem valid_cut {s : List UInt8} (h : Lib.validD s = true) : ∀ u v : List Int, charsM s = u ++ v → ∃ i, i ≤ s.length ∧ Lib.validD (s.take i) = true ∧ charsM (s.take i) = u ∧ charsM (s.drop i) = v := by
  refine valid_ind (P := fun s => ∀ u v : List Int, charsM s = u ++ v → ∃ i, i ≤ s.length ∧ Lib.validD (s.take i) = true ∧ charsM (s.take i) = u ∧ charsM (s.drop i) = v) ?_ ?_ s.length s (Nat.le_refl _) h
  · intro u v e
    rw [chars_nil] at e
    obtain ⟨rfl, rfl⟩ := List.append_eq_nil_iff.1 e.symm
    exact ⟨0, Nat.le_refl _, rfl, rfl, rfl⟩
  · intro p r hp hr ih u v e
    cases u with
    | nil => exact ⟨0, by omega, rfl, rfl, by simpa using e⟩
    | cons x u =>
      obtain ⟨hc, c, ec⟩ := seq_dec hp
      rw [chars_append hc, chars_closed hc, ec] at e
      simp only [List.cons_append, List.nil_append, List.cons.injEq] at e
      obtain ⟨i, hi, h1, h2, h3⟩ := ih u v e.2
      refine ⟨p.length + i, by rw [List.length_append]; omega, ?_, ?_, ?_⟩
      · rw [List.take_length_add_append, valid_seq hp]; exact h1
      · rw [List.take_length_add_append, chars_append hc, chars_closed hc, ec, h2, e.1]; rfl
      · rw [List.drop_length_add_append]; exact h3

def join (a b : Tree) : Tree := .mk 3 [] [a, b] 0 0
theorem lang_join (a b : Tree) (w : List Int) : Lang (join a b) w ↔ ∃ u v, w = u ++ v ∧ Lang a u ∧ Lang b v := by
  have e1 : Lang (join a b) w ↔ LangJ [a, b] w := by simp [join, Lang]
  rw [e1, langJ_cons]
  constructor
  · rintro ⟨u, v, rfl, hu, hv⟩
    obtain ⟨x, y, rfl, hx, hy⟩ := (langJ_cons b [] v).1 hv
    obtain rfl : y = [] := (langJ_nil y).1 hy
    exact ⟨u, x, by simp, hu, hx⟩
  · rintro ⟨u, v, rfl, hu, hv⟩
    exact ⟨u, v, rfl, hu, (langJ_cons b [] v).2 ⟨v, [], by simp, hv, (langJ_nil []).2 rfl⟩⟩
/-- What the law counts together. -/
noncomputable def cuts (a b : Tree) (s : List UInt8) (i : Nat) : Bool := (List.range i).any fun j => Lib.validD (s.take j) && (matchB a (s.take j) && matchB b (s.drop j))
theorem cuts_zero (a b : Tree) (s : List UInt8) : cuts a b s 0 = false := rfl
theorem cuts_succ (a b : Tree) (s : List UInt8) (i : Nat) : cuts a b s (i + 1) = (cuts a b s i || (Lib.validD (s.take i) && (matchB a (s.take i) && matchB b (s.drop i)))) := by
  simp [cuts, List.range_succ, List.any_append]
theorem join_cuts {a b : Tree} {s : List UInt8} (hv : Lib.validD s = true) (ha : chkE a = 0) (hb : chkE b = 0) (hj : chkE (join a b) = 0) : cuts a b s (s.length + 1) = matchB (join a b) s := by
  rw [Bool.eq_iff_iff, matchB_iff, lang_join, cuts, List.any_eq_true]
  constructor
  · rintro ⟨j, hj', h⟩
    simp only [Bool.and_eq_true, matchB_iff] at h
    obtain ⟨h1, ⟨_, h2⟩, _, h3⟩ := h
    refine ⟨hj, _, _, ?_, h2, h3⟩
    rw [← chars_append (valid_closed h1), List.take_append_drop]
  · rintro ⟨_, u, v, e, hu, hv'⟩
    obtain ⟨i, hi, h1, h2, h3⟩ := valid_cut hv u v e
    refine ⟨i, List.mem_range.2 (by omega), ?_⟩
    simp only [Bool.and_eq_true, matchB_iff, h2, h3]
    exact ⟨h1, ⟨ha, hu⟩, hb, hv'⟩
end Go.Proofs.YtebejiilpedlmaaGreatDoor
