/- Part of a proof about the functions of this seat. -/
import Derived.Test.YtefpcfooahogkaaGreatDoorG15W3z
import Derived.Test.YtefpcfooahogkaaGreatDoorG13Me3z
import Derived.Test.YtefpcfooahogkaaGreatDoorG11De3z
set_option linter.unusedVariables false
set_option linter.unusedSimpArgs false
set_option maxRecDepth 100000
namespace Go.Proofs.YtefpcfooahogkaaGreatDoor
open Go Nv Pat

theorem m8_63 : ∀ y : Fin 64, m8 (128 + (y.val : Int)) 63 = y.val := by decide +kernel
theorem m8_31 : ∀ y : Fin 32, m8 (192 + (y.val : Int)) 31 = y.val := by decide +kernel
theorem m8_15 : ∀ y : Fin 16, m8 (224 + (y.val : Int)) 15 = y.val := by decide +kernel
theorem m8_7 : ∀ y : Fin 8, m8 (240 + (y.val : Int)) 7 = y.val := by decide +kernel
theorem val_more (x y : Nat) (hx : x < 1048576) (hy : y < 64) : valM (x : Int) (128 + (y : Int)) = ((64 * x + y : Nat) : Int) := by
  unfold valM
  rw [m8_63 ⟨y, hy⟩, show (2 : Int) ^ min 6 32 = 64 by decide, wrap_i32 (n := (x : Int) * 64) (by omega) (by omega)]
  have e : (BitVec.ofInt 32 ((x : Int) * 64) ||| BitVec.ofInt 32 ((y : Nat) : Int)).toNat = 64 * x + y := by
    have h1 : (x : Int) * 64 = ((64 * x : Nat) : Int) := by omega
    rw [h1, BitVec.ofInt_natCast, BitVec.ofInt_natCast, BitVec.toNat_or, BitVec.toNat_ofNat, BitVec.toNat_ofNat, Nat.mod_eq_of_lt (by omega), Nat.mod_eq_of_lt (by omega)]
    exact (Nat.two_pow_add_eq_or_of_lt (i := 6) hy x).symm
  exact (congrArg (fun z : Nat => IntKind.i32.wrap (z : Int)) e).trans (wrap_i32 (by omega) (by omega))
end Go.Proofs.YtefpcfooahogkaaGreatDoor
set_option linter.unusedVariables false
set_option linter.unusedSimpArgs false
set_option maxRecDepth 100000
namespace Go.Proofs.YtefpcfooahogkaaGreatDoor
open Go Nv Pat

/- The reference's decoder as a function, and the program's. -/
def refStep0 (out : List Int) (b : Int) : List Int × List Int := if b < 128 then (out ++ [b], []) else if 0 < sizeX b then (out, [b]) else (out ++ [65533], [])
def refStep (st : List Int × List Int) (b : Int) : List Int × List Int :=
  match st.2 with
  | [] => refStep0 st.1 b
  | x :: r =>
    if b < lowX x r.length ∨ highX x r.length < b then refStep0 (st.1 ++ [65533]) b
    else if (r.length : Int) + 2 = sizeX x then (st.1 ++ [vals (x - baseX (r.length + 1)) (r ++ [b])], []) else (st.1, x :: (r ++ [b]))
def lead (x : Int) : Bool := decide ((beginM x).value = x - baseX (sizeX x - 1).toNat) && decide ((beginM x).missing = sizeX x - 1) && decide (194 ≤ x) && decide (x ≤ 244) && decide (2 ≤ sizeX x) && decide (sizeX x ≤ 4) && decide (0 ≤ x - baseX (sizeX x - 1).toNat) && decide (x - baseX (sizeX x - 1).toNat < 32)
theorem lead_all : ∀ y : Fin 256, 0 < sizeX (y.val : Int) → lead (y.val : Int) = true := by decide +kernel
theorem lead_of {x : Int} (h0 : 0 ≤ x) (h1 : x ≤ 255) (h : 0 < sizeX x) : (beginM x).value = x - baseX (sizeX x - 1).toNat ∧ (beginM x).missing = sizeX x - 1 ∧ 194 ≤ x ∧ x ≤ 244 ∧ 2 ≤ sizeX x ∧ sizeX x ≤ 4 ∧ 0 ≤ x - baseX (sizeX x - 1).toNat ∧ x - baseX (sizeX x - 1).toNat < 32 := by
  have := lead_all ⟨x.toNat, by omega⟩
  simp only [show ((x.toNat : Nat) : Int) = x by omega] at this
  have := this h
  simp only [lead, Bool.and_eq_true, decide_eq_true_eq] at this
  obtain ⟨⟨⟨⟨⟨⟨⟨a1, a2⟩, a3⟩, a4⟩, a5⟩, a6⟩, a7⟩, a8⟩ := this
  exact ⟨a1, a2, a3, a4, a5, a6, a7, a8⟩
def Fits (k : List Int) (q : Sq) : Prop :=
  match k with
  | [] => q.missing = 0
  | x :: r => (0 ≤ x ∧ x ≤ 255) ∧ 0 < sizeX x ∧ q.missing = sizeX x - (r.length + 1) ∧ 0 < q.missing ∧ q.low = lowX x r.length ∧ q.high = highX x r.length ∧ (∀ b, b ∈ r → 128 ≤ b ∧ b ≤ 191) ∧ q.value = vals (x - baseX (sizeX x - 1).toNat) r
theorem size_zero {b : Int} (h : ¬ 0 < sizeX b) : (beginM b).missing = 0 := by
  have := (begin_miss b).1
  unfold sizeX at h
  split at h
  · assumption
  · omega
theorem fits0 (out : List Int) (b : Int) (h0 : 0 ≤ b) (h1 : b ≤ 255) (out' : List Int) (ho : out' = out) :
    (refStep0 out b).1 = (if b < 128 then out' ++ [b] else if (beginM b).missing = 0 then out' ++ [65533] else out') ∧ Fits (refStep0 out b).2 (beginM b) := by
  subst ho
  unfold refStep0
  by_cases hb : b < 128
  · rw [if_pos hb, if_pos hb]
    refine ⟨rfl, ?_⟩
    have : ¬ 0 < sizeX b := fun h => by have := lead_of h0 h1 h; omega
    exact size_zero this
  · rw [if_neg hb, if_neg hb]
    by_cases hs : 0 < sizeX b
    · have := lead_of h0 h1 hs
      rw [if_pos hs, if_neg (by omega)]
      refine ⟨rfl, ⟨h0, h1⟩, hs, by simp; omega, by omega, rfl, rfl, by simp, ?_⟩
      rw [this.1]; rfl
    · rw [if_neg hs, if_pos (size_zero hs)]
      exact ⟨rfl, size_zero hs⟩
theorem val_step {v b : Int} (h0 : 0 ≤ v) (h1 : v < 1048576) (hb : 128 ≤ b ∧ b ≤ 191) : valM v b = v * 64 + b - 128 := by
  have := val_more v.toNat (b - 128).toNat (by omega) (by omega)
  rw [show ((v.toNat : Nat) : Int) = v by omega, show 128 + (((b - 128).toNat : Nat) : Int) = b by omega] at this
  rw [this]; omega
theorem range_ok {x : Int} (h0 : 0 ≤ x) (h1 : x ≤ 255) (h : 0 < sizeX x) (n : Nat) {b : Int} (hb : lowX x n ≤ b ∧ b ≤ highX x n) : 128 ≤ b ∧ b ≤ 191 := by
  have hl := lead_of h0 h1 h
  unfold lowX highX at hb
  split at hb
  · unfold beginM at hb
    repeat' split at hb
    all_goals (simp only at hb; omega)
  · omega
theorem fits_step {out k : List Int} {d : Dec} (ho : d.out = out) (hk : Fits k d.q) (i : Nat) {b : Int} (h0 : 0 ≤ b) (h1 : b ≤ 255) :
    (stepD d i b).out = (refStep (out, k) b).1 ∧ Fits (refStep (out, k) b).2 (stepD d i b).q := by
  cases k with
  | nil =>
    have hq : d.q.missing = 0 := hk
    have h2 := fits0 out b h0 h1 d.out ho
    unfold stepD
    rw [if_neg (fun g => by have := g.1; omega)]
    simp only [show ¬ 0 < d.q.missing by omega, if_false]
    exact ⟨h2.1.symm, h2.2⟩
  | cons x r =>
    obtain ⟨⟨hx0, hx1⟩, hs, hm, hm0, hlo, hhi, hr, hv⟩ := hk
    have hl := lead_of hx0 hx1 hs
    simp only [refStep]
    by_cases hin : b < lowX x r.length ∨ highX x r.length < b
    · have h2 := fits0 (out ++ [65533]) b h0 h1 (d.out ++ [65533]) (by rw [ho])
      rw [if_pos hin]
      unfold stepD
      rw [if_neg (fun g => by have := g.2; rw [hlo, hhi] at this; omega)]
      simp only [hm0, if_true]
      exact ⟨h2.1.symm, h2.2⟩
    · rw [if_neg hin]
      have hbr := range_ok hx0 hx1 hs r.length (b := b) (by omega)
      have hvo := vals_ok r 0 (x - baseX (sizeX x - 1).toNat) hl.2.2.2.2.2.2.1 (by have := hl.2.2.2.2.2.2.2; omega) hr
      have hpow : (64 : Int) ^ (0 + r.length) ≤ 4096 := by
        have : r.length ≤ 2 := by omega
        match r.length, this with
        | 0, _ => decide
        | 1, _ => decide
        | 2, _ => decide
      have hval : valM d.q.value b = vals (x - baseX (sizeX x - 1).toNat) (r ++ [b]) := by
        rw [vals_snoc, hv, val_step (by omega) (by omega) hbr]
      unfold stepD
      rw [if_pos (show goesOn d.q b from ⟨hm0, by omega, by omega⟩)]
      by_cases hend : (r.length : Int) + 2 = sizeX x
      · rw [if_pos hend]
        simp only [show d.q.missing - 1 = 0 by omega, if_true]
        refine ⟨?_, ?_⟩
        · rw [ho, hval, show (sizeX x - 1).toNat = r.length + 1 by omega]
        · show d.q.missing - 1 = 0; omega
      · rw [if_neg hend]
        simp only [show ¬ d.q.missing - 1 = 0 by omega, if_false]
        refine ⟨ho, ⟨hx0, hx1⟩, hs, ?_, ?_, ?_, ?_, ?_, hval⟩
        · simp only [more, List.length_append, List.length_singleton]; omega
        · simp only [more]; omega
        · simp [more, lowX]
        · simp [more, highX]
        · intro y hy
          rcases List.mem_append.1 hy with hy | hy
          · exact hr y hy
          · simp at hy; rw [hy]; exact hbr

/-- The reference's state behind some bytes. -/
def refD (l : List UInt8) (st : List Int × List Int) : List Int × List Int := (l.map bt).foldl refStep st
/-- What is kept is what the program would hand back as the rest. -/
def Kept (pre : List UInt8) (k : List Int) (d : Dec) : Prop := k ≠ [] → d.start ≤ pre.length ∧ (pre.drop d.start).map bt = k
theorem bt_range (b : UInt8) : 0 ≤ bt b ∧ bt b ≤ 255 := by have := b.toNat_lt; unfold bt; omega
theorem step0_kept (out : List Int) (b : Int) : (refStep0 out b).2 = [] ∨ (refStep0 out b).2 = [b] := by
  unfold refStep0; split
  · exact .inl rfl
  · split
    · exact .inr rfl
    · exact .inl rfl
theorem kept_step {pre : List UInt8} {out k : List Int} {d : Dec} (hk : Fits k d.q) (h : Kept pre k d) (b : UInt8) : Kept (pre ++ [b]) (refStep (out, k) (bt b)).2 (stepD d pre.length (bt b)) := by
  intro hne
  have hb := bt_range b
  have new : ∀ o : List Int, (refStep0 o (bt b)).2 ≠ [] → (refStep0 o (bt b)).2 = [bt b] := fun o hn => (step0_kept o (bt b)).resolve_left hn
  cases k with
  | nil =>
    have hq : d.q.missing = 0 := hk
    have e := new out hne
    have es : (stepD d pre.length (bt b)).start = pre.length := by unfold stepD; rw [if_neg (fun g => by have := g.1; omega)]
    rw [es]
    exact ⟨by simp, by rw [List.drop_left]; exact e.symm⟩
  | cons x r =>
    obtain ⟨⟨hx0, hx1⟩, hs, hm, hm0, hlo, hhi, hr, hv⟩ := hk
    obtain ⟨h1, h2⟩ := h (by simp)
    simp only [refStep] at hne ⊢
    by_cases hin : bt b < lowX x r.length ∨ highX x r.length < bt b
    · rw [if_pos hin] at hne ⊢
      have e := new (out ++ [65533]) hne
      have es : (stepD d pre.length (bt b)).start = pre.length := by unfold stepD; rw [if_neg (fun g => by have := g.2; rw [hlo, hhi] at this; omega)]
      rw [es]
      exact ⟨by simp, by rw [List.drop_left]; exact e.symm⟩
    · rw [if_neg hin] at hne ⊢
      have es : (stepD d pre.length (bt b)).start = d.start := by unfold stepD; rw [if_pos (show goesOn d.q (bt b) from ⟨hm0, by omega, by omega⟩)]
      rw [es]
      by_cases hend : (r.length : Int) + 2 = sizeX x
      · rw [if_pos hend] at hne; exact absurd rfl hne
      · rw [if_neg hend] at hne ⊢
        refine ⟨by simp; omega, ?_⟩
        rw [List.drop_append_of_le_length h1, List.map_append, h2]; rfl
theorem ref_dec : ∀ (l pre : List UInt8) (out k : List Int) (d : Dec), d.out = out → Fits k d.q → Kept pre k d →
    (decL l pre.length d).out = (refD l (out, k)).1 ∧ Fits (refD l (out, k)).2 (decL l pre.length d).q ∧ Kept (pre ++ l) (refD l (out, k)).2 (decL l pre.length d)
  | [], pre, out, k, d, h1, h2, h3 => by rw [List.append_nil]; exact ⟨h1, h2, h3⟩
  | b :: l, pre, out, k, d, h1, h2, h3 => by
    have hb := bt_range b
    have a1 := fits_step h1 h2 pre.length hb.1 hb.2
    have a2 := kept_step (out := out) h2 h3 b
    have := ref_dec l (pre ++ [b]) (refStep (out, k) (bt b)).1 (refStep (out, k) (bt b)).2 _ a1.1 a1.2 a2
    rw [List.length_append, List.length_singleton, List.append_assoc, List.singleton_append] at this
    exact this
/-- The reference decodes as the program does. -/
theorem ref_decM (s : List UInt8) : (refD s ([], [])).1 = (decM s).out ∧ (refD s ([], [])).2 = (restM s).map bt := by
  obtain ⟨h1, h2, h3⟩ := ref_dec s [] [] [] dec0 rfl rfl (fun h => absurd rfl h)
  refine ⟨h1.symm, ?_⟩
  show _ = (restM s).map bt
  have h2' : Fits (refD s ([], [])).2 (decM s).q := h2
  unfold restM
  cases hk : (refD s ([], [])).2 with
  | nil =>
    rw [hk] at h2'
    rw [if_pos (show (decM s).q.missing = 0 from h2')]; rfl
  | cons x r =>
    rw [hk] at h2'
    obtain ⟨_, _, _, hm0, _⟩ := h2'
    rw [if_neg (by omega)]
    have := h3 (by rw [hk]; simp)
    rw [hk] at this
    exact this.2.symm
end Go.Proofs.YtefpcfooahogkaaGreatDoor
set_option linter.unusedVariables false
set_option linter.unusedSimpArgs false
set_option maxRecDepth 100000
namespace Go.Proofs.YtefpcfooahogkaaGreatDoor
open Go Nv Pat

def DecR : Prop := ∀ (s : List UInt8) (σ : Nv.ST), s.length ≤ 10000 → RCall Tryz.prog 27 [.d (.str []), .d (.str s)] σ fun v σ' =>
    ∃ g n τ, n = (decM s).out.length ∧ v = .tuple [.own σ.length g 0 n, .d (.str (restM s))] ∧ σ' = σ ++ .arr g ⟨1, 21⟩ (runesD (decM s).out) :: τ
/- The reference's Decode. -/
def hints53 : Nat → Hint := fun i => if i = 36 then .freeze else .no
@[go_sem] theorem hints53_at (i : Nat) : hints53 i = if i = 36 then .freeze else .no := nrfl rfl
def intsD (l : List Int) : List DV := l.map (DV.int .u8)
def Good (k : List Int) : Prop := k = [] ∨ ∃ x r, k = x :: r ∧ (0 ≤ x ∧ x ≤ 255) ∧ 0 < sizeX x ∧ (r.length : Int) + 1 < sizeX x ∧ ∀ b, b ∈ r → 128 ≤ b ∧ b ≤ 191
def meas (n : Nat) (p : Nat × Bool) : Nat := 2 * (n - p.1) + (if p.2 then 0 else 1)
theorem decode53 : DecR := by
  intro s σ hs
  refine fn27.rel hints53 (Nat.le_refl _) ?_
  simp (disch := omega) only [go_sem, reduceIte, reduceDIte, reduceCtorEq, Nat.reduceBEq, Nat.reduceEqDiff, Nat.reduceAdd, Nat.reduceSub, Nat.reduceMul, Nat.reduceLT, Nat.reduceLeDiff, Nat.reduceBNe, Int.reduceNeg, Int.reduceAdd, Int.reduceSub, Int.reduceMul, Int.reduceLT, Int.reduceLE, Int.reduceGT, Int.reduceGE, Int.reduceEq, Int.reduceNe, Int.reduceToNat, Int.reduceTMod, Int.reduceTDiv, List.append_assoc, List.cons_append, List.nil_append, List.length_append, stGet_app, stGet_app0, stSet_app, stSet_app0]
  refine ⟨by omega, ?_⟩
  refine wL_ind (fun (p : Nat × Bool) fr σ' => p.1 ≤ s.length ∧ fr 6 = .d (.str s) ∧ fr 9 = .d (.int .i64 p.1) ∧
    ∃ out k g gk A B, p.2 = k.isEmpty ∧ Good k ∧ (out.length ≤ p.1 ∧ (k ≠ [] → out.length < p.1)) ∧ refD (s.drop p.1) (out, k) = refD s ([], []) ∧ fr 7 = .own σ.length g 0 out.length ∧ fr 8 = .own (σ.length + (A.length + 1)) gk 0 k.length ∧
      σ' = σ ++ (.arr g ⟨1, 21⟩ (runesD out) :: (A ++ (.arr gk ⟨1, 5⟩ (intsD k) :: B)))) (meas s.length) ?_ (0, true) ?_
  · rintro ⟨j, e⟩ fr σ' ⟨hj, f6, f9, out, k, g, gk, A, B, he, hG, hol, hD, f7, f8, rfl⟩ ih
    simp only at hj f9 hol hD he
    by_cases hlt : j < s.length
    · obtain ⟨b, hb⟩ : ∃ b, b = s.getD j 0 := ⟨_, rfl⟩
      rcases hG with rfl | ⟨x, r, rfl, hx, hs1, hs2, hr⟩
      · have hbr := bt_range b
        by_cases h128 : bt b < 128
        · simp (disch := omega) only [go_sem, reduceIte, reduceDIte, reduceCtorEq, Nat.reduceBEq, Nat.reduceEqDiff, Nat.reduceAdd, Nat.reduceSub, Nat.reduceMul, Nat.reduceLT, Nat.reduceLeDiff, Nat.reduceBNe, Int.reduceNeg, Int.reduceAdd, Int.reduceSub, Int.reduceMul, Int.reduceLT, Int.reduceLE, Int.reduceGT, Int.reduceGE, Int.reduceEq, Int.reduceNe, Int.reduceToNat, Int.reduceTMod, Int.reduceTDiv, f6, f7, f8, f9, hlt, List.length_nil, ← hb, List.append_assoc, List.cons_append, List.nil_append, List.length_append, stGet_app, stGet_app0, stSet_app, stSet_app0]
          refine (limits70 (b.toNat : Int) [] (by simp)).at ?_
          have h128' : (b.toNat : Int) < 128 := h128
          have hta := take_all (runesD out) out.length (by rw [runesD_length])
          have hcap : (out.length + 1) * 4 ≤ 140737488355328 := by have := hol.1; omega
          simp (disch := omega) only [go_sem, reduceIte, reduceDIte, reduceCtorEq, Nat.reduceBEq, Nat.reduceEqDiff, Nat.reduceAdd, Nat.reduceSub, Nat.reduceMul, Nat.reduceLT, Nat.reduceLeDiff, Nat.reduceBNe, Int.reduceNeg, Int.reduceAdd, Int.reduceSub, Int.reduceMul, Int.reduceLT, Int.reduceLE, Int.reduceGT, Int.reduceGE, Int.reduceEq, Int.reduceNe, Int.reduceToNat, Int.reduceTMod, Int.reduceTDiv, f6, f7, f8, f9, h128', hta, hcap, runesD_length, Nat.zero_add, Nat.le_refl, List.append_assoc, List.cons_append, List.nil_append, List.length_append, stGet_app, stGet_app0, stSet_app, stSet_app0]
          have hdr : s.drop j = b :: s.drop (j + 1) := by rw [hb, List.drop_eq_getElem_cons hlt]; simp [List.getD_eq_getElem?_getD, hlt]
          refine ih (j + 1, true) _ _ (by subst he; simp [meas]; omega) ⟨by simp only; omega, ?_, ?_, out ++ [bt b], [], g + 1, gk, A, ?B9, rfl, .inl rfl, ⟨by simp only [List.length_append, List.length_singleton]; have := hol.1; omega, fun h => absurd rfl h⟩, ?_, ?_, ?_, ?r9⟩
          case r9 => rw [show runesD (out ++ [bt b]) = runesD out ++ [.int .i32 (b.toNat : Int)] by simp [runesD, bt]]
          · simp (disch := omega) only [go_sem, reduceIte, reduceDIte, reduceCtorEq, Nat.reduceBEq, Nat.reduceEqDiff, Nat.reduceAdd, Nat.reduceSub, Nat.reduceMul, Nat.reduceLT, Nat.reduceLeDiff, Nat.reduceBNe, Int.reduceNeg, Int.reduceAdd, Int.reduceSub, Int.reduceMul, Int.reduceLT, Int.reduceLE, Int.reduceGT, Int.reduceGE, Int.reduceEq, Int.reduceNe, Int.reduceToNat, Int.reduceTMod, Int.reduceTDiv, f6]
          · simp (disch := omega) only [go_sem, reduceIte, reduceDIte, reduceCtorEq, Nat.reduceBEq, Nat.reduceEqDiff, Nat.reduceAdd, Nat.reduceSub, Nat.reduceMul, Nat.reduceLT, Nat.reduceLeDiff, Nat.reduceBNe, Int.reduceNeg, Int.reduceAdd, Int.reduceSub, Int.reduceMul, Int.reduceLT, Int.reduceLE, Int.reduceGT, Int.reduceGE, Int.reduceEq, Int.reduceNe, Int.reduceToNat, Int.reduceTMod, Int.reduceTDiv, f9]
          · rw [← hD, hdr]; simp only [refD, List.map_cons, List.foldl_cons, refStep, refStep0, if_pos h128]
          · rw [show (out ++ [bt b]).length = out.length + 1 by simp]; simp (disch := omega) only [go_sem, reduceIte, reduceDIte, reduceCtorEq, Nat.reduceBEq, Nat.reduceEqDiff, Nat.reduceAdd, Nat.reduceSub, Nat.reduceMul, Nat.reduceLT, Nat.reduceLeDiff, Nat.reduceBNe, Int.reduceNeg, Int.reduceAdd, Int.reduceSub, Int.reduceMul, Int.reduceLT, Int.reduceLE, Int.reduceGT, Int.reduceGE, Int.reduceEq, Int.reduceNe, Int.reduceToNat, Int.reduceTMod, Int.reduceTDiv, f7]
          · simp (disch := omega) only [go_sem, reduceIte, reduceDIte, reduceCtorEq, Nat.reduceBEq, Nat.reduceEqDiff, Nat.reduceAdd, Nat.reduceSub, Nat.reduceMul, Nat.reduceLT, Nat.reduceLeDiff, Nat.reduceBNe, Int.reduceNeg, Int.reduceAdd, Int.reduceSub, Int.reduceMul, Int.reduceLT, Int.reduceLE, Int.reduceGT, Int.reduceGE, Int.reduceEq, Int.reduceNe, Int.reduceToNat, Int.reduceTMod, Int.reduceTDiv, f8, List.length_nil]
        · have h128' : ¬ (b.toNat : Int) < 128 := h128
          by_cases hsz : 0 < sizeX (b.toNat : Int)
          · simp (disch := omega) only [go_sem, reduceIte, reduceDIte, reduceCtorEq, Nat.reduceBEq, Nat.reduceEqDiff, Nat.reduceAdd, Nat.reduceSub, Nat.reduceMul, Nat.reduceLT, Nat.reduceLeDiff, Nat.reduceBNe, Int.reduceNeg, Int.reduceAdd, Int.reduceSub, Int.reduceMul, Int.reduceLT, Int.reduceLE, Int.reduceGT, Int.reduceGE, Int.reduceEq, Int.reduceNe, Int.reduceToNat, Int.reduceTMod, Int.reduceTDiv, f6, f7, f8, f9, hlt, List.length_nil, ← hb, List.append_assoc, List.cons_append, List.nil_append, List.length_append, stGet_app, stGet_app0, stSet_app, stSet_app0]
            refine (limits70 (b.toNat : Int) [] (by simp)).at ?_
            simp (disch := omega) only [go_sem, reduceIte, reduceDIte, reduceCtorEq, Nat.reduceBEq, Nat.reduceEqDiff, Nat.reduceAdd, Nat.reduceSub, Nat.reduceMul, Nat.reduceLT, Nat.reduceLeDiff, Nat.reduceBNe, Int.reduceNeg, Int.reduceAdd, Int.reduceSub, Int.reduceMul, Int.reduceLT, Int.reduceLE, Int.reduceGT, Int.reduceGE, Int.reduceEq, Int.reduceNe, Int.reduceToNat, Int.reduceTMod, Int.reduceTDiv, f6, f7, f8, f9, h128', hsz, intsD, List.map_nil, List.length_nil, Nat.zero_add, Nat.le_refl, List.append_assoc, List.cons_append, List.nil_append, List.length_append, stGet_app, stGet_app0, stSet_app, stSet_app0]
            have hdr : s.drop j = b :: s.drop (j + 1) := by rw [hb, List.drop_eq_getElem_cons hlt]; simp [List.getD_eq_getElem?_getD, hlt]
            have hld := lead_of hbr.1 hbr.2 hsz
            refine ih (j + 1, false) _ _ (by subst he; simp [meas]; omega) ⟨by simp only; omega, ?_, ?_, out, [bt b], g, gk + 1, A, ?B10, rfl, .inr ⟨bt b, [], rfl, hbr, hsz, by simp only [List.length_nil]; omega, by simp⟩, ⟨by have := hol.1; simp only; omega, fun _ => by have := hol.1; simp only; omega⟩, ?_, ?_, ?_, ?r10⟩
            case r10 => simp only [intsD, List.map_cons, List.map_nil, bt]; rfl
            · simp (disch := omega) only [go_sem, reduceIte, reduceDIte, reduceCtorEq, Nat.reduceBEq, Nat.reduceEqDiff, Nat.reduceAdd, Nat.reduceSub, Nat.reduceMul, Nat.reduceLT, Nat.reduceLeDiff, Nat.reduceBNe, Int.reduceNeg, Int.reduceAdd, Int.reduceSub, Int.reduceMul, Int.reduceLT, Int.reduceLE, Int.reduceGT, Int.reduceGE, Int.reduceEq, Int.reduceNe, Int.reduceToNat, Int.reduceTMod, Int.reduceTDiv, f6]
            · simp (disch := omega) only [go_sem, reduceIte, reduceDIte, reduceCtorEq, Nat.reduceBEq, Nat.reduceEqDiff, Nat.reduceAdd, Nat.reduceSub, Nat.reduceMul, Nat.reduceLT, Nat.reduceLeDiff, Nat.reduceBNe, Int.reduceNeg, Int.reduceAdd, Int.reduceSub, Int.reduceMul, Int.reduceLT, Int.reduceLE, Int.reduceGT, Int.reduceGE, Int.reduceEq, Int.reduceNe, Int.reduceToNat, Int.reduceTMod, Int.reduceTDiv, f9]
            · rw [← hD, hdr]
              have hs2 : 0 < sizeX (bt b) := hsz
              simp only [refD, List.map_cons, List.foldl_cons, refStep, refStep0, if_neg h128, if_pos hs2]
            · simp (disch := omega) only [go_sem, reduceIte, reduceDIte, reduceCtorEq, Nat.reduceBEq, Nat.reduceEqDiff, Nat.reduceAdd, Nat.reduceSub, Nat.reduceMul, Nat.reduceLT, Nat.reduceLeDiff, Nat.reduceBNe, Int.reduceNeg, Int.reduceAdd, Int.reduceSub, Int.reduceMul, Int.reduceLT, Int.reduceLE, Int.reduceGT, Int.reduceGE, Int.reduceEq, Int.reduceNe, Int.reduceToNat, Int.reduceTMod, Int.reduceTDiv, f7]
            · simp (disch := omega) only [go_sem, reduceIte, reduceDIte, reduceCtorEq, Nat.reduceBEq, Nat.reduceEqDiff, Nat.reduceAdd, Nat.reduceSub, Nat.reduceMul, Nat.reduceLT, Nat.reduceLeDiff, Nat.reduceBNe, Int.reduceNeg, Int.reduceAdd, Int.reduceSub, Int.reduceMul, Int.reduceLT, Int.reduceLE, Int.reduceGT, Int.reduceGE, Int.reduceEq, Int.reduceNe, Int.reduceToNat, Int.reduceTMod, Int.reduceTDiv, f8, List.length_singleton]
          · have hta := take_all (runesD out) out.length (by rw [runesD_length])
            have hcap : (out.length + 1) * 4 ≤ 140737488355328 := by have := hol.1; omega
            simp (disch := omega) only [go_sem, reduceIte, reduceDIte, reduceCtorEq, Nat.reduceBEq, Nat.reduceEqDiff, Nat.reduceAdd, Nat.reduceSub, Nat.reduceMul, Nat.reduceLT, Nat.reduceLeDiff, Nat.reduceBNe, Int.reduceNeg, Int.reduceAdd, Int.reduceSub, Int.reduceMul, Int.reduceLT, Int.reduceLE, Int.reduceGT, Int.reduceGE, Int.reduceEq, Int.reduceNe, Int.reduceToNat, Int.reduceTMod, Int.reduceTDiv, f6, f7, f8, f9, hlt, List.length_nil, ← hb, List.append_assoc, List.cons_append, List.nil_append, List.length_append, stGet_app, stGet_app0, stSet_app, stSet_app0]
            refine (limits70 (b.toNat : Int) [] (by simp)).at ?_
            simp (disch := omega) only [go_sem, reduceIte, reduceDIte, reduceCtorEq, Nat.reduceBEq, Nat.reduceEqDiff, Nat.reduceAdd, Nat.reduceSub, Nat.reduceMul, Nat.reduceLT, Nat.reduceLeDiff, Nat.reduceBNe, Int.reduceNeg, Int.reduceAdd, Int.reduceSub, Int.reduceMul, Int.reduceLT, Int.reduceLE, Int.reduceGT, Int.reduceGE, Int.reduceEq, Int.reduceNe, Int.reduceToNat, Int.reduceTMod, Int.reduceTDiv, f6, f7, f8, f9, h128', hsz, hta, hcap, runesD_length, Nat.zero_add, Nat.le_refl, List.append_assoc, List.cons_append, List.nil_append, List.length_append, stGet_app, stGet_app0, stSet_app, stSet_app0]
            have hdr : s.drop j = b :: s.drop (j + 1) := by rw [hb, List.drop_eq_getElem_cons hlt]; simp [List.getD_eq_getElem?_getD, hlt]
            refine ih (j + 1, true) _ _ (by subst he; simp [meas]; omega) ⟨by simp only; omega, ?_, ?_, out ++ [65533], [], g + 1, gk, A, ?B11, rfl, .inl rfl, ⟨by simp only [List.length_append, List.length_singleton]; have := hol.1; omega, fun h => absurd rfl h⟩, ?_, ?_, ?_, ?r11⟩
            case r11 => rw [show runesD (out ++ [65533]) = runesD out ++ [.int .i32 65533] by simp [runesD]]
            · simp (disch := omega) only [go_sem, reduceIte, reduceDIte, reduceCtorEq, Nat.reduceBEq, Nat.reduceEqDiff, Nat.reduceAdd, Nat.reduceSub, Nat.reduceMul, Nat.reduceLT, Nat.reduceLeDiff, Nat.reduceBNe, Int.reduceNeg, Int.reduceAdd, Int.reduceSub, Int.reduceMul, Int.reduceLT, Int.reduceLE, Int.reduceGT, Int.reduceGE, Int.reduceEq, Int.reduceNe, Int.reduceToNat, Int.reduceTMod, Int.reduceTDiv, f6]
            · simp (disch := omega) only [go_sem, reduceIte, reduceDIte, reduceCtorEq, Nat.reduceBEq, Nat.reduceEqDiff, Nat.reduceAdd, Nat.reduceSub, Nat.reduceMul, Nat.reduceLT, Nat.reduceLeDiff, Nat.reduceBNe, Int.reduceNeg, Int.reduceAdd, Int.reduceSub, Int.reduceMul, Int.reduceLT, Int.reduceLE, Int.reduceGT, Int.reduceGE, Int.reduceEq, Int.reduceNe, Int.reduceToNat, Int.reduceTMod, Int.reduceTDiv, f9]
            · rw [← hD, hdr]
              have hs2 : ¬ 0 < sizeX (bt b) := hsz
              simp only [refD, List.map_cons, List.foldl_cons, refStep, refStep0, if_neg h128, if_neg hs2]
            · rw [show (out ++ [(65533 : Int)]).length = out.length + 1 by simp]; simp (disch := omega) only [go_sem, reduceIte, reduceDIte, reduceCtorEq, Nat.reduceBEq, Nat.reduceEqDiff, Nat.reduceAdd, Nat.reduceSub, Nat.reduceMul, Nat.reduceLT, Nat.reduceLeDiff, Nat.reduceBNe, Int.reduceNeg, Int.reduceAdd, Int.reduceSub, Int.reduceMul, Int.reduceLT, Int.reduceLE, Int.reduceGT, Int.reduceGE, Int.reduceEq, Int.reduceNe, Int.reduceToNat, Int.reduceTMod, Int.reduceTDiv, f7]
            · simp (disch := omega) only [go_sem, reduceIte, reduceDIte, reduceCtorEq, Nat.reduceBEq, Nat.reduceEqDiff, Nat.reduceAdd, Nat.reduceSub, Nat.reduceMul, Nat.reduceLT, Nat.reduceLeDiff, Nat.reduceBNe, Int.reduceNeg, Int.reduceAdd, Int.reduceSub, Int.reduceMul, Int.reduceLT, Int.reduceLE, Int.reduceGT, Int.reduceGE, Int.reduceEq, Int.reduceNe, Int.reduceToNat, Int.reduceTMod, Int.reduceTDiv, f8, List.length_nil]
      · have hbr := bt_range b
        have hdr : s.drop j = b :: s.drop (j + 1) := by rw [hb, List.drop_eq_getElem_cons hlt]; simp [List.getD_eq_getElem?_getD, hlt]
        have hl1 := hol.1
        have hl2 := hol.2 (by simp)
        have hld := lead_of hx.1 hx.2 hs1
        have hik : (intsD (x :: r)).length = r.length + 1 := by simp [intsD]
        have hta := take_all (runesD out) out.length (by rw [runesD_length])
        have htk := take_all (intsD (x :: r)) (r.length + 1) hik
        have hcap : (out.length + 1) * 4 ≤ 140737488355328 := by omega
        have hrl : r.length ≤ 2 := by omega
        have hlim := limits70 x (intsD r) (by simp [intsD]; omega)
        rw [show (intsD r).length = r.length by simp [intsD]] at hlim
        have hn0 : ¬ ((r.length + 1 : Nat) : Int) = 0 := by omega
        simp (disch := omega) only [go_sem, reduceIte, reduceDIte, reduceCtorEq, Nat.reduceBEq, Nat.reduceEqDiff, Nat.reduceAdd, Nat.reduceSub, Nat.reduceMul, Nat.reduceLT, Nat.reduceLeDiff, Nat.reduceBNe, Int.reduceNeg, Int.reduceAdd, Int.reduceSub, Int.reduceMul, Int.reduceLT, Int.reduceLE, Int.reduceGT, Int.reduceGE, Int.reduceEq, Int.reduceNe, Int.reduceToNat, Int.reduceTMod, Int.reduceTDiv, f6, f7, f8, f9, hlt, List.length_cons, ← hb, hn0, List.append_assoc, List.cons_append, List.nil_append, List.length_append, stGet_app, stGet_app0, stSet_app, stSet_app0]
        refine PCall.lendAt (r := .tuple [.d (.int .u8 (lowX x r.length)), .d (.int .u8 (highX x r.length)), .d (.int .i64 (sizeX x))]) ?_ ?_ ?_ ?_
        · simp (disch := omega) only [go_sem, reduceIte, reduceDIte, reduceCtorEq, Nat.reduceBEq, Nat.reduceEqDiff, Nat.reduceAdd, Nat.reduceSub, Nat.reduceMul, Nat.reduceLT, Nat.reduceLeDiff, Nat.reduceBNe, Int.reduceNeg, Int.reduceAdd, Int.reduceSub, Int.reduceMul, Int.reduceLT, Int.reduceLE, Int.reduceGT, Int.reduceGE, Int.reduceEq, Int.reduceNe, Int.reduceToNat, Int.reduceTMod, Int.reduceTDiv, hik, htk, Nat.zero_add, Nat.le_refl, List.drop_zero, List.append_assoc, List.cons_append, List.nil_append, List.length_append, stGet_app, stGet_app0, stSet_app, stSet_app0]
          exact hlim
        · simp (disch := omega) only [go_sem, reduceIte, reduceDIte, reduceCtorEq, Nat.reduceBEq, Nat.reduceEqDiff, Nat.reduceAdd, Nat.reduceSub, Nat.reduceMul, Nat.reduceLT, Nat.reduceLeDiff, Nat.reduceBNe, Int.reduceNeg, Int.reduceAdd, Int.reduceSub, Int.reduceMul, Int.reduceLT, Int.reduceLE, Int.reduceGT, Int.reduceGE, Int.reduceEq, Int.reduceNe, Int.reduceToNat, Int.reduceTMod, Int.reduceTDiv, hik, htk, Nat.zero_add, Nat.le_refl, List.drop_zero, List.append_assoc, List.cons_append, List.nil_append, List.length_append, stGet_app, stGet_app0, stSet_app, stSet_app0]
        · simp (disch := omega) only [go_sem, reduceIte, reduceDIte, reduceCtorEq, Nat.reduceBEq, Nat.reduceEqDiff, Nat.reduceAdd, Nat.reduceSub, Nat.reduceMul, Nat.reduceLT, Nat.reduceLeDiff, Nat.reduceBNe, Int.reduceNeg, Int.reduceAdd, Int.reduceSub, Int.reduceMul, Int.reduceLT, Int.reduceLE, Int.reduceGT, Int.reduceGE, Int.reduceEq, Int.reduceNe, Int.reduceToNat, Int.reduceTMod, Int.reduceTDiv]
        by_cases hin : bt b < lowX x r.length ∨ highX x r.length < bt b
        · by_cases hlo : (b.toNat : Int) < lowX x r.length
          · simp (disch := omega) only [go_sem, reduceIte, reduceDIte, reduceCtorEq, Nat.reduceBEq, Nat.reduceEqDiff, Nat.reduceAdd, Nat.reduceSub, Nat.reduceMul, Nat.reduceLT, Nat.reduceLeDiff, Nat.reduceBNe, Int.reduceNeg, Int.reduceAdd, Int.reduceSub, Int.reduceMul, Int.reduceLT, Int.reduceLE, Int.reduceGT, Int.reduceGE, Int.reduceEq, Int.reduceNe, Int.reduceToNat, Int.reduceTMod, Int.reduceTDiv, f6, f7, f8, f9, hlo, hta, hcap, runesD_length, Nat.zero_add, Nat.le_refl, List.append_assoc, List.cons_append, List.nil_append, List.length_append, stGet_app, stGet_app0, stSet_app, stSet_app0]
            refine ih (j, true) _ _ (by subst he; simp [meas]) ⟨by simp only; omega, ?_, ?_, out ++ [65533], [], g + 1, 0, A ++ .arr gk ⟨1, 5⟩ (intsD (x :: r)) :: (B ++ [.arr 0 ⟨1, 21⟩ [.int .i32 65533]]), [], rfl, .inl rfl, ⟨by simp only [List.length_append, List.length_singleton]; omega, fun h => absurd rfl h⟩, ?_, ?_, ?_, ?r11⟩
            case r11 => rw [show runesD (out ++ [65533]) = runesD out ++ [.int .i32 65533] by simp [runesD]]; simp (disch := omega) only [go_sem, reduceIte, reduceDIte, reduceCtorEq, Nat.reduceBEq, Nat.reduceEqDiff, Nat.reduceAdd, Nat.reduceSub, Nat.reduceMul, Nat.reduceLT, Nat.reduceLeDiff, Nat.reduceBNe, Int.reduceNeg, Int.reduceAdd, Int.reduceSub, Int.reduceMul, Int.reduceLT, Int.reduceLE, Int.reduceGT, Int.reduceGE, Int.reduceEq, Int.reduceNe, Int.reduceToNat, Int.reduceTMod, Int.reduceTDiv, List.append_assoc, List.cons_append, List.nil_append, List.length_append, stGet_app, stGet_app0, stSet_app, stSet_app0]; rfl
            · simp (disch := omega) only [go_sem, reduceIte, reduceDIte, reduceCtorEq, Nat.reduceBEq, Nat.reduceEqDiff, Nat.reduceAdd, Nat.reduceSub, Nat.reduceMul, Nat.reduceLT, Nat.reduceLeDiff, Nat.reduceBNe, Int.reduceNeg, Int.reduceAdd, Int.reduceSub, Int.reduceMul, Int.reduceLT, Int.reduceLE, Int.reduceGT, Int.reduceGE, Int.reduceEq, Int.reduceNe, Int.reduceToNat, Int.reduceTMod, Int.reduceTDiv, f6]
            · simp (disch := omega) only [go_sem, reduceIte, reduceDIte, reduceCtorEq, Nat.reduceBEq, Nat.reduceEqDiff, Nat.reduceAdd, Nat.reduceSub, Nat.reduceMul, Nat.reduceLT, Nat.reduceLeDiff, Nat.reduceBNe, Int.reduceNeg, Int.reduceAdd, Int.reduceSub, Int.reduceMul, Int.reduceLT, Int.reduceLE, Int.reduceGT, Int.reduceGE, Int.reduceEq, Int.reduceNe, Int.reduceToNat, Int.reduceTMod, Int.reduceTDiv, f9]
            · rw [← hD, hdr]
              simp only [refD, List.map_cons, List.foldl_cons, refStep, if_pos hin]
            · rw [show (out ++ [(65533 : Int)]).length = out.length + 1 by simp]; simp (disch := omega) only [go_sem, reduceIte, reduceDIte, reduceCtorEq, Nat.reduceBEq, Nat.reduceEqDiff, Nat.reduceAdd, Nat.reduceSub, Nat.reduceMul, Nat.reduceLT, Nat.reduceLeDiff, Nat.reduceBNe, Int.reduceNeg, Int.reduceAdd, Int.reduceSub, Int.reduceMul, Int.reduceLT, Int.reduceLE, Int.reduceGT, Int.reduceGE, Int.reduceEq, Int.reduceNe, Int.reduceToNat, Int.reduceTMod, Int.reduceTDiv, f7]
            · simp (disch := omega) only [go_sem, reduceIte, reduceDIte, reduceCtorEq, Nat.reduceBEq, Nat.reduceEqDiff, Nat.reduceAdd, Nat.reduceSub, Nat.reduceMul, Nat.reduceLT, Nat.reduceLeDiff, Nat.reduceBNe, Int.reduceNeg, Int.reduceAdd, Int.reduceSub, Int.reduceMul, Int.reduceLT, Int.reduceLE, Int.reduceGT, Int.reduceGE, Int.reduceEq, Int.reduceNe, Int.reduceToNat, Int.reduceTMod, Int.reduceTDiv, f8, List.length_nil, List.append_assoc, List.cons_append, List.nil_append, List.length_append, stGet_app, stGet_app0, stSet_app, stSet_app0]
          · have hhi : highX x r.length < (b.toNat : Int) := by simp only [bt] at hin; omega
            simp (disch := omega) only [go_sem, reduceIte, reduceDIte, reduceCtorEq, Nat.reduceBEq, Nat.reduceEqDiff, Nat.reduceAdd, Nat.reduceSub, Nat.reduceMul, Nat.reduceLT, Nat.reduceLeDiff, Nat.reduceBNe, Int.reduceNeg, Int.reduceAdd, Int.reduceSub, Int.reduceMul, Int.reduceLT, Int.reduceLE, Int.reduceGT, Int.reduceGE, Int.reduceEq, Int.reduceNe, Int.reduceToNat, Int.reduceTMod, Int.reduceTDiv, f6, f7, f8, f9, hlo, hhi, hta, hcap, runesD_length, Nat.zero_add, Nat.le_refl, List.append_assoc, List.cons_append, List.nil_append, List.length_append, stGet_app, stGet_app0, stSet_app, stSet_app0]
            refine ih (j, true) _ _ (by subst he; simp [meas]) ⟨by simp only; omega, ?_, ?_, out ++ [65533], [], g + 1, 0, A ++ .arr gk ⟨1, 5⟩ (intsD (x :: r)) :: (B ++ [.arr 0 ⟨1, 21⟩ [.int .i32 65533]]), [], rfl, .inl rfl, ⟨by simp only [List.length_append, List.length_singleton]; omega, fun h => absurd rfl h⟩, ?_, ?_, ?_, ?r11⟩
            case r11 => rw [show runesD (out ++ [65533]) = runesD out ++ [.int .i32 65533] by simp [runesD]]; simp (disch := omega) only [go_sem, reduceIte, reduceDIte, reduceCtorEq, Nat.reduceBEq, Nat.reduceEqDiff, Nat.reduceAdd, Nat.reduceSub, Nat.reduceMul, Nat.reduceLT, Nat.reduceLeDiff, Nat.reduceBNe, Int.reduceNeg, Int.reduceAdd, Int.reduceSub, Int.reduceMul, Int.reduceLT, Int.reduceLE, Int.reduceGT, Int.reduceGE, Int.reduceEq, Int.reduceNe, Int.reduceToNat, Int.reduceTMod, Int.reduceTDiv, List.append_assoc, List.cons_append, List.nil_append, List.length_append, stGet_app, stGet_app0, stSet_app, stSet_app0]; rfl
            · simp (disch := omega) only [go_sem, reduceIte, reduceDIte, reduceCtorEq, Nat.reduceBEq, Nat.reduceEqDiff, Nat.reduceAdd, Nat.reduceSub, Nat.reduceMul, Nat.reduceLT, Nat.reduceLeDiff, Nat.reduceBNe, Int.reduceNeg, Int.reduceAdd, Int.reduceSub, Int.reduceMul, Int.reduceLT, Int.reduceLE, Int.reduceGT, Int.reduceGE, Int.reduceEq, Int.reduceNe, Int.reduceToNat, Int.reduceTMod, Int.reduceTDiv, f6]
            · simp (disch := omega) only [go_sem, reduceIte, reduceDIte, reduceCtorEq, Nat.reduceBEq, Nat.reduceEqDiff, Nat.reduceAdd, Nat.reduceSub, Nat.reduceMul, Nat.reduceLT, Nat.reduceLeDiff, Nat.reduceBNe, Int.reduceNeg, Int.reduceAdd, Int.reduceSub, Int.reduceMul, Int.reduceLT, Int.reduceLE, Int.reduceGT, Int.reduceGE, Int.reduceEq, Int.reduceNe, Int.reduceToNat, Int.reduceTMod, Int.reduceTDiv, f9]
            · rw [← hD, hdr]
              simp only [refD, List.map_cons, List.foldl_cons, refStep, if_pos hin]
            · rw [show (out ++ [(65533 : Int)]).length = out.length + 1 by simp]; simp (disch := omega) only [go_sem, reduceIte, reduceDIte, reduceCtorEq, Nat.reduceBEq, Nat.reduceEqDiff, Nat.reduceAdd, Nat.reduceSub, Nat.reduceMul, Nat.reduceLT, Nat.reduceLeDiff, Nat.reduceBNe, Int.reduceNeg, Int.reduceAdd, Int.reduceSub, Int.reduceMul, Int.reduceLT, Int.reduceLE, Int.reduceGT, Int.reduceGE, Int.reduceEq, Int.reduceNe, Int.reduceToNat, Int.reduceTMod, Int.reduceTDiv, f7]
            · simp (disch := omega) only [go_sem, reduceIte, reduceDIte, reduceCtorEq, Nat.reduceBEq, Nat.reduceEqDiff, Nat.reduceAdd, Nat.reduceSub, Nat.reduceMul, Nat.reduceLT, Nat.reduceLeDiff, Nat.reduceBNe, Int.reduceNeg, Int.reduceAdd, Int.reduceSub, Int.reduceMul, Int.reduceLT, Int.reduceLE, Int.reduceGT, Int.reduceGE, Int.reduceEq, Int.reduceNe, Int.reduceToNat, Int.reduceTMod, Int.reduceTDiv, f8, List.length_nil, List.append_assoc, List.cons_append, List.nil_append, List.length_append, stGet_app, stGet_app0, stSet_app, stSet_app0]
        · have hlo : ¬ (b.toNat : Int) < lowX x r.length := by simp only [bt] at hin; omega
          have hhi : ¬ highX x r.length < (b.toNat : Int) := by simp only [bt] at hin; omega
          have hbr2 := range_ok hx.1 hx.2 hs1 r.length (b := bt b) (by omega)
          have hcap2 : (r.length + 1 + 1) * 1 ≤ 140737488355328 := by omega
          by_cases hend : (r.length : Int) + 2 = sizeX x
          · have hend2 : ((r.length + 1 + 1 : Nat) : Int) = sizeX x := by omega
            have hval := value71 x (r ++ [bt b]) (by simp only [List.length_append, List.length_singleton]; omega) (by
              rw [show (sizeX x - 1).toNat = (r ++ [bt b]).length by simp only [List.length_append, List.length_singleton]; omega] at hld
              omega) (fun y hy => by
              rcases List.mem_append.1 hy with hy | hy
              · exact hr y hy
              · simp at hy; rw [hy]; exact hbr2)
            have hik2 : (intsD (x :: r) ++ [DV.int .u8 (b.toNat : Int)]).length = r.length + 1 + 1 := by rw [List.length_append, hik]; rfl
            have htk2 := take_all (intsD (x :: r) ++ [DV.int .u8 (b.toNat : Int)]) (r.length + 1 + 1) hik2
            have ein : intsD (x :: r) ++ [DV.int .u8 (b.toNat : Int)] = DV.int .u8 x :: (r ++ [bt b]).map (DV.int .u8) := by simp [intsD, bt]
            rw [show (r ++ [bt b]).length = r.length + 1 by simp] at hval
            simp (disch := omega) only [go_sem, reduceIte, reduceDIte, reduceCtorEq, Nat.reduceBEq, Nat.reduceEqDiff, Nat.reduceAdd, Nat.reduceSub, Nat.reduceMul, Nat.reduceLT, Nat.reduceLeDiff, Nat.reduceBNe, Int.reduceNeg, Int.reduceAdd, Int.reduceSub, Int.reduceMul, Int.reduceLT, Int.reduceLE, Int.reduceGT, Int.reduceGE, Int.reduceEq, Int.reduceNe, Int.reduceToNat, Int.reduceTMod, Int.reduceTDiv, f6, f7, f8, f9, hlo, hhi, hik, htk, hcap2, hend2, Nat.zero_add, Nat.le_refl, List.append_assoc, List.cons_append, List.nil_append, List.length_append, stGet_app, stGet_app0, stSet_app, stSet_app0]
            refine PCall.lendAt (r := .d (.int .i32 (vals (x - baseX (r.length + 1)) (r ++ [bt b])))) ?_ ?_ ?_ ?_
            · simp (disch := omega) only [go_sem, reduceIte, reduceDIte, reduceCtorEq, Nat.reduceBEq, Nat.reduceEqDiff, Nat.reduceAdd, Nat.reduceSub, Nat.reduceMul, Nat.reduceLT, Nat.reduceLeDiff, Nat.reduceBNe, Int.reduceNeg, Int.reduceAdd, Int.reduceSub, Int.reduceMul, Int.reduceLT, Int.reduceLE, Int.reduceGT, Int.reduceGE, Int.reduceEq, Int.reduceNe, Int.reduceToNat, Int.reduceTMod, Int.reduceTDiv, hik, htk, hik2, htk2, Nat.zero_add, Nat.le_refl, List.drop_zero, List.append_assoc, List.cons_append, List.nil_append, List.length_append, stGet_app, stGet_app0, stSet_app, stSet_app0]
              rw [ein]; exact hval
            · simp (disch := omega) only [go_sem, reduceIte, reduceDIte, reduceCtorEq, Nat.reduceBEq, Nat.reduceEqDiff, Nat.reduceAdd, Nat.reduceSub, Nat.reduceMul, Nat.reduceLT, Nat.reduceLeDiff, Nat.reduceBNe, Int.reduceNeg, Int.reduceAdd, Int.reduceSub, Int.reduceMul, Int.reduceLT, Int.reduceLE, Int.reduceGT, Int.reduceGE, Int.reduceEq, Int.reduceNe, Int.reduceToNat, Int.reduceTMod, Int.reduceTDiv, hik, htk, hik2, htk2, Nat.zero_add, Nat.le_refl, List.drop_zero, List.append_assoc, List.cons_append, List.nil_append, List.length_append, stGet_app, stGet_app0, stSet_app, stSet_app0]
            · simp (disch := omega) only [go_sem, reduceIte, reduceDIte, reduceCtorEq, Nat.reduceBEq, Nat.reduceEqDiff, Nat.reduceAdd, Nat.reduceSub, Nat.reduceMul, Nat.reduceLT, Nat.reduceLeDiff, Nat.reduceBNe, Int.reduceNeg, Int.reduceAdd, Int.reduceSub, Int.reduceMul, Int.reduceLT, Int.reduceLE, Int.reduceGT, Int.reduceGE, Int.reduceEq, Int.reduceNe, Int.reduceToNat, Int.reduceTMod, Int.reduceTDiv]
            obtain ⟨v, hv⟩ : ∃ v, v = vals (x - baseX (r.length + 1)) (r ++ [bt b]) := ⟨_, rfl⟩
            rw [← hv]
            simp (disch := omega) only [go_sem, reduceIte, reduceDIte, reduceCtorEq, Nat.reduceBEq, Nat.reduceEqDiff, Nat.reduceAdd, Nat.reduceSub, Nat.reduceMul, Nat.reduceLT, Nat.reduceLeDiff, Nat.reduceBNe, Int.reduceNeg, Int.reduceAdd, Int.reduceSub, Int.reduceMul, Int.reduceLT, Int.reduceLE, Int.reduceGT, Int.reduceGE, Int.reduceEq, Int.reduceNe, Int.reduceToNat, Int.reduceTMod, Int.reduceTDiv, f6, f7, f8, f9, hta, hcap, runesD_length, Nat.zero_add, Nat.le_refl, List.append_assoc, List.cons_append, List.nil_append, List.length_append, stGet_app, stGet_app0, stSet_app, stSet_app0]
            refine ih (j + 1, true) _ _ (by subst he; simp [meas]; omega) ⟨by simp only; omega, ?_, ?_, out ++ [v], [], g + 1, 0, A ++ .arr (gk + 1) ⟨1, 5⟩ (intsD (x :: r) ++ [DV.int .u8 (b.toNat : Int)]) :: (B ++ [.arr 0 ⟨1, 5⟩ [.int .u8 (b.toNat : Int)], .arr 0 ⟨1, 21⟩ [.int .i32 v]]), [], rfl, .inl rfl, ⟨by simp only [List.length_append, List.length_singleton]; omega, fun h => absurd rfl h⟩, ?_, ?_, ?_, ?r31⟩
            case r31 => rw [show runesD (out ++ [v]) = runesD out ++ [.int .i32 v] by simp [runesD]]; simp (disch := omega) only [go_sem, reduceIte, reduceDIte, reduceCtorEq, Nat.reduceBEq, Nat.reduceEqDiff, Nat.reduceAdd, Nat.reduceSub, Nat.reduceMul, Nat.reduceLT, Nat.reduceLeDiff, Nat.reduceBNe, Int.reduceNeg, Int.reduceAdd, Int.reduceSub, Int.reduceMul, Int.reduceLT, Int.reduceLE, Int.reduceGT, Int.reduceGE, Int.reduceEq, Int.reduceNe, Int.reduceToNat, Int.reduceTMod, Int.reduceTDiv, List.append_assoc, List.cons_append, List.nil_append, List.length_append, stGet_app, stGet_app0, stSet_app, stSet_app0]; rfl
            · simp (disch := omega) only [go_sem, reduceIte, reduceDIte, reduceCtorEq, Nat.reduceBEq, Nat.reduceEqDiff, Nat.reduceAdd, Nat.reduceSub, Nat.reduceMul, Nat.reduceLT, Nat.reduceLeDiff, Nat.reduceBNe, Int.reduceNeg, Int.reduceAdd, Int.reduceSub, Int.reduceMul, Int.reduceLT, Int.reduceLE, Int.reduceGT, Int.reduceGE, Int.reduceEq, Int.reduceNe, Int.reduceToNat, Int.reduceTMod, Int.reduceTDiv, f6]
            · simp (disch := omega) only [go_sem, reduceIte, reduceDIte, reduceCtorEq, Nat.reduceBEq, Nat.reduceEqDiff, Nat.reduceAdd, Nat.reduceSub, Nat.reduceMul, Nat.reduceLT, Nat.reduceLeDiff, Nat.reduceBNe, Int.reduceNeg, Int.reduceAdd, Int.reduceSub, Int.reduceMul, Int.reduceLT, Int.reduceLE, Int.reduceGT, Int.reduceGE, Int.reduceEq, Int.reduceNe, Int.reduceToNat, Int.reduceTMod, Int.reduceTDiv, f9]
            · rw [← hD, hdr]
              simp only [refD, List.map_cons, List.foldl_cons, refStep, if_neg hin, if_pos hend, hv]
            · rw [show (out ++ [v]).length = out.length + 1 by simp]; simp (disch := omega) only [go_sem, reduceIte, reduceDIte, reduceCtorEq, Nat.reduceBEq, Nat.reduceEqDiff, Nat.reduceAdd, Nat.reduceSub, Nat.reduceMul, Nat.reduceLT, Nat.reduceLeDiff, Nat.reduceBNe, Int.reduceNeg, Int.reduceAdd, Int.reduceSub, Int.reduceMul, Int.reduceLT, Int.reduceLE, Int.reduceGT, Int.reduceGE, Int.reduceEq, Int.reduceNe, Int.reduceToNat, Int.reduceTMod, Int.reduceTDiv, f7]
            · simp (disch := omega) only [go_sem, reduceIte, reduceDIte, reduceCtorEq, Nat.reduceBEq, Nat.reduceEqDiff, Nat.reduceAdd, Nat.reduceSub, Nat.reduceMul, Nat.reduceLT, Nat.reduceLeDiff, Nat.reduceBNe, Int.reduceNeg, Int.reduceAdd, Int.reduceSub, Int.reduceMul, Int.reduceLT, Int.reduceLE, Int.reduceGT, Int.reduceGE, Int.reduceEq, Int.reduceNe, Int.reduceToNat, Int.reduceTMod, Int.reduceTDiv, f8, List.length_nil, List.append_assoc, List.cons_append, List.nil_append, List.length_append, stGet_app, stGet_app0, stSet_app, stSet_app0]
          · have hend2 : ¬ ((r.length + 1 + 1 : Nat) : Int) = sizeX x := by omega
            simp (disch := omega) only [go_sem, reduceIte, reduceDIte, reduceCtorEq, Nat.reduceBEq, Nat.reduceEqDiff, Nat.reduceAdd, Nat.reduceSub, Nat.reduceMul, Nat.reduceLT, Nat.reduceLeDiff, Nat.reduceBNe, Int.reduceNeg, Int.reduceAdd, Int.reduceSub, Int.reduceMul, Int.reduceLT, Int.reduceLE, Int.reduceGT, Int.reduceGE, Int.reduceEq, Int.reduceNe, Int.reduceToNat, Int.reduceTMod, Int.reduceTDiv, f6, f7, f8, f9, hlo, hhi, hik, htk, hcap2, hend2, Nat.zero_add, Nat.le_refl, List.append_assoc, List.cons_append, List.nil_append, List.length_append, stGet_app, stGet_app0, stSet_app, stSet_app0]
            refine ih (j + 1, false) _ _ (by subst he; simp [meas]; omega) ⟨by simp only; omega, ?_, ?_, out, x :: (r ++ [bt b]), g, gk + 1, A, ?B20, rfl, .inr ⟨x, r ++ [bt b], rfl, hx, hs1, by simp only [List.length_append, List.length_singleton]; omega, ?_⟩, ⟨by simp only; omega, fun _ => by simp only; omega⟩, ?_, ?_, ?_, ?r20⟩
            case r20 => rw [show intsD (x :: (r ++ [bt b])) = intsD (x :: r) ++ [.int .u8 (b.toNat : Int)] by simp [intsD, bt]]
            · simp (disch := omega) only [go_sem, reduceIte, reduceDIte, reduceCtorEq, Nat.reduceBEq, Nat.reduceEqDiff, Nat.reduceAdd, Nat.reduceSub, Nat.reduceMul, Nat.reduceLT, Nat.reduceLeDiff, Nat.reduceBNe, Int.reduceNeg, Int.reduceAdd, Int.reduceSub, Int.reduceMul, Int.reduceLT, Int.reduceLE, Int.reduceGT, Int.reduceGE, Int.reduceEq, Int.reduceNe, Int.reduceToNat, Int.reduceTMod, Int.reduceTDiv, f6]
            · simp (disch := omega) only [go_sem, reduceIte, reduceDIte, reduceCtorEq, Nat.reduceBEq, Nat.reduceEqDiff, Nat.reduceAdd, Nat.reduceSub, Nat.reduceMul, Nat.reduceLT, Nat.reduceLeDiff, Nat.reduceBNe, Int.reduceNeg, Int.reduceAdd, Int.reduceSub, Int.reduceMul, Int.reduceLT, Int.reduceLE, Int.reduceGT, Int.reduceGE, Int.reduceEq, Int.reduceNe, Int.reduceToNat, Int.reduceTMod, Int.reduceTDiv, f9]
            · intro y hy
              rcases List.mem_append.1 hy with hy | hy
              · exact hr y hy
              · simp at hy; rw [hy]; exact hbr2
            · rw [← hD, hdr]
              simp only [refD, List.map_cons, List.foldl_cons, refStep, if_neg hin, if_neg hend]
            · simp (disch := omega) only [go_sem, reduceIte, reduceDIte, reduceCtorEq, Nat.reduceBEq, Nat.reduceEqDiff, Nat.reduceAdd, Nat.reduceSub, Nat.reduceMul, Nat.reduceLT, Nat.reduceLeDiff, Nat.reduceBNe, Int.reduceNeg, Int.reduceAdd, Int.reduceSub, Int.reduceMul, Int.reduceLT, Int.reduceLE, Int.reduceGT, Int.reduceGE, Int.reduceEq, Int.reduceNe, Int.reduceToNat, Int.reduceTMod, Int.reduceTDiv, f7]
            · simp (disch := omega) only [go_sem, reduceIte, reduceDIte, reduceCtorEq, Nat.reduceBEq, Nat.reduceEqDiff, Nat.reduceAdd, Nat.reduceSub, Nat.reduceMul, Nat.reduceLT, Nat.reduceLeDiff, Nat.reduceBNe, Int.reduceNeg, Int.reduceAdd, Int.reduceSub, Int.reduceMul, Int.reduceLT, Int.reduceLE, Int.reduceGT, Int.reduceGE, Int.reduceEq, Int.reduceNe, Int.reduceToNat, Int.reduceTMod, Int.reduceTDiv, f8, List.length_cons, List.length_append, List.length_singleton]
    · have hje : j = s.length := by omega
      have hsr := ref_decM s
      rw [hje, List.drop_length] at hD
      have e1 : out = (decM s).out := by rw [← hsr.1, ← hD]; rfl
      have e2 : k = (restM s).map bt := by rw [← hsr.2, ← hD]; rfl
      have e3 : intsD k = (restM s).map fun b => .int .u8 (b.toNat : Int) := by rw [e2, intsD, List.map_map]; rfl
      have hik : k.length = (restM s).length := by rw [e2, List.length_map]
      have htk := take_all ((restM s).map fun b => DV.int .u8 (b.toNat : Int)) (restM s).length (by simp)
      simp (disch := omega) only [go_sem, reduceIte, reduceDIte, reduceCtorEq, Nat.reduceBEq, Nat.reduceEqDiff, Nat.reduceAdd, Nat.reduceSub, Nat.reduceMul, Nat.reduceLT, Nat.reduceLeDiff, Nat.reduceBNe, Int.reduceNeg, Int.reduceAdd, Int.reduceSub, Int.reduceMul, Int.reduceLT, Int.reduceLE, Int.reduceGT, Int.reduceGE, Int.reduceEq, Int.reduceNe, Int.reduceToNat, Int.reduceTMod, Int.reduceTDiv, f6, f7, f8, f9, hlt, hik, htk, e3, List.length_map, Nat.zero_add, Nat.le_refl, List.append_assoc, List.cons_append, List.nil_append, List.length_append, stGet_app, stGet_app0, stSet_app, stSet_app0]
      exact ⟨_, rfl, g, out.length, A ++ .arr gk ⟨1, 5⟩ (intsD k) :: B, by rw [e1], rfl, by rw [e1, e3]⟩
  · refine ⟨by omega, ?_, ?_, [], [], 0, 0, [], [], rfl, .inl rfl, ⟨by simp, fun h => absurd rfl h⟩, rfl, ?_, ?_, ?_⟩
    · simp (disch := omega) only [go_sem, reduceIte, reduceDIte, reduceCtorEq, Nat.reduceBEq, Nat.reduceEqDiff, Nat.reduceAdd, Nat.reduceSub, Nat.reduceMul, Nat.reduceLT, Nat.reduceLeDiff, Nat.reduceBNe, Int.reduceNeg, Int.reduceAdd, Int.reduceSub, Int.reduceMul, Int.reduceLT, Int.reduceLE, Int.reduceGT, Int.reduceGE, Int.reduceEq, Int.reduceNe, Int.reduceToNat, Int.reduceTMod, Int.reduceTDiv, List.append_assoc, List.cons_append, List.nil_append, List.length_append, stGet_app, stGet_app0, stSet_app, stSet_app0]
    · simp (disch := omega) only [go_sem, reduceIte, reduceDIte, reduceCtorEq, Nat.reduceBEq, Nat.reduceEqDiff, Nat.reduceAdd, Nat.reduceSub, Nat.reduceMul, Nat.reduceLT, Nat.reduceLeDiff, Nat.reduceBNe, Int.reduceNeg, Int.reduceAdd, Int.reduceSub, Int.reduceMul, Int.reduceLT, Int.reduceLE, Int.reduceGT, Int.reduceGE, Int.reduceEq, Int.reduceNe, Int.reduceToNat, Int.reduceTMod, Int.reduceTDiv, List.append_assoc, List.cons_append, List.nil_append, List.length_append, stGet_app, stGet_app0, stSet_app, stSet_app0]
    · simp (disch := omega) only [go_sem, reduceIte, reduceDIte, reduceCtorEq, Nat.reduceBEq, Nat.reduceEqDiff, Nat.reduceAdd, Nat.reduceSub, Nat.reduceMul, Nat.reduceLT, Nat.reduceLeDiff, Nat.reduceBNe, Int.reduceNeg, Int.reduceAdd, Int.reduceSub, Int.reduceMul, Int.reduceLT, Int.reduceLE, Int.reduceGT, Int.reduceGE, Int.reduceEq, Int.reduceNe, Int.reduceToNat, Int.reduceTMod, Int.reduceTDiv, List.append_assoc, List.cons_append, List.nil_append, List.length_append, stGet_app, stGet_app0, stSet_app, stSet_app0]
    · simp (disch := omega) only [go_sem, reduceIte, reduceDIte, reduceCtorEq, Nat.reduceBEq, Nat.reduceEqDiff, Nat.reduceAdd, Nat.reduceSub, Nat.reduceMul, Nat.reduceLT, Nat.reduceLeDiff, Nat.reduceBNe, Int.reduceNeg, Int.reduceAdd, Int.reduceSub, Int.reduceMul, Int.reduceLT, Int.reduceLE, Int.reduceGT, Int.reduceGE, Int.reduceEq, Int.reduceNe, Int.reduceToNat, Int.reduceTMod, Int.reduceTDiv, List.append_assoc, List.cons_append, List.nil_append, List.length_append, stGet_app, stGet_app0, stSet_app, stSet_app0]
    · simp (disch := omega) only [go_sem, reduceIte, reduceDIte, reduceCtorEq, Nat.reduceBEq, Nat.reduceEqDiff, Nat.reduceAdd, Nat.reduceSub, Nat.reduceMul, Nat.reduceLT, Nat.reduceLeDiff, Nat.reduceBNe, Int.reduceNeg, Int.reduceAdd, Int.reduceSub, Int.reduceMul, Int.reduceLT, Int.reduceLE, Int.reduceGT, Int.reduceGE, Int.reduceEq, Int.reduceNe, Int.reduceToNat, Int.reduceTMod, Int.reduceTDiv, List.append_assoc, List.cons_append, List.nil_append, List.length_append, stGet_app, stGet_app0, stSet_app, stSet_app0]; rfl
end Go.Proofs.YtefpcfooahogkaaGreatDoor
set_option linter.unusedVariables false
set_option linter.unusedSimpArgs false
set_option maxRecDepth 100000
namespace Go.Proofs.YtefpcfooahogkaaGreatDoor
open Go Nv Pat Dfa

/- Both functions Run. -/
theorem ok_facts {d : D} (h : chkD d = 0) : d.labels.length = d.arcs.length ∧ 0 ≤ d.start ∧ d.start < d.arcs.length ∧ statesB d.arcs.length d.labels d.arcs = true := by
  unfold chkD at h
  split at h
  · rename_i hk
    simp only [okB, Bool.and_eq_true, decide_eq_true_eq] at hk
    exact ⟨hk.1.1.1.2, hk.1.1.2, hk.1.2, hk.2⟩
  · cases h
theorem row_ok {d : D} (h : chkD d = 0) {s : Nat} (hs : s < d.arcs.length) : arcsB d.arcs.length none (d.arcs.getD s default) = true := by
  obtain ⟨h1, _, _, h4⟩ := ok_facts h
  exact (states_get d.labels d.arcs s h4 hs h1).2
theorem runes_get (rs : List Int) (j : Nat) (h : j < rs.length) : (runesD rs).getD j default = .int .i32 (rs.getD j 0) := by
  simp [runesD, List.getD_eq_getElem?_getD, h]
theorem rune_cells (n : Int) : (DV.int .i32 n).cells = [.int .i32 n] := rfl
theorem run_cons (d : D) (s r : Int) (l : List Int) : runFrom d s (r :: l) = if stepL (d.arcs.getD s.toNat []) r < 0 then -1 else runFrom d (stepL (d.arcs.getD s.toNat []) r) l := rfl
theorem run12 (d : D) (hf : Fair d) (hk : chkD d = 0) (t : List UInt8) (ht : t.length ≤ 10000) : PCall Tryz.prog 12 [dfaA d, .d (.str t)] (.d (.int .i64 (runFrom d d.start (finM t)))) := by
  refine fn12.pure noHint (Nat.le_refl _) (by simp only [go_sem, dfaA, dfaF, statesD, labelsD]) (by simp only [go_sem]) ?_
  have hr := hf.rows
  have hlb := hf.labels
  have hck := checkDfa d hf
  rw [hk] at hck
  obtain ⟨k1, k2, k3, k4⟩ := ok_facts hk
  simp only [dfaA, dfaF, statesD, labelsD] at hck
  simp (disch := omega) only [go_sem, reduceIte, reduceCtorEq, Nat.reduceBEq, Nat.reduceEqDiff, Nat.reduceAdd, Nat.reduceLT, Nat.reduceLeDiff, Int.reduceNeg, Int.reduceAdd, Int.reduceLT, Int.reduceLE, Int.reduceEq, Int.reduceNe, dfaA, dfaF, statesD, labelsD]
  refine hck.at ?_
  simp (disch := omega) only [go_sem, reduceIte, reduceCtorEq, Nat.reduceBEq, Nat.reduceEqDiff, Nat.reduceAdd, Nat.reduceLT, Nat.reduceLeDiff, Int.reduceNeg, Int.reduceAdd, Int.reduceLT, Int.reduceLE, Int.reduceEq, Int.reduceNe]
  refine (finish32 t (by omega) _).at ?_
  rintro v σ' ⟨g, m, τ, hm, rfl, rfl⟩
  have hfl := fin_len t
  obtain ⟨rs, hrs⟩ : ∃ rs, rs = finM t := ⟨_, rfl⟩
  rw [← hrs] at hm hfl ⊢
  simp (disch := omega) only [go_sem, reduceIte, reduceCtorEq, Nat.reduceBEq, Nat.reduceEqDiff, Nat.reduceAdd, Nat.reduceLT, Nat.reduceLeDiff, Int.reduceNeg, Int.reduceAdd, Int.reduceLT, Int.reduceLE, Int.reduceEq, Int.reduceNe]
  refine wL_ind (fun (j : Nat) fr σ => j ≤ m ∧ fr 2 = .ptr 0 0 ∧ fr 14 = .own 1 g 0 m ∧ fr 15 = .d (.int .i64 m) ∧ fr 16 = .d (.int .i64 j) ∧ σ = .box 29 (dfaF d) :: .arr g ⟨1, 21⟩ (runesD rs) :: τ ∧
    ∃ s : Nat, s < d.arcs.length ∧ fr 5 = .d (.int .i64 s) ∧ runFrom d d.start rs = runFrom d s (rs.drop j)) (fun j => m - j) ?_ 0 ?_
  · rintro j fr σ ⟨hj, f2, f14, f15, f16, rfl, s, hs, f5, hrun⟩ ih
    have hls : s < d.labels.length := by omega
    have hg2 := map_getD (DV.int .i64) d.labels s hls
    by_cases hlt : j < m
    · have hlr : j < rs.length := by omega
      obtain ⟨r, hr0⟩ : ∃ r, r = rs.getD j 0 := ⟨_, rfl⟩
      have hgr := runes_get rs j hlr
      rw [← hr0] at hgr
      have hdr : rs.drop j = r :: rs.drop (j + 1) := by rw [List.drop_eq_getElem_cons hlr, hr0]; simp [List.getD_eq_getElem?_getD, hlr]
      obtain ⟨l, hl⟩ : ∃ l, l = d.arcs.getD s default := ⟨_, rfl⟩
      have hg := map_getD arcsD d.arcs s hs
      have hok := row_ok hk hs
      rw [← hl] at hg hok
      have hln := hf.arcs l (by rw [hl]; exact rows_mem hs)
      have hnx := next25 l r d.arcs.length hln hok
      have hrl : (runesD rs).length = m := by rw [runesD_length, hm]
      rw [hdr, run_cons, show ((s : Int)).toNat = s by omega, show d.arcs.getD s [] = l from hl.symm] at hrun
      simp (disch := omega) only [go_sem, reduceIte, reduceCtorEq, Nat.reduceBEq, Nat.reduceEqDiff, Nat.reduceAdd, Nat.reduceLT, Nat.reduceLeDiff, Int.reduceNeg, Int.reduceAdd, Int.reduceLT, Int.reduceLE, Int.reduceEq, Int.reduceNe, f2, f14, f15, f16, f5, hlt, hrl, hgr, rune_cells, dfaF, statesD, labelsD, List.length_map, hs, hg, arcsD_cells, Nat.zero_add]
      refine hnx.at ?_
      rcases step_range l none hok r with h1 | h1
      · rw [h1, if_pos (by decide)] at hrun
        rw [h1]
        simp (disch := omega) only [go_sem, reduceIte, reduceCtorEq, Nat.reduceBEq, Nat.reduceEqDiff, Nat.reduceAdd, Nat.reduceLT, Nat.reduceLeDiff, Int.reduceNeg, Int.reduceAdd, Int.reduceLT, Int.reduceLE, Int.reduceEq, Int.reduceNe, hrun]
      · obtain ⟨u, hu⟩ : ∃ u : Nat, stepL l r = u := ⟨(stepL l r).toNat, by omega⟩
        rw [hu] at hrun h1 ⊢
        rw [if_neg (by omega)] at hrun
        have hne : ¬ (u : Int) = -1 := by omega
        simp (disch := omega) only [go_sem, reduceIte, reduceCtorEq, Nat.reduceBEq, Nat.reduceEqDiff, Nat.reduceAdd, Nat.reduceLT, Nat.reduceLeDiff, Int.reduceNeg, Int.reduceAdd, Int.reduceLT, Int.reduceLE, Int.reduceEq, Int.reduceNe, hne, f16]
        refine ih (j + 1) _ _ (by omega) ⟨by omega, ?_, ?_, ?_, ?_, ?_, u, by omega, ?_, hrun⟩
        all_goals first | (simp (disch := omega) only [go_sem, reduceIte, reduceCtorEq, Nat.reduceBEq, Nat.reduceEqDiff, Nat.reduceAdd, Nat.reduceLT, Nat.reduceLeDiff, Int.reduceNeg, Int.reduceAdd, Int.reduceLT, Int.reduceLE, Int.reduceEq, Int.reduceNe, f2, f14, f15, f16, dfaF, statesD, labelsD]; done) | rfl
    · rw [List.drop_eq_nil_of_le (by omega)] at hrun
      have e : runFrom d s [] = d.labels.getD s default := by simp only [runFrom, Int.toNat_natCast]; rfl
      simp (disch := omega) only [go_sem, reduceIte, reduceCtorEq, Nat.reduceBEq, Nat.reduceEqDiff, Nat.reduceAdd, Nat.reduceLT, Nat.reduceLeDiff, Int.reduceNeg, Int.reduceAdd, Int.reduceLT, Int.reduceLE, Int.reduceEq, Int.reduceNe, f2, f14, f15, f16, f5, hlt, dfaF, statesD, labelsD, List.length_map, hls, hg2, i64_cells, hrun, e]
  · obtain ⟨s, hs⟩ : ∃ s : Nat, d.start = s := ⟨d.start.toNat, by omega⟩
    refine ⟨by omega, ?_, ?_, ?_, ?_, ?_, s, by omega, ?_, by rw [hs]; rfl⟩
    all_goals first | (simp (disch := omega) only [go_sem, reduceIte, reduceCtorEq, Nat.reduceBEq, Nat.reduceEqDiff, Nat.reduceAdd, Nat.reduceLT, Nat.reduceLeDiff, Int.reduceNeg, Int.reduceAdd, Int.reduceLT, Int.reduceLE, Int.reduceEq, Int.reduceNe, hs, dfaF, statesD, labelsD]; done) | (simp (disch := omega) only [go_sem, reduceIte, reduceCtorEq, Nat.reduceBEq, Nat.reduceEqDiff, Nat.reduceAdd, Nat.reduceLT, Nat.reduceLeDiff, Int.reduceNeg, Int.reduceAdd, Int.reduceLT, Int.reduceLE, Int.reduceEq, Int.reduceNe]; rfl) | rfl
end Go.Proofs.YtefpcfooahogkaaGreatDoor
