/- Part of a proof about the functions of this seat. -/
import Derived.Test.YtjgbdlaecpkmhaaGreatDoorG24Nd34
import Derived.Test.YtjgbdlaecpkmhaaGreatDoorG23Rc34
import Derived.Test.YtjgbdlaecpkmhaaGreatDoorG12NvY
import Derived.KernelRfl
set_option linter.unusedVariables false
set_option linter.unusedSimpArgs false
set_option maxRecDepth 100000
namespace Go.Proofs.YtjgbdlaecpkmhaaGreatDoor
open Go Nv Rul

/- The program's parse of rules. -/
theorem lines_len : ∀ (s x : List UInt8), x ∈ linesOf s → x.length ≤ s.length
  | [], x, h => by simp [linesOf] at h; simp [h]
  | c :: s, x, h => by
    have ih := lines_len s
    have hne := lines_ne s
    rw [linesOf] at h
    split at h
    · rcases List.mem_cons.1 h with rfl | h
      · simp
      · have := ih x h; simp; omega
    · cases hl : linesOf s with
      | nil => exact absurd hl hne
      | cons y ys =>
        rw [hl] at h ih
        rcases List.mem_cons.1 h with rfl | h
        · have := ih y (by simp); simp; omega
        · have := ih x (List.mem_cons_of_mem _ h); simp; omega
theorem cut_len (q : UInt8) : ∀ s : List UInt8, (cutAt q s).1.length ≤ s.length ∧ (cutAt q s).2.1.length ≤ s.length
  | [] => by simp [cutAt]
  | c :: s => by
    have := cut_len q s
    rw [cutAt]; split
    · simp
    · simp; omega
theorem wordsF_len : ∀ (s cur x : List UInt8), x ∈ wordsF cur s → x.length ≤ cur.length + s.length
  | [], cur, x, h => by
    unfold wordsF at h; split at h
    · cases h
    · simp at h; subst h; simp
  | c :: s, cur, x, h => by
    unfold wordsF at h
    split at h
    · split at h
      · have := wordsF_len s [] x h; simp at this ⊢; omega
      · rcases List.mem_cons.1 h with rfl | h
        · simp
        · have := wordsF_len s [] x h; simp at this ⊢; omega
    · have := wordsF_len s _ x h; simp at this ⊢; omega
theorem wordsF_count : ∀ (s cur : List UInt8), (wordsF cur s).length ≤ s.length + 1
  | [], cur => by unfold wordsF; split <;> simp
  | c :: s, cur => by
    unfold wordsF
    split
    · split
      · have := wordsF_count s []; simp; omega
      · have := wordsF_count s []; simp; omega
    · have := wordsF_count s (cur ++ [c]); simp; omega
theorem withWait_np (r : Rule) (w : Option (List UInt8)) : (withWait r w).name = r.name ∧ (withWait r w).pat = r.pat := by cases w <;> exact ⟨rfl, rfl⟩
theorem withRows_np (r : Rule) (w : Option (List UInt8)) : (withRows r w).name = r.name ∧ (withRows r w).pat = r.pat := by cases w <;> exact ⟨rfl, rfl⟩
theorem line_sized {l : List (List UInt8)} {rest : List UInt8} {N : Nat} (h : ∀ x, x ∈ l → x.length ≤ N) (hr : rest.length ≤ N) : (lineR l rest).1.name.length ≤ N ∧ (lineR l rest).1.pat.length ≤ N := by
  have hz : zeroR.name.length ≤ N ∧ zeroR.pat.length ≤ N := ⟨Nat.zero_le _, Nat.zero_le _⟩
  cases hu : unquote (trimR rest) with
  | none => simp only [lineR, hu]; exact hz
  | some text =>
    match l, h with
    | [], _ => simp only [lineR, hu]; exact hz
    | [x], _ => simp only [lineR, hu]; exact hz
    | a :: b :: l, h =>
      rw [line_two hu]
      split
      · have h1 := trimR_len rest
        have h2 := unquote_len hu
        have h3 := h a (by simp)
        simp only [(withRows_np _ _).1, (withRows_np _ _).2, (withWait_np _ _).1, (withWait_np _ _).2]
        exact ⟨h3, by omega⟩
      · exact hz
def listA (l : List Rule) : AV := match l with | [] => .d .nilslice | r :: l => .d (rulesD (r :: l))
def parseA (x : List Rule × Int × Int) : AV := .tuple [listA x.1, .d (.int .i64 x.2.1), .d (.int .i64 x.2.2)]
theorem parseA_pure (x : List Rule × Int × Int) : (parseA x).pure = true := by
  rcases x with ⟨l, a, b⟩
  cases l <;> rfl
def hints10 : Nat → Hint := fun i => if i = 66 then .freeze else if i = 76 then .freeze else .no
@[go_sem] theorem hints10_at (i : Nat) : hints10 i = if i = 66 then .freeze else if i = 76 then .freeze else .no := nrfl rfl
def OutAt (v : AV) (σ : Nv.ST) (out : List Rule) : Prop := (out = [] ∧ v = .d .nilslice ∧ σ = []) ∨
  (out ≠ [] ∧ ∃ g x0 x1 B, v = .own 2 g 0 out.length ∧ σ = x0 :: x1 :: .arr g ⟨6, 33⟩ (out.map ruleD) :: B)
theorem str_get (l : List (List UInt8)) (j : Nat) (h : j < l.length) : (strsD l).getD j default = .str (l.getD j []) := by
  simp [strsD, List.getD_eq_getElem?_getD, h]
theorem str_drop {l : List (List UInt8)} {j : Nat} (h : j < l.length) : l.drop j = l.getD j [] :: l.drop (j + 1) := by
  rw [List.drop_eq_getElem_cons h]; simp [List.getD_eq_getElem?_getD, h]
theorem lent_rules {σ : Nv.ST} {b g n : Nat} {l : List Rule} (hn : l.length = n) (h : stGet σ b = .arr g ⟨6, 33⟩ (l.map ruleD)) : List.map (lent σ) [.own b g 0 n] = [.d (rulesD l)] := by
  subst hn
  simp only [List.map_cons, List.map_nil, lent, lent1, h, List.length_map, Nat.zero_add, Nat.le_refl, and_self, if_true, List.drop_zero]
  rw [List.take_of_length_le (by simp)]; rfl
theorem parse10 (s : List UInt8) (hs : s.length ≤ 90000) : PCall Tryz.prog 10 [.d (.str s)] (parseA (parseT peM s)) := by
  refine fn10.pure hints10 (Nat.le_refl _) (by simp only [go_sem]) (parseA_pure _) ?_
  simp (disch := omega) only [go_sem, reduceIte, reduceDIte, reduceCtorEq, Nat.reduceBEq, Nat.reduceEqDiff, Nat.reduceAdd, Nat.reduceSub, Nat.reduceMul, Nat.reduceLT, Nat.reduceLeDiff, Nat.reduceBNe, Int.reduceNeg, Int.reduceAdd, Int.reduceSub, Int.reduceMul, Int.reduceLT, Int.reduceLE, Int.reduceGT, Int.reduceGE, Int.reduceEq, Int.reduceNe, Int.reduceToNat, Int.reduceTMod, Int.reduceTDiv]
  refine (split18 s (by omega)).at ?_
  have hnl : ∀ x, x ∈ linesOf s → x.length ≤ 90000 := fun x hx => Nat.le_trans (lines_len s x hx) hs
  have hcount : (linesOf s).length ≤ 90001 := by rw [lines_count]; have := List.count_le_length (a := (10 : UInt8)) (l := s); omega
  simp (disch := omega) only [go_sem, reduceIte, reduceDIte, reduceCtorEq, Nat.reduceBEq, Nat.reduceEqDiff, Nat.reduceAdd, Nat.reduceSub, Nat.reduceMul, Nat.reduceLT, Nat.reduceLeDiff, Nat.reduceBNe, Int.reduceNeg, Int.reduceAdd, Int.reduceSub, Int.reduceMul, Int.reduceLT, Int.reduceLE, Int.reduceGT, Int.reduceGE, Int.reduceEq, Int.reduceNe, Int.reduceToNat, Int.reduceTMod, Int.reduceTDiv, List.length_map, strsD]
  refine wL_ind (fun (j : Nat) fr σ => j ≤ (linesOf s).length ∧ fr 16 = .d (.list 1 (strsD (linesOf s))) ∧ fr 17 = .d (.int .i64 (linesOf s).length) ∧ fr 18 = .d (.int .i64 j) ∧
    ∃ out, Sized out ∧ out.length ≤ j ∧ OutAt (fr 5) σ out ∧ parseT peM s = parseF peM out j ((linesOf s).drop j)) (fun j => (linesOf s).length - j) ?_ 0 ?_
  · rintro j fr σ ⟨hj, f16, f17, f18, out, hso, hoj, hout, hp⟩ ih
    by_cases hlt : j < (linesOf s).length
    · obtain ⟨x, hx⟩ : ∃ x, x = (linesOf s).getD j [] := ⟨_, rfl⟩
      have hxm : x ∈ linesOf s := by rw [hx, List.getD_eq_getElem?_getD, List.getElem?_eq_getElem hlt]; exact List.getElem_mem hlt
      have hxl := hnl x hxm
      have hg := str_get (linesOf s) j hlt
      rw [← hx] at hg
      rw [str_drop hlt, ← hx, parseF] at hp
      have hc := cut_len 34 x
      have hlt' : (j : Int) < (linesOf s).length := by omega
      have hll : (strsD (linesOf s)).length = (linesOf s).length := by simp [strsD]
      simp (disch := omega) only [go_sem, reduceIte, reduceDIte, reduceCtorEq, Nat.reduceBEq, Nat.reduceEqDiff, Nat.reduceAdd, Nat.reduceSub, Nat.reduceMul, Nat.reduceLT, Nat.reduceLeDiff, Nat.reduceBNe, Int.reduceNeg, Int.reduceAdd, Int.reduceSub, Int.reduceMul, Int.reduceLT, Int.reduceLE, Int.reduceGT, Int.reduceGE, Int.reduceEq, Int.reduceNe, Int.reduceToNat, Int.reduceTMod, Int.reduceTDiv, f16, f17, f18, hlt', hll, hg]
      refine (cut19 x 34 (by omega)).at ?_
      simp (disch := omega) only [go_sem, reduceIte, reduceDIte, reduceCtorEq, Nat.reduceBEq, Nat.reduceEqDiff, Nat.reduceAdd, Nat.reduceSub, Nat.reduceMul, Nat.reduceLT, Nat.reduceLeDiff, Nat.reduceBNe, Int.reduceNeg, Int.reduceAdd, Int.reduceSub, Int.reduceMul, Int.reduceLT, Int.reduceLE, Int.reduceGT, Int.reduceGE, Int.reduceEq, Int.reduceNe, Int.reduceToNat, Int.reduceTMod, Int.reduceTDiv]
      refine (words21 (cutAt 34 x).1 (by omega)).at ?_
      have hwl : ∀ y, y ∈ wordsOf (cutAt 34 x).1 → y.length ≤ 90000 := fun y hy => by
        have := wordsF_len _ _ y hy; simp at this; omega
      have hwc : (wordsOf (cutAt 34 x).1).length ≤ 90001 := by
        have := wordsF_count (cutAt 34 x).1 []; simp [wordsOf]; omega
      have hwn : ∀ y, y ∈ wordsOf (cutAt 34 x).1 → y ≠ [] := fun y hy => words_ne _ _ y hy
      have hln := line22 (wordsOf (cutAt 34 x).1) (cutAt 34 x).2.1 (by omega) (fun y hy => by have := hwl y hy; omega) (by omega)
      have hsz := line_sized (N := 90000) hwl (show (cutAt 34 x).2.1.length ≤ 90000 by omega)
      have hk : lineK x = if (wordsOf (cutAt 34 x).1 = [] ∧ (cutAt 34 x).2.2 = false) ∨ ((wordsOf (cutAt 34 x).1).headD []).head? = some 35 then .skip
        else if (cutAt 34 x).2.2 = true ∧ (lineR (wordsOf (cutAt 34 x).1) (cutAt 34 x).2.1).2 = true then .rule (lineR (wordsOf (cutAt 34 x).1) (cutAt 34 x).2.1).1 else .bad := rfl
      have hW : ∀ y r, wordsOf (cutAt 34 x).1 = y :: r → ∃ c z, y = c :: z := fun y r he => by
        have := hwn y (by rw [he]; simp)
        match y, this with
        | c :: z, _ => exact ⟨c, z, rfl⟩
      generalize wordsOf (cutAt 34 x).1 = ws at hk hln hsz hwc hwl hwn hW ⊢
      generalize (cutAt 34 x).2.2 = q at hk ⊢
      have h35 : (((35 : UInt8).toNat : Nat) : Int) = 35 := rfl
      have hskip : lineK x = .skip → parseT peM s = parseF peM out (j + 1) ((linesOf s).drop (j + 1)) := fun e => by rw [e] at hp; exact hp
      match ws, hW, hln, hsz, hk with
      | [], _, hln, hsz, hk =>
        cases q
        · simp (disch := omega) only [go_sem, reduceIte, reduceDIte, reduceCtorEq, Nat.reduceBEq, Nat.reduceEqDiff, Nat.reduceAdd, Nat.reduceSub, Nat.reduceMul, Nat.reduceLT, Nat.reduceLeDiff, Nat.reduceBNe, Int.reduceNeg, Int.reduceAdd, Int.reduceSub, Int.reduceMul, Int.reduceLT, Int.reduceLE, Int.reduceGT, Int.reduceGE, Int.reduceEq, Int.reduceNe, Int.reduceToNat, Int.reduceTMod, Int.reduceTDiv, strsD, f18]
          exact ih (j + 1) _ _ (by omega) ⟨by omega, by simp (disch := omega) only [go_sem, reduceIte, reduceDIte, reduceCtorEq, Nat.reduceBEq, Nat.reduceEqDiff, Nat.reduceAdd, Nat.reduceSub, Nat.reduceMul, Nat.reduceLT, Nat.reduceLeDiff, Nat.reduceBNe, Int.reduceNeg, Int.reduceAdd, Int.reduceSub, Int.reduceMul, Int.reduceLT, Int.reduceLE, Int.reduceGT, Int.reduceGE, Int.reduceEq, Int.reduceNe, Int.reduceToNat, Int.reduceTMod, Int.reduceTDiv, f16], by simp (disch := omega) only [go_sem, reduceIte, reduceDIte, reduceCtorEq, Nat.reduceBEq, Nat.reduceEqDiff, Nat.reduceAdd, Nat.reduceSub, Nat.reduceMul, Nat.reduceLT, Nat.reduceLeDiff, Nat.reduceBNe, Int.reduceNeg, Int.reduceAdd, Int.reduceSub, Int.reduceMul, Int.reduceLT, Int.reduceLE, Int.reduceGT, Int.reduceGE, Int.reduceEq, Int.reduceNe, Int.reduceToNat, Int.reduceTMod, Int.reduceTDiv, f17], by simp (disch := omega) only [go_sem, reduceIte, reduceDIte, reduceCtorEq, Nat.reduceBEq, Nat.reduceEqDiff, Nat.reduceAdd, Nat.reduceSub, Nat.reduceMul, Nat.reduceLT, Nat.reduceLeDiff, Nat.reduceBNe, Int.reduceNeg, Int.reduceAdd, Int.reduceSub, Int.reduceMul, Int.reduceLT, Int.reduceLE, Int.reduceGT, Int.reduceGE, Int.reduceEq, Int.reduceNe, Int.reduceToNat, Int.reduceTMod, Int.reduceTDiv], out, hso, by omega, by simp (disch := omega) only [go_sem, reduceIte, reduceDIte, reduceCtorEq, Nat.reduceBEq, Nat.reduceEqDiff, Nat.reduceAdd, Nat.reduceSub, Nat.reduceMul, Nat.reduceLT, Nat.reduceLeDiff, Nat.reduceBNe, Int.reduceNeg, Int.reduceAdd, Int.reduceSub, Int.reduceMul, Int.reduceLT, Int.reduceLE, Int.reduceGT, Int.reduceGE, Int.reduceEq, Int.reduceNe, Int.reduceToNat, Int.reduceTMod, Int.reduceTDiv]; exact hout, hskip (by rw [hk]; rfl)⟩
        · simp (disch := omega) only [go_sem, reduceIte, reduceDIte, reduceCtorEq, Nat.reduceBEq, Nat.reduceEqDiff, Nat.reduceAdd, Nat.reduceSub, Nat.reduceMul, Nat.reduceLT, Nat.reduceLeDiff, Nat.reduceBNe, Int.reduceNeg, Int.reduceAdd, Int.reduceSub, Int.reduceMul, Int.reduceLT, Int.reduceLE, Int.reduceGT, Int.reduceGE, Int.reduceEq, Int.reduceNe, Int.reduceToNat, Int.reduceTMod, Int.reduceTDiv, strsD]
          refine hln.at ?_
          rw [if_neg (by simp)] at hk
          generalize lineR [] (cutAt 34 x).2.1 = rb at hk hsz ⊢
          obtain ⟨r1, b⟩ := rb
          cases b
          · simp (disch := omega) only [go_sem, reduceIte, reduceDIte, reduceCtorEq, Nat.reduceBEq, Nat.reduceEqDiff, Nat.reduceAdd, Nat.reduceSub, Nat.reduceMul, Nat.reduceLT, Nat.reduceLeDiff, Nat.reduceBNe, Int.reduceNeg, Int.reduceAdd, Int.reduceSub, Int.reduceMul, Int.reduceLT, Int.reduceLE, Int.reduceGT, Int.reduceGE, Int.reduceEq, Int.reduceNe, Int.reduceToNat, Int.reduceTMod, Int.reduceTDiv, ruleA, ruleC]
            rw [hp, hk]
            rfl
          · rw [if_pos ⟨rfl, rfl⟩] at hk
            rw [hk] at hp
            simp only at hp
            have hso1 : Sized (out ++ [r1]) := fun q hq => by
              rcases List.mem_append.1 hq with hq | hq
              · exact hso q hq
              · rw [List.mem_singleton.1 hq]; exact ⟨Nat.le_trans hsz.1 (by decide), Nat.le_trans hsz.2 (by decide)⟩
            have hck := check6 (out ++ [r1]) hso1
            rcases hout with ⟨rfl, f5, rfl⟩ | ⟨hne, g, x0, x1, B, f5, rfl⟩
            · simp only [List.nil_append] at hck hp hso1
              simp (disch := omega) only [go_sem, reduceIte, reduceDIte, reduceCtorEq, Nat.reduceBEq, Nat.reduceEqDiff, Nat.reduceAdd, Nat.reduceSub, Nat.reduceMul, Nat.reduceLT, Nat.reduceLeDiff, Nat.reduceBNe, Int.reduceNeg, Int.reduceAdd, Int.reduceSub, Int.reduceMul, Int.reduceLT, Int.reduceLE, Int.reduceGT, Int.reduceGE, Int.reduceEq, Int.reduceNe, Int.reduceToNat, Int.reduceTMod, Int.reduceTDiv, f5, ruleA, ruleC]
              refine PCall.lendAt (r := .d (.int .i64 (chkR peM [r1]))) hck rfl rfl ?_
              by_cases hz : chkR peM [r1] = 0
              · rw [if_pos hz] at hp
                simp (disch := omega) only [go_sem, reduceIte, reduceDIte, reduceCtorEq, Nat.reduceBEq, Nat.reduceEqDiff, Nat.reduceAdd, Nat.reduceSub, Nat.reduceMul, Nat.reduceLT, Nat.reduceLeDiff, Nat.reduceBNe, Int.reduceNeg, Int.reduceAdd, Int.reduceSub, Int.reduceMul, Int.reduceLT, Int.reduceLE, Int.reduceGT, Int.reduceGE, Int.reduceEq, Int.reduceNe, Int.reduceToNat, Int.reduceTMod, Int.reduceTDiv, hz, f18]
                exact ih (j + 1) _ _ (by omega) ⟨by omega, by simp (disch := omega) only [go_sem, reduceIte, reduceDIte, reduceCtorEq, Nat.reduceBEq, Nat.reduceEqDiff, Nat.reduceAdd, Nat.reduceSub, Nat.reduceMul, Nat.reduceLT, Nat.reduceLeDiff, Nat.reduceBNe, Int.reduceNeg, Int.reduceAdd, Int.reduceSub, Int.reduceMul, Int.reduceLT, Int.reduceLE, Int.reduceGT, Int.reduceGE, Int.reduceEq, Int.reduceNe, Int.reduceToNat, Int.reduceTMod, Int.reduceTDiv, f16], by simp (disch := omega) only [go_sem, reduceIte, reduceDIte, reduceCtorEq, Nat.reduceBEq, Nat.reduceEqDiff, Nat.reduceAdd, Nat.reduceSub, Nat.reduceMul, Nat.reduceLT, Nat.reduceLeDiff, Nat.reduceBNe, Int.reduceNeg, Int.reduceAdd, Int.reduceSub, Int.reduceMul, Int.reduceLT, Int.reduceLE, Int.reduceGT, Int.reduceGE, Int.reduceEq, Int.reduceNe, Int.reduceToNat, Int.reduceTMod, Int.reduceTDiv, f17], by simp (disch := omega) only [go_sem, reduceIte, reduceDIte, reduceCtorEq, Nat.reduceBEq, Nat.reduceEqDiff, Nat.reduceAdd, Nat.reduceSub, Nat.reduceMul, Nat.reduceLT, Nat.reduceLeDiff, Nat.reduceBNe, Int.reduceNeg, Int.reduceAdd, Int.reduceSub, Int.reduceMul, Int.reduceLT, Int.reduceLE, Int.reduceGT, Int.reduceGE, Int.reduceEq, Int.reduceNe, Int.reduceToNat, Int.reduceTMod, Int.reduceTDiv], [r1], hso1, by simp, .inr ⟨by simp, _, _, _, _, by simp (disch := omega) only [go_sem, reduceIte, reduceDIte, reduceCtorEq, Nat.reduceBEq, Nat.reduceEqDiff, Nat.reduceAdd, Nat.reduceSub, Nat.reduceMul, Nat.reduceLT, Nat.reduceLeDiff, Nat.reduceBNe, Int.reduceNeg, Int.reduceAdd, Int.reduceSub, Int.reduceMul, Int.reduceLT, Int.reduceLE, Int.reduceGT, Int.reduceGE, Int.reduceEq, Int.reduceNe, Int.reduceToNat, Int.reduceTMod, Int.reduceTDiv], rfl⟩, hp⟩
              · rw [if_neg hz] at hp
                simp (disch := omega) only [go_sem, reduceIte, reduceDIte, reduceCtorEq, Nat.reduceBEq, Nat.reduceEqDiff, Nat.reduceAdd, Nat.reduceSub, Nat.reduceMul, Nat.reduceLT, Nat.reduceLeDiff, Nat.reduceBNe, Int.reduceNeg, Int.reduceAdd, Int.reduceSub, Int.reduceMul, Int.reduceLT, Int.reduceLE, Int.reduceGT, Int.reduceGE, Int.reduceEq, Int.reduceNe, Int.reduceToNat, Int.reduceTMod, Int.reduceTDiv, hz]
                rw [hp]; rfl
            · have ht : List.take out.length (out.map ruleD) = out.map ruleD := List.take_of_length_le (by simp)
              have hle : 0 + out.length ≤ out.length := by omega
              simp (disch := omega) only [go_sem, reduceIte, reduceDIte, reduceCtorEq, Nat.reduceBEq, Nat.reduceEqDiff, Nat.reduceAdd, Nat.reduceSub, Nat.reduceMul, Nat.reduceLT, Nat.reduceLeDiff, Nat.reduceBNe, Int.reduceNeg, Int.reduceAdd, Int.reduceSub, Int.reduceMul, Int.reduceLT, Int.reduceLE, Int.reduceGT, Int.reduceGE, Int.reduceEq, Int.reduceNe, Int.reduceToNat, Int.reduceTMod, Int.reduceTDiv, f5, ruleA, ruleC, List.length_map, ht, hle]
              refine ⟨by omega, ?_⟩
              have el := lent_rules (σ := x0 :: x1 :: .arr (g + 1) ⟨6, 33⟩ (List.map ruleD out ++ [DV.agg [DV.str r1.name, DV.str r1.pat, DV.int IntKind.i64 r1.lo, DV.int IntKind.i64 r1.hi, DV.int IntKind.i64 r1.cls, DV.int IntKind.i64 r1.wait]]) :: (B ++ [.box 33 [AV.d (DV.str r1.name), AV.d (DV.str r1.pat), AV.d (DV.int IntKind.i64 r1.lo), AV.d (DV.int IntKind.i64 r1.hi), AV.d (DV.int IntKind.i64 r1.cls), AV.d (DV.int IntKind.i64 r1.wait)]] ++ [.dead])) (b := 2) (g := g + 1) (n := out.length + 1) (l := out ++ [r1]) (by simp) (by rw [List.map_append]; rfl)
              refine PCall.lendAt (r := .d (.int .i64 (chkR peM (out ++ [r1])))) (by rw [el]; exact hck) (by rw [el]; rfl) rfl ?_
              by_cases hz : chkR peM (out ++ [r1]) = 0
              · rw [if_pos hz] at hp
                simp (disch := omega) only [go_sem, reduceIte, reduceDIte, reduceCtorEq, Nat.reduceBEq, Nat.reduceEqDiff, Nat.reduceAdd, Nat.reduceSub, Nat.reduceMul, Nat.reduceLT, Nat.reduceLeDiff, Nat.reduceBNe, Int.reduceNeg, Int.reduceAdd, Int.reduceSub, Int.reduceMul, Int.reduceLT, Int.reduceLE, Int.reduceGT, Int.reduceGE, Int.reduceEq, Int.reduceNe, Int.reduceToNat, Int.reduceTMod, Int.reduceTDiv, hz, f18]
                exact ih (j + 1) _ _ (by omega) ⟨by omega, by simp (disch := omega) only [go_sem, reduceIte, reduceDIte, reduceCtorEq, Nat.reduceBEq, Nat.reduceEqDiff, Nat.reduceAdd, Nat.reduceSub, Nat.reduceMul, Nat.reduceLT, Nat.reduceLeDiff, Nat.reduceBNe, Int.reduceNeg, Int.reduceAdd, Int.reduceSub, Int.reduceMul, Int.reduceLT, Int.reduceLE, Int.reduceGT, Int.reduceGE, Int.reduceEq, Int.reduceNe, Int.reduceToNat, Int.reduceTMod, Int.reduceTDiv, f16], by simp (disch := omega) only [go_sem, reduceIte, reduceDIte, reduceCtorEq, Nat.reduceBEq, Nat.reduceEqDiff, Nat.reduceAdd, Nat.reduceSub, Nat.reduceMul, Nat.reduceLT, Nat.reduceLeDiff, Nat.reduceBNe, Int.reduceNeg, Int.reduceAdd, Int.reduceSub, Int.reduceMul, Int.reduceLT, Int.reduceLE, Int.reduceGT, Int.reduceGE, Int.reduceEq, Int.reduceNe, Int.reduceToNat, Int.reduceTMod, Int.reduceTDiv, f17], by simp (disch := omega) only [go_sem, reduceIte, reduceDIte, reduceCtorEq, Nat.reduceBEq, Nat.reduceEqDiff, Nat.reduceAdd, Nat.reduceSub, Nat.reduceMul, Nat.reduceLT, Nat.reduceLeDiff, Nat.reduceBNe, Int.reduceNeg, Int.reduceAdd, Int.reduceSub, Int.reduceMul, Int.reduceLT, Int.reduceLE, Int.reduceGT, Int.reduceGE, Int.reduceEq, Int.reduceNe, Int.reduceToNat, Int.reduceTMod, Int.reduceTDiv], out ++ [r1], hso1, by simp; omega, .inr ⟨by simp, g + 1, x0, x1, _, by simp (disch := omega) only [go_sem, reduceIte, reduceDIte, reduceCtorEq, Nat.reduceBEq, Nat.reduceEqDiff, Nat.reduceAdd, Nat.reduceSub, Nat.reduceMul, Nat.reduceLT, Nat.reduceLeDiff, Nat.reduceBNe, Int.reduceNeg, Int.reduceAdd, Int.reduceSub, Int.reduceMul, Int.reduceLT, Int.reduceLE, Int.reduceGT, Int.reduceGE, Int.reduceEq, Int.reduceNe, Int.reduceToNat, Int.reduceTMod, Int.reduceTDiv, List.length_append], by rw [List.map_append]; rfl⟩, hp⟩
              · rw [if_neg hz] at hp
                simp (disch := omega) only [go_sem, reduceIte, reduceDIte, reduceCtorEq, Nat.reduceBEq, Nat.reduceEqDiff, Nat.reduceAdd, Nat.reduceSub, Nat.reduceMul, Nat.reduceLT, Nat.reduceLeDiff, Nat.reduceBNe, Int.reduceNeg, Int.reduceAdd, Int.reduceSub, Int.reduceMul, Int.reduceLT, Int.reduceLE, Int.reduceGT, Int.reduceGE, Int.reduceEq, Int.reduceNe, Int.reduceToNat, Int.reduceTMod, Int.reduceTDiv, hz]
                rw [hp]; rfl
      | y :: r, hW, hln, hsz, hk =>
        obtain ⟨c, z, rfl⟩ := hW y r rfl
        have hl0 : ¬ ((r.length + 1 : Nat) : Int) = 0 := by omega
        have hl1 : (0 : Int) < ((r.length + 1 : Nat) : Int) := by omega
        by_cases hc35 : c = 35
        · simp (disch := omega) only [go_sem, reduceIte, reduceDIte, reduceCtorEq, Nat.reduceBEq, Nat.reduceEqDiff, Nat.reduceAdd, Nat.reduceSub, Nat.reduceMul, Nat.reduceLT, Nat.reduceLeDiff, Nat.reduceBNe, Int.reduceNeg, Int.reduceAdd, Int.reduceSub, Int.reduceMul, Int.reduceLT, Int.reduceLE, Int.reduceGT, Int.reduceGE, Int.reduceEq, Int.reduceNe, Int.reduceToNat, Int.reduceTMod, Int.reduceTDiv, strsD, List.length_map, hl0, hl1, hc35]
          refine ⟨by omega, ?_⟩
          simp (disch := omega) only [go_sem, reduceIte, reduceDIte, reduceCtorEq, Nat.reduceBEq, Nat.reduceEqDiff, Nat.reduceAdd, Nat.reduceSub, Nat.reduceMul, Nat.reduceLT, Nat.reduceLeDiff, Nat.reduceBNe, Int.reduceNeg, Int.reduceAdd, Int.reduceSub, Int.reduceMul, Int.reduceLT, Int.reduceLE, Int.reduceGT, Int.reduceGE, Int.reduceEq, Int.reduceNe, Int.reduceToNat, Int.reduceTMod, Int.reduceTDiv, h35, f18]
          exact ih (j + 1) _ _ (by omega) ⟨by omega, by simp (disch := omega) only [go_sem, reduceIte, reduceDIte, reduceCtorEq, Nat.reduceBEq, Nat.reduceEqDiff, Nat.reduceAdd, Nat.reduceSub, Nat.reduceMul, Nat.reduceLT, Nat.reduceLeDiff, Nat.reduceBNe, Int.reduceNeg, Int.reduceAdd, Int.reduceSub, Int.reduceMul, Int.reduceLT, Int.reduceLE, Int.reduceGT, Int.reduceGE, Int.reduceEq, Int.reduceNe, Int.reduceToNat, Int.reduceTMod, Int.reduceTDiv, f16], by simp (disch := omega) only [go_sem, reduceIte, reduceDIte, reduceCtorEq, Nat.reduceBEq, Nat.reduceEqDiff, Nat.reduceAdd, Nat.reduceSub, Nat.reduceMul, Nat.reduceLT, Nat.reduceLeDiff, Nat.reduceBNe, Int.reduceNeg, Int.reduceAdd, Int.reduceSub, Int.reduceMul, Int.reduceLT, Int.reduceLE, Int.reduceGT, Int.reduceGE, Int.reduceEq, Int.reduceNe, Int.reduceToNat, Int.reduceTMod, Int.reduceTDiv, f17], by simp (disch := omega) only [go_sem, reduceIte, reduceDIte, reduceCtorEq, Nat.reduceBEq, Nat.reduceEqDiff, Nat.reduceAdd, Nat.reduceSub, Nat.reduceMul, Nat.reduceLT, Nat.reduceLeDiff, Nat.reduceBNe, Int.reduceNeg, Int.reduceAdd, Int.reduceSub, Int.reduceMul, Int.reduceLT, Int.reduceLE, Int.reduceGT, Int.reduceGE, Int.reduceEq, Int.reduceNe, Int.reduceToNat, Int.reduceTMod, Int.reduceTDiv], out, hso, by omega, by simp (disch := omega) only [go_sem, reduceIte, reduceDIte, reduceCtorEq, Nat.reduceBEq, Nat.reduceEqDiff, Nat.reduceAdd, Nat.reduceSub, Nat.reduceMul, Nat.reduceLT, Nat.reduceLeDiff, Nat.reduceBNe, Int.reduceNeg, Int.reduceAdd, Int.reduceSub, Int.reduceMul, Int.reduceLT, Int.reduceLE, Int.reduceGT, Int.reduceGE, Int.reduceEq, Int.reduceNe, Int.reduceToNat, Int.reduceTMod, Int.reduceTDiv]; exact hout, hskip (by rw [hk, if_pos (.inr (by simp [hc35]))])⟩
        · have hc35' : ¬ (c.toNat : Int) = 35 := fun e => hc35 (by apply UInt8.toNat_inj.1; show c.toNat = 35; omega)
          simp (disch := omega) only [go_sem, reduceIte, reduceDIte, reduceCtorEq, Nat.reduceBEq, Nat.reduceEqDiff, Nat.reduceAdd, Nat.reduceSub, Nat.reduceMul, Nat.reduceLT, Nat.reduceLeDiff, Nat.reduceBNe, Int.reduceNeg, Int.reduceAdd, Int.reduceSub, Int.reduceMul, Int.reduceLT, Int.reduceLE, Int.reduceGT, Int.reduceGE, Int.reduceEq, Int.reduceNe, Int.reduceToNat, Int.reduceTMod, Int.reduceTDiv, strsD, List.length_map, hl0, hl1, hc35]
          refine ⟨by omega, ?_⟩
          simp (disch := omega) only [go_sem, reduceIte, reduceDIte, reduceCtorEq, Nat.reduceBEq, Nat.reduceEqDiff, Nat.reduceAdd, Nat.reduceSub, Nat.reduceMul, Nat.reduceLT, Nat.reduceLeDiff, Nat.reduceBNe, Int.reduceNeg, Int.reduceAdd, Int.reduceSub, Int.reduceMul, Int.reduceLT, Int.reduceLE, Int.reduceGT, Int.reduceGE, Int.reduceEq, Int.reduceNe, Int.reduceToNat, Int.reduceTMod, Int.reduceTDiv, hc35']
          refine hln.at ?_
          rw [if_neg (by simp [hc35])] at hk
          generalize lineR ((c :: z) :: r) (cutAt 34 x).2.1 = rb at hk hsz ⊢
          obtain ⟨r1, b⟩ := rb
          cases q
          · simp (disch := omega) only [go_sem, reduceIte, reduceDIte, reduceCtorEq, Nat.reduceBEq, Nat.reduceEqDiff, Nat.reduceAdd, Nat.reduceSub, Nat.reduceMul, Nat.reduceLT, Nat.reduceLeDiff, Nat.reduceBNe, Int.reduceNeg, Int.reduceAdd, Int.reduceSub, Int.reduceMul, Int.reduceLT, Int.reduceLE, Int.reduceGT, Int.reduceGE, Int.reduceEq, Int.reduceNe, Int.reduceToNat, Int.reduceTMod, Int.reduceTDiv, ruleA, ruleC]
            rw [hp, hk]
            rfl
          · cases b
            · simp (disch := omega) only [go_sem, reduceIte, reduceDIte, reduceCtorEq, Nat.reduceBEq, Nat.reduceEqDiff, Nat.reduceAdd, Nat.reduceSub, Nat.reduceMul, Nat.reduceLT, Nat.reduceLeDiff, Nat.reduceBNe, Int.reduceNeg, Int.reduceAdd, Int.reduceSub, Int.reduceMul, Int.reduceLT, Int.reduceLE, Int.reduceGT, Int.reduceGE, Int.reduceEq, Int.reduceNe, Int.reduceToNat, Int.reduceTMod, Int.reduceTDiv, ruleA, ruleC]
              rw [hp, hk]
              rfl
            · rw [if_pos ⟨rfl, rfl⟩] at hk
              rw [hk] at hp
              simp only at hp
              have hso1 : Sized (out ++ [r1]) := fun q hq => by
                rcases List.mem_append.1 hq with hq | hq
                · exact hso q hq
                · rw [List.mem_singleton.1 hq]; exact ⟨Nat.le_trans hsz.1 (by decide), Nat.le_trans hsz.2 (by decide)⟩
              have hck := check6 (out ++ [r1]) hso1
              rcases hout with ⟨rfl, f5, rfl⟩ | ⟨hne, g, x0, x1, B, f5, rfl⟩
              · simp only [List.nil_append] at hck hp hso1
                simp (disch := omega) only [go_sem, reduceIte, reduceDIte, reduceCtorEq, Nat.reduceBEq, Nat.reduceEqDiff, Nat.reduceAdd, Nat.reduceSub, Nat.reduceMul, Nat.reduceLT, Nat.reduceLeDiff, Nat.reduceBNe, Int.reduceNeg, Int.reduceAdd, Int.reduceSub, Int.reduceMul, Int.reduceLT, Int.reduceLE, Int.reduceGT, Int.reduceGE, Int.reduceEq, Int.reduceNe, Int.reduceToNat, Int.reduceTMod, Int.reduceTDiv, f5, ruleA, ruleC]
                refine PCall.lendAt (r := .d (.int .i64 (chkR peM [r1]))) hck rfl rfl ?_
                by_cases hz : chkR peM [r1] = 0
                · rw [if_pos hz] at hp
                  simp (disch := omega) only [go_sem, reduceIte, reduceDIte, reduceCtorEq, Nat.reduceBEq, Nat.reduceEqDiff, Nat.reduceAdd, Nat.reduceSub, Nat.reduceMul, Nat.reduceLT, Nat.reduceLeDiff, Nat.reduceBNe, Int.reduceNeg, Int.reduceAdd, Int.reduceSub, Int.reduceMul, Int.reduceLT, Int.reduceLE, Int.reduceGT, Int.reduceGE, Int.reduceEq, Int.reduceNe, Int.reduceToNat, Int.reduceTMod, Int.reduceTDiv, hz, f18]
                  exact ih (j + 1) _ _ (by omega) ⟨by omega, by simp (disch := omega) only [go_sem, reduceIte, reduceDIte, reduceCtorEq, Nat.reduceBEq, Nat.reduceEqDiff, Nat.reduceAdd, Nat.reduceSub, Nat.reduceMul, Nat.reduceLT, Nat.reduceLeDiff, Nat.reduceBNe, Int.reduceNeg, Int.reduceAdd, Int.reduceSub, Int.reduceMul, Int.reduceLT, Int.reduceLE, Int.reduceGT, Int.reduceGE, Int.reduceEq, Int.reduceNe, Int.reduceToNat, Int.reduceTMod, Int.reduceTDiv, f16], by simp (disch := omega) only [go_sem, reduceIte, reduceDIte, reduceCtorEq, Nat.reduceBEq, Nat.reduceEqDiff, Nat.reduceAdd, Nat.reduceSub, Nat.reduceMul, Nat.reduceLT, Nat.reduceLeDiff, Nat.reduceBNe, Int.reduceNeg, Int.reduceAdd, Int.reduceSub, Int.reduceMul, Int.reduceLT, Int.reduceLE, Int.reduceGT, Int.reduceGE, Int.reduceEq, Int.reduceNe, Int.reduceToNat, Int.reduceTMod, Int.reduceTDiv, f17], by simp (disch := omega) only [go_sem, reduceIte, reduceDIte, reduceCtorEq, Nat.reduceBEq, Nat.reduceEqDiff, Nat.reduceAdd, Nat.reduceSub, Nat.reduceMul, Nat.reduceLT, Nat.reduceLeDiff, Nat.reduceBNe, Int.reduceNeg, Int.reduceAdd, Int.reduceSub, Int.reduceMul, Int.reduceLT, Int.reduceLE, Int.reduceGT, Int.reduceGE, Int.reduceEq, Int.reduceNe, Int.reduceToNat, Int.reduceTMod, Int.reduceTDiv], [r1], hso1, by simp, .inr ⟨by simp, _, _, _, _, by simp (disch := omega) only [go_sem, reduceIte, reduceDIte, reduceCtorEq, Nat.reduceBEq, Nat.reduceEqDiff, Nat.reduceAdd, Nat.reduceSub, Nat.reduceMul, Nat.reduceLT, Nat.reduceLeDiff, Nat.reduceBNe, Int.reduceNeg, Int.reduceAdd, Int.reduceSub, Int.reduceMul, Int.reduceLT, Int.reduceLE, Int.reduceGT, Int.reduceGE, Int.reduceEq, Int.reduceNe, Int.reduceToNat, Int.reduceTMod, Int.reduceTDiv], rfl⟩, hp⟩
                · rw [if_neg hz] at hp
                  simp (disch := omega) only [go_sem, reduceIte, reduceDIte, reduceCtorEq, Nat.reduceBEq, Nat.reduceEqDiff, Nat.reduceAdd, Nat.reduceSub, Nat.reduceMul, Nat.reduceLT, Nat.reduceLeDiff, Nat.reduceBNe, Int.reduceNeg, Int.reduceAdd, Int.reduceSub, Int.reduceMul, Int.reduceLT, Int.reduceLE, Int.reduceGT, Int.reduceGE, Int.reduceEq, Int.reduceNe, Int.reduceToNat, Int.reduceTMod, Int.reduceTDiv, hz]
                  rw [hp]; rfl
              · have ht : List.take out.length (out.map ruleD) = out.map ruleD := List.take_of_length_le (by simp)
                have hle : 0 + out.length ≤ out.length := by omega
                simp (disch := omega) only [go_sem, reduceIte, reduceDIte, reduceCtorEq, Nat.reduceBEq, Nat.reduceEqDiff, Nat.reduceAdd, Nat.reduceSub, Nat.reduceMul, Nat.reduceLT, Nat.reduceLeDiff, Nat.reduceBNe, Int.reduceNeg, Int.reduceAdd, Int.reduceSub, Int.reduceMul, Int.reduceLT, Int.reduceLE, Int.reduceGT, Int.reduceGE, Int.reduceEq, Int.reduceNe, Int.reduceToNat, Int.reduceTMod, Int.reduceTDiv, f5, ruleA, ruleC, List.length_map, ht, hle]
                refine ⟨by omega, ?_⟩
                have el := lent_rules (σ := x0 :: x1 :: .arr (g + 1) ⟨6, 33⟩ (List.map ruleD out ++ [DV.agg [DV.str r1.name, DV.str r1.pat, DV.int IntKind.i64 r1.lo, DV.int IntKind.i64 r1.hi, DV.int IntKind.i64 r1.cls, DV.int IntKind.i64 r1.wait]]) :: (B ++ [.box 33 [AV.d (DV.str r1.name), AV.d (DV.str r1.pat), AV.d (DV.int IntKind.i64 r1.lo), AV.d (DV.int IntKind.i64 r1.hi), AV.d (DV.int IntKind.i64 r1.cls), AV.d (DV.int IntKind.i64 r1.wait)]] ++ [.dead])) (b := 2) (g := g + 1) (n := out.length + 1) (l := out ++ [r1]) (by simp) (by rw [List.map_append]; rfl)
                refine PCall.lendAt (r := .d (.int .i64 (chkR peM (out ++ [r1])))) (by rw [el]; exact hck) (by rw [el]; rfl) rfl ?_
                by_cases hz : chkR peM (out ++ [r1]) = 0
                · rw [if_pos hz] at hp
                  simp (disch := omega) only [go_sem, reduceIte, reduceDIte, reduceCtorEq, Nat.reduceBEq, Nat.reduceEqDiff, Nat.reduceAdd, Nat.reduceSub, Nat.reduceMul, Nat.reduceLT, Nat.reduceLeDiff, Nat.reduceBNe, Int.reduceNeg, Int.reduceAdd, Int.reduceSub, Int.reduceMul, Int.reduceLT, Int.reduceLE, Int.reduceGT, Int.reduceGE, Int.reduceEq, Int.reduceNe, Int.reduceToNat, Int.reduceTMod, Int.reduceTDiv, hz, f18]
                  exact ih (j + 1) _ _ (by omega) ⟨by omega, by simp (disch := omega) only [go_sem, reduceIte, reduceDIte, reduceCtorEq, Nat.reduceBEq, Nat.reduceEqDiff, Nat.reduceAdd, Nat.reduceSub, Nat.reduceMul, Nat.reduceLT, Nat.reduceLeDiff, Nat.reduceBNe, Int.reduceNeg, Int.reduceAdd, Int.reduceSub, Int.reduceMul, Int.reduceLT, Int.reduceLE, Int.reduceGT, Int.reduceGE, Int.reduceEq, Int.reduceNe, Int.reduceToNat, Int.reduceTMod, Int.reduceTDiv, f16], by simp (disch := omega) only [go_sem, reduceIte, reduceDIte, reduceCtorEq, Nat.reduceBEq, Nat.reduceEqDiff, Nat.reduceAdd, Nat.reduceSub, Nat.reduceMul, Nat.reduceLT, Nat.reduceLeDiff, Nat.reduceBNe, Int.reduceNeg, Int.reduceAdd, Int.reduceSub, Int.reduceMul, Int.reduceLT, Int.reduceLE, Int.reduceGT, Int.reduceGE, Int.reduceEq, Int.reduceNe, Int.reduceToNat, Int.reduceTMod, Int.reduceTDiv, f17], by simp (disch := omega) only [go_sem, reduceIte, reduceDIte, reduceCtorEq, Nat.reduceBEq, Nat.reduceEqDiff, Nat.reduceAdd, Nat.reduceSub, Nat.reduceMul, Nat.reduceLT, Nat.reduceLeDiff, Nat.reduceBNe, Int.reduceNeg, Int.reduceAdd, Int.reduceSub, Int.reduceMul, Int.reduceLT, Int.reduceLE, Int.reduceGT, Int.reduceGE, Int.reduceEq, Int.reduceNe, Int.reduceToNat, Int.reduceTMod, Int.reduceTDiv], out ++ [r1], hso1, by simp; omega, .inr ⟨by simp, g + 1, x0, x1, _, by simp (disch := omega) only [go_sem, reduceIte, reduceDIte, reduceCtorEq, Nat.reduceBEq, Nat.reduceEqDiff, Nat.reduceAdd, Nat.reduceSub, Nat.reduceMul, Nat.reduceLT, Nat.reduceLeDiff, Nat.reduceBNe, Int.reduceNeg, Int.reduceAdd, Int.reduceSub, Int.reduceMul, Int.reduceLT, Int.reduceLE, Int.reduceGT, Int.reduceGE, Int.reduceEq, Int.reduceNe, Int.reduceToNat, Int.reduceTMod, Int.reduceTDiv, List.length_append], by rw [List.map_append]; rfl⟩, hp⟩
                · rw [if_neg hz] at hp
                  simp (disch := omega) only [go_sem, reduceIte, reduceDIte, reduceCtorEq, Nat.reduceBEq, Nat.reduceEqDiff, Nat.reduceAdd, Nat.reduceSub, Nat.reduceMul, Nat.reduceLT, Nat.reduceLeDiff, Nat.reduceBNe, Int.reduceNeg, Int.reduceAdd, Int.reduceSub, Int.reduceMul, Int.reduceLT, Int.reduceLE, Int.reduceGT, Int.reduceGE, Int.reduceEq, Int.reduceNe, Int.reduceToNat, Int.reduceTMod, Int.reduceTDiv, hz]
                  rw [hp]; rfl
    · have hjn : j = (linesOf s).length := by omega
      rw [List.drop_eq_nil_of_le (by omega), parseF] at hp
      have hlt' : ¬ (j : Int) < (linesOf s).length := by omega
      rcases hout with ⟨rfl, f5, rfl⟩ | ⟨hne, g, x0, x1, B, f5, rfl⟩
      · simp (disch := omega) only [go_sem, reduceIte, reduceDIte, reduceCtorEq, Nat.reduceBEq, Nat.reduceEqDiff, Nat.reduceAdd, Nat.reduceSub, Nat.reduceMul, Nat.reduceLT, Nat.reduceLeDiff, Nat.reduceBNe, Int.reduceNeg, Int.reduceAdd, Int.reduceSub, Int.reduceMul, Int.reduceLT, Int.reduceLE, Int.reduceGT, Int.reduceGE, Int.reduceEq, Int.reduceNe, Int.reduceToNat, Int.reduceTMod, Int.reduceTDiv, f17, f18, hlt', f5]
        rw [hp]; rfl
      · have ht : List.take out.length (out.map ruleD) = out.map ruleD := List.take_of_length_le (by simp)
        have hle : 0 + out.length ≤ out.length := by omega
        simp (disch := omega) only [go_sem, reduceIte, reduceDIte, reduceCtorEq, Nat.reduceBEq, Nat.reduceEqDiff, Nat.reduceAdd, Nat.reduceSub, Nat.reduceMul, Nat.reduceLT, Nat.reduceLeDiff, Nat.reduceBNe, Int.reduceNeg, Int.reduceAdd, Int.reduceSub, Int.reduceMul, Int.reduceLT, Int.reduceLE, Int.reduceGT, Int.reduceGE, Int.reduceEq, Int.reduceNe, Int.reduceToNat, Int.reduceTMod, Int.reduceTDiv, f17, f18, hlt', f5, List.length_map, ht, hle]
        rw [hp]
        match out, hne with
        | r :: l, _ => rfl
  · refine ⟨by omega, ?_, ?_, ?_, [], ?_, by simp, .inl ⟨rfl, ?_, rfl⟩, ?_⟩
    · simp (disch := omega) only [go_sem, reduceIte, reduceDIte, reduceCtorEq, Nat.reduceBEq, Nat.reduceEqDiff, Nat.reduceAdd, Nat.reduceSub, Nat.reduceMul, Nat.reduceLT, Nat.reduceLeDiff, Nat.reduceBNe, Int.reduceNeg, Int.reduceAdd, Int.reduceSub, Int.reduceMul, Int.reduceLT, Int.reduceLE, Int.reduceGT, Int.reduceGE, Int.reduceEq, Int.reduceNe, Int.reduceToNat, Int.reduceTMod, Int.reduceTDiv, strsD]
    · simp (disch := omega) only [go_sem, reduceIte, reduceDIte, reduceCtorEq, Nat.reduceBEq, Nat.reduceEqDiff, Nat.reduceAdd, Nat.reduceSub, Nat.reduceMul, Nat.reduceLT, Nat.reduceLeDiff, Nat.reduceBNe, Int.reduceNeg, Int.reduceAdd, Int.reduceSub, Int.reduceMul, Int.reduceLT, Int.reduceLE, Int.reduceGT, Int.reduceGE, Int.reduceEq, Int.reduceNe, Int.reduceToNat, Int.reduceTMod, Int.reduceTDiv]
    · simp (disch := omega) only [go_sem, reduceIte, reduceDIte, reduceCtorEq, Nat.reduceBEq, Nat.reduceEqDiff, Nat.reduceAdd, Nat.reduceSub, Nat.reduceMul, Nat.reduceLT, Nat.reduceLeDiff, Nat.reduceBNe, Int.reduceNeg, Int.reduceAdd, Int.reduceSub, Int.reduceMul, Int.reduceLT, Int.reduceLE, Int.reduceGT, Int.reduceGE, Int.reduceEq, Int.reduceNe, Int.reduceToNat, Int.reduceTMod, Int.reduceTDiv]
    · intro q hq; cases hq
    · simp (disch := omega) only [go_sem, reduceIte, reduceDIte, reduceCtorEq, Nat.reduceBEq, Nat.reduceEqDiff, Nat.reduceAdd, Nat.reduceSub, Nat.reduceMul, Nat.reduceLT, Nat.reduceLeDiff, Nat.reduceBNe, Int.reduceNeg, Int.reduceAdd, Int.reduceSub, Int.reduceMul, Int.reduceLT, Int.reduceLE, Int.reduceGT, Int.reduceGE, Int.reduceEq, Int.reduceNe, Int.reduceToNat, Int.reduceTMod, Int.reduceTDiv]
    · rfl
end Go.Proofs.YtjgbdlaecpkmhaaGreatDoor
set_option linter.unusedVariables false
set_option linter.unusedSimpArgs false
set_option maxRecDepth 100000
namespace Go.Proofs.YtjgbdlaecpkmhaaGreatDoor
open Go Nv Rul

/- The same rules. -/
def IsRules (v : AV) (l : List Rule) : Prop := v = .d (rulesD l) ∨ (l = [] ∧ v = .d .nilslice)
theorem listA_is (l : List Rule) : IsRules (listA l) l := by
  cases l
  · exact .inr ⟨rfl, rfl⟩
  · exact .inl rfl
theorem IsRules.pures {a b : AV} {l m : List Rule} (ha : IsRules a l) (hb : IsRules b m) : AV.pure.pures [a, b] = true := by
  rcases ha with rfl | ⟨_, rfl⟩ <;> rcases hb with rfl | ⟨_, rfl⟩ <;> simp only [go_sem, rulesD]
theorem same_step {l m : List Rule} {j : Nat} (hl : l.length = m.length) (hj : j < l.length) (h : l.take j = m.take j) (e : l.getD j default = m.getD j default) : l.take (j + 1) = m.take (j + 1) := by
  have e1 : l[j] = m[j] := by simpa [List.getD_eq_getElem?_getD, hj, (show j < m.length by omega)] using e
  rw [List.take_succ_eq_append_getElem hj, List.take_succ_eq_append_getElem (by omega), h, e1]
theorem rule_dec (r q : Rule) : (decide (r.name = q.name) && (decide (r.pat = q.pat) && (decide (r.lo = q.lo) && (decide (r.hi = q.hi) && (decide (r.cls = q.cls) && decide (r.wait = q.wait)))))) = decide (r = q) := by
  rcases r with ⟨a, b, c, d, e, f⟩
  rcases q with ⟨a', b', c', d', e', f'⟩
  simp only [Rule.mk.injEq, Bool.decide_and]
theorem same13 {a b : AV} {l m : List Rule} (ha : IsRules a l) (hb : IsRules b m) (hlen : l.length ≤ 1000000) : PCall Tryz.prog 13 [a, b] (.d (.bool (decide (l = m)))) := by
  refine fn13.pure noHint (Nat.le_refl _) (ha.pures hb) (by simp only [go_sem]) ?_
  have hla : ∀ σ, rLen Tryz.prog 23 a σ = .ok (.d (.int .i64 l.length)) σ := fun σ => by
    rcases ha with rfl | ⟨rfl, rfl⟩ <;> simp only [go_sem, rulesD, List.length_map] <;> rfl
  have hlb : ∀ σ, rLen Tryz.prog 23 b σ = .ok (.d (.int .i64 m.length)) σ := fun σ => by
    rcases hb with rfl | ⟨rfl, rfl⟩ <;> simp only [go_sem, rulesD, List.length_map] <;> rfl
  simp (disch := omega) only [go_sem, reduceIte, reduceDIte, reduceCtorEq, Nat.reduceBEq, Nat.reduceEqDiff, Nat.reduceAdd, Nat.reduceSub, Nat.reduceMul, Nat.reduceLT, Nat.reduceLeDiff, Nat.reduceBNe, Int.reduceNeg, Int.reduceAdd, Int.reduceSub, Int.reduceMul, Int.reduceLT, Int.reduceLE, Int.reduceGT, Int.reduceGE, Int.reduceEq, Int.reduceNe, Int.reduceToNat, Int.reduceTMod, Int.reduceTDiv, hla, hlb]
  by_cases hlm : l.length = m.length
  · simp (disch := omega) only [go_sem, reduceIte, reduceDIte, reduceCtorEq, Nat.reduceBEq, Nat.reduceEqDiff, Nat.reduceAdd, Nat.reduceSub, Nat.reduceMul, Nat.reduceLT, Nat.reduceLeDiff, Nat.reduceBNe, Int.reduceNeg, Int.reduceAdd, Int.reduceSub, Int.reduceMul, Int.reduceLT, Int.reduceLE, Int.reduceGT, Int.reduceGE, Int.reduceEq, Int.reduceNe, Int.reduceToNat, Int.reduceTMod, Int.reduceTDiv, hlm]
    refine wL_ind (fun (j : Nat) fr σ => j ≤ l.length ∧ fr 0 = a ∧ fr 1 = b ∧ fr 5 = .d (.int .i64 j) ∧ l.take j = m.take j) (fun j => l.length - j) ?_ 0 ?_
    · rintro j fr σ ⟨hj, f0, f1, f5, ht⟩ ih
      by_cases hlt : j < l.length
      · have hlt' : (j : Int) < l.length := by omega
        have hltm : (j : Int) < m.length := by omega
        have ea : a = .d (rulesD l) := by
          rcases ha with h | ⟨rfl, _⟩
          · exact h
          · simp at hlt
        have eb : b = .d (rulesD m) := by
          rcases hb with h | ⟨rfl, _⟩
          · exact h
          · simp at hlm; simp [hlm] at hlt
        have g1 := rule_get l j hlt
        have g2 := rule_get m j (by omega)
        simp (disch := omega) only [go_sem, reduceIte, reduceDIte, reduceCtorEq, Nat.reduceBEq, Nat.reduceEqDiff, Nat.reduceAdd, Nat.reduceSub, Nat.reduceMul, Nat.reduceLT, Nat.reduceLeDiff, Nat.reduceBNe, Int.reduceNeg, Int.reduceAdd, Int.reduceSub, Int.reduceMul, Int.reduceLT, Int.reduceLE, Int.reduceGT, Int.reduceGE, Int.reduceEq, Int.reduceNe, Int.reduceToNat, Int.reduceTMod, Int.reduceTDiv, f0, f1, f5, hla, hlt', hltm, ea, eb, rulesD, List.length_map, g1, g2, ruleD]
        rw [rule_dec]
        by_cases he : l.getD j default = m.getD j default
        · simp (disch := omega) only [go_sem, reduceIte, reduceDIte, reduceCtorEq, Nat.reduceBEq, Nat.reduceEqDiff, Nat.reduceAdd, Nat.reduceSub, Nat.reduceMul, Nat.reduceLT, Nat.reduceLeDiff, Nat.reduceBNe, Int.reduceNeg, Int.reduceAdd, Int.reduceSub, Int.reduceMul, Int.reduceLT, Int.reduceLE, Int.reduceGT, Int.reduceGE, Int.reduceEq, Int.reduceNe, Int.reduceToNat, Int.reduceTMod, Int.reduceTDiv, he, f5]
          refine ih (j + 1) _ _ (by omega) ⟨by omega, ?_, ?_, ?_, same_step hlm hlt ht he⟩
          · simp (disch := omega) only [go_sem, reduceIte, reduceDIte, reduceCtorEq, Nat.reduceBEq, Nat.reduceEqDiff, Nat.reduceAdd, Nat.reduceSub, Nat.reduceMul, Nat.reduceLT, Nat.reduceLeDiff, Nat.reduceBNe, Int.reduceNeg, Int.reduceAdd, Int.reduceSub, Int.reduceMul, Int.reduceLT, Int.reduceLE, Int.reduceGT, Int.reduceGE, Int.reduceEq, Int.reduceNe, Int.reduceToNat, Int.reduceTMod, Int.reduceTDiv, f0, ea]
          · simp (disch := omega) only [go_sem, reduceIte, reduceDIte, reduceCtorEq, Nat.reduceBEq, Nat.reduceEqDiff, Nat.reduceAdd, Nat.reduceSub, Nat.reduceMul, Nat.reduceLT, Nat.reduceLeDiff, Nat.reduceBNe, Int.reduceNeg, Int.reduceAdd, Int.reduceSub, Int.reduceMul, Int.reduceLT, Int.reduceLE, Int.reduceGT, Int.reduceGE, Int.reduceEq, Int.reduceNe, Int.reduceToNat, Int.reduceTMod, Int.reduceTDiv, f1, eb]
          · simp (disch := omega) only [go_sem, reduceIte, reduceDIte, reduceCtorEq, Nat.reduceBEq, Nat.reduceEqDiff, Nat.reduceAdd, Nat.reduceSub, Nat.reduceMul, Nat.reduceLT, Nat.reduceLeDiff, Nat.reduceBNe, Int.reduceNeg, Int.reduceAdd, Int.reduceSub, Int.reduceMul, Int.reduceLT, Int.reduceLE, Int.reduceGT, Int.reduceGE, Int.reduceEq, Int.reduceNe, Int.reduceToNat, Int.reduceTMod, Int.reduceTDiv]
        · have e : ¬ l = m := fun e => he (by rw [e])
          simp (disch := omega) only [go_sem, reduceIte, reduceDIte, reduceCtorEq, Nat.reduceBEq, Nat.reduceEqDiff, Nat.reduceAdd, Nat.reduceSub, Nat.reduceMul, Nat.reduceLT, Nat.reduceLeDiff, Nat.reduceBNe, Int.reduceNeg, Int.reduceAdd, Int.reduceSub, Int.reduceMul, Int.reduceLT, Int.reduceLE, Int.reduceGT, Int.reduceGE, Int.reduceEq, Int.reduceNe, Int.reduceToNat, Int.reduceTMod, Int.reduceTDiv, he, e]
      · have hlt' : ¬ (j : Int) < l.length := by omega
        have e : l = m := by
          rw [List.take_of_length_le (by omega), List.take_of_length_le (by omega)] at ht; exact ht
        have hltm : ¬ j < m.length := by omega
        simp (disch := omega) only [go_sem, reduceIte, reduceDIte, reduceCtorEq, Nat.reduceBEq, Nat.reduceEqDiff, Nat.reduceAdd, Nat.reduceSub, Nat.reduceMul, Nat.reduceLT, Nat.reduceLeDiff, Nat.reduceBNe, Int.reduceNeg, Int.reduceAdd, Int.reduceSub, Int.reduceMul, Int.reduceLT, Int.reduceLE, Int.reduceGT, Int.reduceGE, Int.reduceEq, Int.reduceNe, Int.reduceToNat, Int.reduceTMod, Int.reduceTDiv, f0, f1, f5, hla, hlt', hltm, e]
    · refine ⟨by omega, ?_, ?_, ?_, rfl⟩ <;> simp (disch := omega) only [go_sem, reduceIte, reduceDIte, reduceCtorEq, Nat.reduceBEq, Nat.reduceEqDiff, Nat.reduceAdd, Nat.reduceSub, Nat.reduceMul, Nat.reduceLT, Nat.reduceLeDiff, Nat.reduceBNe, Int.reduceNeg, Int.reduceAdd, Int.reduceSub, Int.reduceMul, Int.reduceLT, Int.reduceLE, Int.reduceGT, Int.reduceGE, Int.reduceEq, Int.reduceNe, Int.reduceToNat, Int.reduceTMod, Int.reduceTDiv]
  · have e : ¬ l = m := fun e => hlm (by rw [e])
    simp (disch := omega) only [go_sem, reduceIte, reduceDIte, reduceCtorEq, Nat.reduceBEq, Nat.reduceEqDiff, Nat.reduceAdd, Nat.reduceSub, Nat.reduceMul, Nat.reduceLT, Nat.reduceLeDiff, Nat.reduceBNe, Int.reduceNeg, Int.reduceAdd, Int.reduceSub, Int.reduceMul, Int.reduceLT, Int.reduceLE, Int.reduceGT, Int.reduceGE, Int.reduceEq, Int.reduceNe, Int.reduceToNat, Int.reduceTMod, Int.reduceTDiv, hlm, e]
end Go.Proofs.YtjgbdlaecpkmhaaGreatDoor
set_option linter.unusedVariables false
set_option linter.unusedSimpArgs false
set_option maxRecDepth 100000
namespace Go.Proofs.YtjgbdlaecpkmhaaGreatDoor
open Go Nv Rul

/- The chapter's examples. -/
def kText : List UInt8 := [97, 108, 97, 114, 109, 32, 117, 114, 103, 101, 110, 116, 32, 114, 111, 119, 115, 32, 49, 45, 50, 32, 34, 69, 82, 82, 79, 82, 46, 42, 34, 10, 108, 111, 103, 32, 108, 97, 116, 101, 114, 32, 119, 97, 105, 116, 32, 53, 48, 48, 32, 34, 46, 42, 34]
def kL : List Rule := [⟨[97, 108, 97, 114, 109], [69, 82, 82, 79, 82, 46, 42], 0, 2, 1, 0⟩, ⟨[108, 111, 103], [46, 42], 0, 60, 3, 500⟩]
theorem kparse : parseT peM kText = (kL, 0, 0) := by kernel_rfl
theorem awake9 : PCall Tryz.prog 9 [] (.d (.bool true)) := by
  refine fn9.pure (fun i => if i = 19 then .freeze else .no) (Nat.le_refl _) (by simp only [go_sem]) (by simp only [go_sem]) ?_
  simp (disch := omega) only [go_sem, reduceIte, reduceDIte, reduceCtorEq, Nat.reduceBEq, Nat.reduceEqDiff, Nat.reduceAdd, Nat.reduceSub, Nat.reduceMul, Nat.reduceLT, Nat.reduceLeDiff, Nat.reduceBNe, Int.reduceNeg, Int.reduceAdd, Int.reduceSub, Int.reduceMul, Int.reduceLT, Int.reduceLE, Int.reduceGT, Int.reduceGE, Int.reduceEq, Int.reduceNe, Int.reduceToNat, Int.reduceTMod, Int.reduceTDiv]
  refine (parse10 kText (by decide)).at ?_
  rw [kparse]
  simp (disch := omega) only [go_sem, reduceIte, reduceDIte, reduceCtorEq, Nat.reduceBEq, Nat.reduceEqDiff, Nat.reduceAdd, Nat.reduceSub, Nat.reduceMul, Nat.reduceLT, Nat.reduceLeDiff, Nat.reduceBNe, Int.reduceNeg, Int.reduceAdd, Int.reduceSub, Int.reduceMul, Int.reduceLT, Int.reduceLE, Int.reduceGT, Int.reduceGE, Int.reduceEq, Int.reduceNe, Int.reduceToNat, Int.reduceTMod, Int.reduceTDiv, parseA]
  have h := same13 (listA_is kL) (.inl rfl : IsRules (.d (rulesD kL)) kL) (by decide)
  refine PCall.at (r := .d (.bool true)) (by rw [decide_eq_true rfl] at h; exact h) ?_
  simp (disch := omega) only [go_sem, reduceIte, reduceDIte, reduceCtorEq, Nat.reduceBEq, Nat.reduceEqDiff, Nat.reduceAdd, Nat.reduceSub, Nat.reduceMul, Nat.reduceLT, Nat.reduceLeDiff, Nat.reduceBNe, Int.reduceNeg, Int.reduceAdd, Int.reduceSub, Int.reduceMul, Int.reduceLT, Int.reduceLE, Int.reduceGT, Int.reduceGE, Int.reduceEq, Int.reduceNe, Int.reduceToNat, Int.reduceTMod, Int.reduceTDiv]
end Go.Proofs.YtjgbdlaecpkmhaaGreatDoor
set_option linter.unusedVariables false
set_option linter.unusedSimpArgs false
set_option maxRecDepth 100000
namespace Go.Proofs.YtjgbdlaecpkmhaaGreatDoor
open Go Nv Rul

/- The laws on parsing. -/
theorem check_nil : PCall Tryz.prog 12 [.d .nilslice] (.d (.int .i64 (chkR peM []))) := by
  refine fn12.pure noHint (Nat.le_refl _) (by simp only [go_sem]) (by simp only [go_sem]) ?_
  rw [chk_nil]
  simp (disch := omega) only [go_sem, reduceIte, reduceDIte, reduceCtorEq, Nat.reduceBEq, Nat.reduceEqDiff, Nat.reduceAdd, Nat.reduceSub, Nat.reduceMul, Nat.reduceLT, Nat.reduceLeDiff, Nat.reduceBNe, Int.reduceNeg, Int.reduceAdd, Int.reduceSub, Int.reduceMul, Int.reduceLT, Int.reduceLE, Int.reduceGT, Int.reduceGE, Int.reduceEq, Int.reduceNe, Int.reduceToNat, Int.reduceTMod, Int.reduceTDiv]
  refine wL_ind (fun (j : Nat) fr σ => fr 12 = .d (.int .i64 0) ∧ fr 13 = .d (.int .i64 0)) (fun j => 0) ?_ 0 ?_
  · rintro j fr σ ⟨f12, f13⟩ ih
    simp (disch := omega) only [go_sem, reduceIte, reduceDIte, reduceCtorEq, Nat.reduceBEq, Nat.reduceEqDiff, Nat.reduceAdd, Nat.reduceSub, Nat.reduceMul, Nat.reduceLT, Nat.reduceLeDiff, Nat.reduceBNe, Int.reduceNeg, Int.reduceAdd, Int.reduceSub, Int.reduceMul, Int.reduceLT, Int.reduceLE, Int.reduceGT, Int.reduceGE, Int.reduceEq, Int.reduceNe, Int.reduceToNat, Int.reduceTMod, Int.reduceTDiv, f12, f13]
  · refine ⟨?_, ?_⟩ <;> simp (disch := omega) only [go_sem, reduceIte, reduceDIte, reduceCtorEq, Nat.reduceBEq, Nat.reduceEqDiff, Nat.reduceAdd, Nat.reduceSub, Nat.reduceMul, Nat.reduceLT, Nat.reduceLeDiff, Nat.reduceBNe, Int.reduceNeg, Int.reduceAdd, Int.reduceSub, Int.reduceMul, Int.reduceLT, Int.reduceLE, Int.reduceGT, Int.reduceGE, Int.reduceEq, Int.reduceNe, Int.reduceToNat, Int.reduceTMod, Int.reduceTDiv]
theorem checkA {a : AV} {l : List Rule} (h : IsRules a l) (hs : Sized l) : PCall Tryz.prog 12 [a] (.d (.int .i64 (chkR peM l))) := by
  rcases h with rfl | ⟨rfl, rfl⟩
  · exact check6 l hs
  · exact check_nil
theorem chkFrom_sized {pe : List UInt8 → Int} : ∀ (l : List Rule) (used : List (List UInt8)), chkFrom pe used l = 0 → ∀ r, r ∈ l → nameB r.name = true ∧ ruleE pe r = 0
  | [], _, _, r, hr => by cases hr
  | x :: l, used, h, r, hr => by
    unfold chkFrom at h
    split at h
    · cases h
    · rename_i h1
      split at h
      · cases h
      · split at h
        · rename_i h3
          rcases List.mem_cons.1 hr with rfl | hr
          · exact ⟨by simpa using h1, h3⟩
          · exact chkFrom_sized l _ h r hr
        · rename_i h3; exact absurd h h3
theorem rulesOf_sized : ∀ (ls : List (List UInt8)) (rs : List Rule) (N : Nat), rulesOf ls = some rs → (∀ x, x ∈ ls → x.length ≤ N) → ∀ r, r ∈ rs → r.name.length ≤ N ∧ r.pat.length ≤ N
  | [], rs, N, h, _, r, hr => by simp only [rulesOf, Option.some.injEq] at h; subst h; cases hr
  | s :: ls, rs, N, h, hl, r, hr => by
    rw [rulesOf] at h
    cases hk : lineK s with
    | skip => rw [hk] at h; exact rulesOf_sized ls rs N h (fun x hx => hl x (by simp [hx])) r hr
    | bad => rw [hk] at h; cases h
    | rule q =>
      rw [hk] at h
      simp only [Option.map_eq_some_iff] at h
      obtain ⟨t, ht, rfl⟩ := h
      rcases List.mem_cons.1 hr with rfl | hr
      · have hn := hl s (by simp)
        have hc := cut_len 34 s
        unfold lineK at hk
        split at hk
        · cases hk
        · split at hk
          · simp only [LK.rule.injEq] at hk
            subst hk
            exact line_sized (fun y hy => by have := wordsF_len _ _ y hy; simp only [List.length_nil, Nat.zero_add] at this; omega) (by omega)
          · cases hk
      · exact rulesOf_sized ls t N ht (fun x hx => hl x (by simp [hx])) r hr
theorem parse_sized {s : List UInt8} (hs : s.length ≤ 90000) : Sized (parseT peM s).1 := by
  by_cases h : (parseT peM s).2.2 = 0
  · obtain ⟨rs, h1, h2, h3⟩ := parse_ok chk_nil h
    rw [parseT, h3]
    intro r hr
    have := rulesOf_sized _ rs 90000 h1 (fun x hx => Nat.le_trans (lines_len s x hx) hs) r (by simpa using hr)
    omega
  · rw [((proper_ok s).2 h).1]; intro r hr; cases hr
theorem rlen_list (l : List Rule) (σ : Nv.ST) : rLen Tryz.prog 23 (listA l) σ = .ok (.d (.int .i64 l.length)) σ := by
  cases l with
  | nil => simp only [listA, go_sem, List.length_nil, Int.natCast_zero]
  | cons r l => simp only [listA, rulesD, go_sem, List.length_map]
theorem proper_law (s : List UInt8) (hs : s.length ≤ 9223372036854775807) : PCall Tryz.prog 3 [.d (.str s)] (.d (.bool true)) := by
  refine fn3.pure noHint (Nat.le_refl _) (by simp only [go_sem]) (by simp only [go_sem]) ?_
  by_cases hl : 600 < s.length
  · have hl' : (600 : Int) < s.length := by omega
    simp (disch := omega) only [go_sem, reduceIte, reduceDIte, reduceCtorEq, Nat.reduceBEq, Nat.reduceEqDiff, Nat.reduceAdd, Nat.reduceSub, Nat.reduceMul, Nat.reduceLT, Nat.reduceLeDiff, Nat.reduceBNe, Int.reduceNeg, Int.reduceAdd, Int.reduceSub, Int.reduceMul, Int.reduceLT, Int.reduceLE, Int.reduceGT, Int.reduceGE, Int.reduceEq, Int.reduceNe, Int.reduceToNat, Int.reduceTMod, Int.reduceTDiv, hl']
    refine awake9.at ?_
    simp (disch := omega) only [go_sem, reduceIte, reduceDIte, reduceCtorEq, Nat.reduceBEq, Nat.reduceEqDiff, Nat.reduceAdd, Nat.reduceSub, Nat.reduceMul, Nat.reduceLT, Nat.reduceLeDiff, Nat.reduceBNe, Int.reduceNeg, Int.reduceAdd, Int.reduceSub, Int.reduceMul, Int.reduceLT, Int.reduceLE, Int.reduceGT, Int.reduceGE, Int.reduceEq, Int.reduceNe, Int.reduceToNat, Int.reduceTMod, Int.reduceTDiv]
  · have hl' : ¬ (600 : Int) < s.length := by omega
    have hok := proper_ok (pe := peM) s
    have hsz := parse_sized (s := s) (by omega)
    have hcnt : s.count 10 ≤ s.length := List.count_le_length
    simp (disch := omega) only [go_sem, reduceIte, reduceDIte, reduceCtorEq, Nat.reduceBEq, Nat.reduceEqDiff, Nat.reduceAdd, Nat.reduceSub, Nat.reduceMul, Nat.reduceLT, Nat.reduceLeDiff, Nat.reduceBNe, Int.reduceNeg, Int.reduceAdd, Int.reduceSub, Int.reduceMul, Int.reduceLT, Int.reduceLE, Int.reduceGT, Int.reduceGE, Int.reduceEq, Int.reduceNe, Int.reduceToNat, Int.reduceTMod, Int.reduceTDiv, hl']
    refine (parse10 s (by omega)).at ?_
    rcases hx : parseT peM s with ⟨l, n, e⟩
    rw [hx] at hok hsz
    simp only at hok hsz
    by_cases he : e = 0
    · obtain ⟨hn, hc⟩ := hok.1 he
      subst he hn
      simp (disch := omega) only [go_sem, reduceIte, reduceDIte, reduceCtorEq, Nat.reduceBEq, Nat.reduceEqDiff, Nat.reduceAdd, Nat.reduceSub, Nat.reduceMul, Nat.reduceLT, Nat.reduceLeDiff, Nat.reduceBNe, Int.reduceNeg, Int.reduceAdd, Int.reduceSub, Int.reduceMul, Int.reduceLT, Int.reduceLE, Int.reduceGT, Int.reduceGE, Int.reduceEq, Int.reduceNe, Int.reduceToNat, Int.reduceTMod, Int.reduceTDiv, parseA]
      refine (checkA (listA_is l) hsz).at ?_
      simp (disch := omega) only [go_sem, reduceIte, reduceDIte, reduceCtorEq, Nat.reduceBEq, Nat.reduceEqDiff, Nat.reduceAdd, Nat.reduceSub, Nat.reduceMul, Nat.reduceLT, Nat.reduceLeDiff, Nat.reduceBNe, Int.reduceNeg, Int.reduceAdd, Int.reduceSub, Int.reduceMul, Int.reduceLT, Int.reduceLE, Int.reduceGT, Int.reduceGE, Int.reduceEq, Int.reduceNe, Int.reduceToNat, Int.reduceTMod, Int.reduceTDiv, hc]
      refine awake9.at ?_
      simp (disch := omega) only [go_sem, reduceIte, reduceDIte, reduceCtorEq, Nat.reduceBEq, Nat.reduceEqDiff, Nat.reduceAdd, Nat.reduceSub, Nat.reduceMul, Nat.reduceLT, Nat.reduceLeDiff, Nat.reduceBNe, Int.reduceNeg, Int.reduceAdd, Int.reduceSub, Int.reduceMul, Int.reduceLT, Int.reduceLE, Int.reduceGT, Int.reduceGE, Int.reduceEq, Int.reduceNe, Int.reduceToNat, Int.reduceTMod, Int.reduceTDiv]
    · obtain ⟨rfl, hn1, hn2⟩ := hok.2 he
      simp (disch := omega) only [go_sem, reduceIte, reduceDIte, reduceCtorEq, Nat.reduceBEq, Nat.reduceEqDiff, Nat.reduceAdd, Nat.reduceSub, Nat.reduceMul, Nat.reduceLT, Nat.reduceLeDiff, Nat.reduceBNe, Int.reduceNeg, Int.reduceAdd, Int.reduceSub, Int.reduceMul, Int.reduceLT, Int.reduceLE, Int.reduceGT, Int.reduceGE, Int.reduceEq, Int.reduceNe, Int.reduceToNat, Int.reduceTMod, Int.reduceTDiv, parseA, he, listA, hn1]
      refine (count11 s).at ?_
      have hn3 : n ≤ ((s.count 10 + 1 : Nat) : Int) := by omega
      simp (disch := omega) only [go_sem, reduceIte, reduceDIte, reduceCtorEq, Nat.reduceBEq, Nat.reduceEqDiff, Nat.reduceAdd, Nat.reduceSub, Nat.reduceMul, Nat.reduceLT, Nat.reduceLeDiff, Nat.reduceBNe, Int.reduceNeg, Int.reduceAdd, Int.reduceSub, Int.reduceMul, Int.reduceLT, Int.reduceLE, Int.reduceGT, Int.reduceGE, Int.reduceEq, Int.reduceNe, Int.reduceToNat, Int.reduceTMod, Int.reduceTDiv, hn3]
      refine awake9.at ?_
      simp (disch := omega) only [go_sem, reduceIte, reduceDIte, reduceCtorEq, Nat.reduceBEq, Nat.reduceEqDiff, Nat.reduceAdd, Nat.reduceSub, Nat.reduceMul, Nat.reduceLT, Nat.reduceLeDiff, Nat.reduceBNe, Int.reduceNeg, Int.reduceAdd, Int.reduceSub, Int.reduceMul, Int.reduceLT, Int.reduceLE, Int.reduceGT, Int.reduceGE, Int.reduceEq, Int.reduceNe, Int.reduceToNat, Int.reduceTMod, Int.reduceTDiv]
end Go.Proofs.YtjgbdlaecpkmhaaGreatDoor
