/- Part of a proof about the functions of this seat. -/
import Derived.Test.YtebejiilpedlmaaGreatDoorY31
set_option linter.unusedVariables false
set_option linter.unusedSimpArgs false
set_option maxRecDepth 100000
namespace Go.Proofs.YtebejiilpedlmaaGreatDoor
open Go Nv Pat

/-- A node as the laws build it: its set is nil. -/
def nodeN (k : Int) (l : List Tree) (a b : Int) : AV := .agg [.d (.int .i64 k), .d .nilslice, .d (.list 5 (l.map nodeD)), .d (.int .i64 a), .d (.int .i64 b)]
theorem wk_node (k : Int) (l : List Tree) (a b : Int) : WkA (nodeN k l a b) (nodeA (.mk k [] l a b)) := by
  refine .agg rfl fun i hi => ?_
  match i, hi with
  | 0, _ => exact .refl _
  | 1, _ => exact .nil 2
  | 2, _ => exact .refl _
  | 3, _ => exact .refl _
  | 4, _ => exact .refl _
  | i + 5, hi => simp at hi; omega
theorem wk_one {f : FuncId} {k : Int} {l : List Tree} {a b : Int} {r : AV} (h : PCall Tryz.prog f [nodeA (.mk k [] l a b)] r) : PCall Tryz.prog f [nodeN k l a b] r := by
  refine h.wk rfl fun i hi => ?_
  match i, hi with
  | 0, _ => exact wk_node k l a b
theorem wk_two {f : FuncId} {k : Int} {l : List Tree} {a b : Int} {x r : AV} (h : PCall Tryz.prog f [nodeA (.mk k [] l a b), x] r) : PCall Tryz.prog f [nodeN k l a b, x] r := by
  refine h.wk rfl fun i hi => ?_
  match i, hi with
  | 0, _ => exact wk_node k l a b
  | 1, _ => exact .refl _

theorem chkE_ok {n : Tree} (h : chkE n = 0) : n.nodes ≤ 120 ∧ chk n = 0 := by
  unfold chkE at h
  split at h
  · cases h
  · exact ⟨by omega, h⟩
theorem chkL_of {l : List Tree} (h : ∀ x, x ∈ l → chk x = 0) : chkL l = 0 := by
  induction l with
  | nil => rfl
  | cons x l ih => rw [chkL, if_pos (h x (by simp))]; exact ih fun y hy => h y (by simp [hy])
theorem nodesL_reverse (l : List Tree) : Tree.nodesL l.reverse = Tree.nodesL l := by
  induction l with
  | nil => rfl
  | cons x l ih => rw [List.reverse_cons, nodesL_append, ih]; simp only [Tree.nodesL]; omega
theorem thinL_all {l : List Tree} (h : ∀ x, x ∈ l → Thin x) : ThinL l := by
  induction l with
  | nil => trivial
  | cons x l ih => exact ⟨h x (by simp), ih fun y hy => h y (by simp [hy])⟩

def choice (l : List Tree) : Tree := .mk 4 [] l 0 0
theorem match_choice {l : List Tree} {s : List UInt8} (hc : chkE (choice l) = 0) (h : ∀ x, x ∈ l → chkE x = 0) : matchB (choice l) s = l.any fun x => matchB x s := by
  rw [Bool.eq_iff_iff, matchB_iff, List.any_eq_true]
  have e : ∀ w, Lang (choice l) w ↔ LangC l w := fun w => by simp [choice, Lang]
  rw [e, langC_iff]
  constructor
  · rintro ⟨_, x, hx, hl⟩; exact ⟨x, hx, (matchB_iff x s).2 ⟨h x hx, hl⟩⟩
  · rintro ⟨x, hx, hm⟩; exact ⟨hc, x, hx, ((matchB_iff x s).1 hm).2⟩
theorem choice_rev {l : List Tree} (hc : chkE (choice l) = 0) (h : ∀ x, x ∈ l → chkE x = 0) : chkE (choice l.reverse) = 0 := by
  obtain ⟨h1, h2⟩ := chkE_ok hc
  have hn : (choice l.reverse).nodes = (choice l).nodes := by rw [nodes_eq, nodes_eq]; simp only [choice, Tree.sub, nodesL_reverse]
  rw [chkE, if_neg (by omega)]
  obtain ⟨k1, k2, k3⟩ := chk_ok h2
  rw [choice, chk, if_pos k1, List.length_reverse, if_neg (by rw [k2]; simp)]
  exact chkL_of fun x hx => (chkE_ok (h x (List.mem_reverse.1 hx))).2

def hintsC : Nat → Hint := fun i => if i = 5 then .own ⟨5, 25⟩ else if i = 59 then .freeze else .no
@[go_sem] theorem hintsC_at (i : Nat) : hintsC i = if i = 5 then .own ⟨5, 25⟩ else if i = 59 then .freeze else .no := nrfl rfl

theorem law4 (aw : PCall Tryz.prog 11 [] (.d (.bool true))) (l : List Tree) (s : List UInt8) : PCall Tryz.prog 4 [.d (.list 5 (l.map nodeD)), .d (.str s)] (.d (.bool true)) := by
  refine fn4.pure hintsC (Nat.le_refl _) (by simp only [go_sem]) (by simp only [go_sem]) ?_
  simp (disch := omega) only [go_sem, reduceIte, reduceDIte, reduceCtorEq, Nat.reduceBEq, Nat.reduceEqDiff, Nat.reduceAdd, Nat.reduceSub, Nat.reduceMul, Nat.reduceLT, Nat.reduceLeDiff, Nat.reduceBNe, Int.reduceNeg, Int.reduceAdd, Int.reduceSub, Int.reduceMul, Int.reduceLT, Int.reduceLE, Int.reduceGT, Int.reduceGE, Int.reduceEq, Int.reduceNe, Int.reduceToNat, Int.reduceTMod, Int.reduceTDiv]
  by_cases h2 : (l.length : Int) < 2
  · simp (disch := omega) only [go_sem, reduceIte, reduceDIte, reduceCtorEq, Nat.reduceBEq, Nat.reduceEqDiff, Nat.reduceAdd, Nat.reduceSub, Nat.reduceMul, Nat.reduceLT, Nat.reduceLeDiff, Nat.reduceBNe, Int.reduceNeg, Int.reduceAdd, Int.reduceSub, Int.reduceMul, Int.reduceLT, Int.reduceLE, Int.reduceGT, Int.reduceGE, Int.reduceEq, Int.reduceNe, Int.reduceToNat, Int.reduceTMod, Int.reduceTDiv, h2]
    refine aw.at ?_
    simp (disch := omega) only [go_sem, reduceIte, reduceDIte, reduceCtorEq, Nat.reduceBEq, Nat.reduceEqDiff, Nat.reduceAdd, Nat.reduceSub, Nat.reduceMul, Nat.reduceLT, Nat.reduceLeDiff, Nat.reduceBNe, Int.reduceNeg, Int.reduceAdd, Int.reduceSub, Int.reduceMul, Int.reduceLT, Int.reduceLE, Int.reduceGT, Int.reduceGE, Int.reduceEq, Int.reduceNe, Int.reduceToNat, Int.reduceTMod, Int.reduceTDiv]
  by_cases h8 : (8 : Int) < l.length
  · simp (disch := omega) only [go_sem, reduceIte, reduceDIte, reduceCtorEq, Nat.reduceBEq, Nat.reduceEqDiff, Nat.reduceAdd, Nat.reduceSub, Nat.reduceMul, Nat.reduceLT, Nat.reduceLeDiff, Nat.reduceBNe, Int.reduceNeg, Int.reduceAdd, Int.reduceSub, Int.reduceMul, Int.reduceLT, Int.reduceLE, Int.reduceGT, Int.reduceGE, Int.reduceEq, Int.reduceNe, Int.reduceToNat, Int.reduceTMod, Int.reduceTDiv, h2, h8]
    refine aw.at ?_
    simp (disch := omega) only [go_sem, reduceIte, reduceDIte, reduceCtorEq, Nat.reduceBEq, Nat.reduceEqDiff, Nat.reduceAdd, Nat.reduceSub, Nat.reduceMul, Nat.reduceLT, Nat.reduceLeDiff, Nat.reduceBNe, Int.reduceNeg, Int.reduceAdd, Int.reduceSub, Int.reduceMul, Int.reduceLT, Int.reduceLE, Int.reduceGT, Int.reduceGE, Int.reduceEq, Int.reduceNe, Int.reduceToNat, Int.reduceTMod, Int.reduceTDiv]
  have hw0 : IntKind.i64.wrap ((l.length : Int) - 1) = (l.length : Int) - 1 := wrap_id (by omega) (by omega)
  simp (disch := omega) only [go_sem, reduceIte, reduceDIte, reduceCtorEq, Nat.reduceBEq, Nat.reduceEqDiff, Nat.reduceAdd, Nat.reduceSub, Nat.reduceMul, Nat.reduceLT, Nat.reduceLeDiff, Nat.reduceBNe, Int.reduceNeg, Int.reduceAdd, Int.reduceSub, Int.reduceMul, Int.reduceLT, Int.reduceLE, Int.reduceGT, Int.reduceGE, Int.reduceEq, Int.reduceNe, Int.reduceToNat, Int.reduceTMod, Int.reduceTDiv, h2, h8, hw0]
  refine wL_ind (fun (c : Nat) fr σ => c ≤ l.length ∧ fr 0 = .d (.list 5 (l.map nodeD)) ∧ fr 1 = .d (.str s) ∧ fr 7 = .d (.int .i64 ((l.length : Int) - 1 - c)) ∧ fr 6 = .d (.bool ((l.reverse.take c).any fun x => matchB x s)) ∧
    (∀ x, x ∈ l.reverse.take c → heavyB x s = false ∧ chkE x = 0) ∧ ∃ g n rest, n = c ∧ fr 5 = .own 0 g 0 n ∧ σ = .arr g ⟨5, 25⟩ ((l.reverse.take c).map nodeD) :: rest) (fun c => l.length - c) ?_ 0 ?_
  · rintro c fr σ ⟨hc, f0, f1, f7, f6, hall, g, n, rest, hn, f5, rfl⟩ ih
    by_cases hlt : c < l.length
    · obtain ⟨m, hm⟩ : ∃ m, m = l.length - 1 - c := ⟨_, rfl⟩
      have hml : m < l.length := by omega
      have f7' : fr 7 = .d (.int .i64 (m : Nat)) := by rw [f7]; congr 2; omega
      obtain ⟨x, hx⟩ : ∃ x, x = l.getD m default := ⟨_, rfl⟩
      have hxm : x ∈ l := by rw [hx]; exact getD_mem l m hml
      have et : l.reverse.take (c + 1) = l.reverse.take c ++ [x] := by
        have h1 : c < l.reverse.length := by simpa using hlt
        rw [List.take_succ_eq_append_getElem h1, hx, List.getElem_reverse, List.getD_eq_getElem?_getD, List.getElem?_eq_getElem hml]
        simp only [hm]; rfl
      have hnx : IntKind.i64.wrap ((m : Int) - 1) = (l.length : Int) - 1 - (c + 1 : Nat) := by rw [wrap_id (by omega) (by omega)]; omega
      simp (disch := omega) only [go_sem, reduceIte, reduceDIte, reduceCtorEq, Nat.reduceBEq, Nat.reduceEqDiff, Nat.reduceAdd, Nat.reduceSub, Nat.reduceMul, Nat.reduceLT, Nat.reduceLeDiff, Nat.reduceBNe, Int.reduceNeg, Int.reduceAdd, Int.reduceSub, Int.reduceMul, Int.reduceLT, Int.reduceLE, Int.reduceGT, Int.reduceGE, Int.reduceEq, Int.reduceNe, Int.reduceToNat, Int.reduceTMod, Int.reduceTDiv, f0, f1, f7', hml, nodeD_eq, nodeC, ← hx]
      refine (heavy16 x s).at ?_
      cases hv : heavyB x s
      · obtain ⟨l1, l2, l3⟩ := light hv
        simp (disch := omega) only [go_sem, reduceIte, reduceDIte, reduceCtorEq, Nat.reduceBEq, Nat.reduceEqDiff, Nat.reduceAdd, Nat.reduceSub, Nat.reduceMul, Nat.reduceLT, Nat.reduceLeDiff, Nat.reduceBNe, Int.reduceNeg, Int.reduceAdd, Int.reduceSub, Int.reduceMul, Int.reduceLT, Int.reduceLE, Int.reduceGT, Int.reduceGE, Int.reduceEq, Int.reduceNe, Int.reduceToNat, Int.reduceTMod, Int.reduceTDiv, f0, f7', hml, nodeD_eq, nodeC, ← hx]
        refine (check13 x (thin_of x l2)).at ?_
        by_cases h0 : chkE x = 0
        · have hall' : ∀ y, y ∈ l.reverse.take (c + 1) → heavyB y s = false ∧ chkE y = 0 := by
            intro y hy
            rw [et] at hy
            rcases List.mem_append.1 hy with hy | hy
            · exact hall y hy
            · rw [List.mem_singleton] at hy; subst hy; exact ⟨hv, h0⟩
          have hany : ((l.reverse.take (c + 1)).any fun x => matchB x s) = (((l.reverse.take c).any fun x => matchB x s) || matchB x s) := by rw [et, List.any_append]; simp
          have hb1 : (n + 1) * 72 ≤ 140737488355328 := by omega
          have hta := take_all ((l.reverse.take c).map nodeD) n (by simp [hn]; omega)
          have hlen : ((l.reverse.take c).map nodeD).length = n := by simp [hn]; omega
          have hlen2 : (l.reverse.take c).length = n := by simp [hn]; omega
          subst hn
          simp (disch := omega) only [go_sem, reduceIte, reduceDIte, reduceCtorEq, Nat.reduceBEq, Nat.reduceEqDiff, Nat.reduceAdd, Nat.reduceSub, Nat.reduceMul, Nat.reduceLT, Nat.reduceLeDiff, Nat.reduceBNe, Int.reduceNeg, Int.reduceAdd, Int.reduceSub, Int.reduceMul, Int.reduceLT, Int.reduceLE, Int.reduceGT, Int.reduceGE, Int.reduceEq, Int.reduceNe, Int.reduceToNat, Int.reduceTMod, Int.reduceTDiv, h0, f0, f5, f6, f7', hml, nodeD_eq, nodeC, ← hx, hb1, hta, hlen, hlen2, Nat.zero_add, Nat.le_refl]
          cases hw : ((l.reverse.take n).any fun x => matchB x s)
          · simp (disch := omega) only [go_sem, reduceIte, reduceDIte, reduceCtorEq, Nat.reduceBEq, Nat.reduceEqDiff, Nat.reduceAdd, Nat.reduceSub, Nat.reduceMul, Nat.reduceLT, Nat.reduceLeDiff, Nat.reduceBNe, Int.reduceNeg, Int.reduceAdd, Int.reduceSub, Int.reduceMul, Int.reduceLT, Int.reduceLE, Int.reduceGT, Int.reduceGE, Int.reduceEq, Int.reduceNe, Int.reduceToNat, Int.reduceTMod, Int.reduceTDiv, f0, f1, f7', hml, nodeD_eq, nodeC, ← hx]
            refine (match17 x (thin_of x l2) s (by omega)).at ?_
            simp (disch := omega) only [go_sem, reduceIte, reduceDIte, reduceCtorEq, Nat.reduceBEq, Nat.reduceEqDiff, Nat.reduceAdd, Nat.reduceSub, Nat.reduceMul, Nat.reduceLT, Nat.reduceLeDiff, Nat.reduceBNe, Int.reduceNeg, Int.reduceAdd, Int.reduceSub, Int.reduceMul, Int.reduceLT, Int.reduceLE, Int.reduceGT, Int.reduceGE, Int.reduceEq, Int.reduceNe, Int.reduceToNat, Int.reduceTMod, Int.reduceTDiv, f7', hnx]
            refine ih (n + 1) _ _ (by omega) ⟨by omega, ?_, ?_, ?_, ?_, hall', g + 1, n + 1, rest ++ [.arr 0 ⟨5, 25⟩ [nodeD x]], rfl, ?_, ?_⟩
            · simp (disch := omega) only [go_sem, reduceIte, reduceDIte, reduceCtorEq, Nat.reduceBEq, Nat.reduceEqDiff, Nat.reduceAdd, Nat.reduceSub, Nat.reduceMul, Nat.reduceLT, Nat.reduceLeDiff, Nat.reduceBNe, Int.reduceNeg, Int.reduceAdd, Int.reduceSub, Int.reduceMul, Int.reduceLT, Int.reduceLE, Int.reduceGT, Int.reduceGE, Int.reduceEq, Int.reduceNe, Int.reduceToNat, Int.reduceTMod, Int.reduceTDiv, f0]
            · simp (disch := omega) only [go_sem, reduceIte, reduceDIte, reduceCtorEq, Nat.reduceBEq, Nat.reduceEqDiff, Nat.reduceAdd, Nat.reduceSub, Nat.reduceMul, Nat.reduceLT, Nat.reduceLeDiff, Nat.reduceBNe, Int.reduceNeg, Int.reduceAdd, Int.reduceSub, Int.reduceMul, Int.reduceLT, Int.reduceLE, Int.reduceGT, Int.reduceGE, Int.reduceEq, Int.reduceNe, Int.reduceToNat, Int.reduceTMod, Int.reduceTDiv, f1]
            · simp (disch := omega) only [go_sem, reduceIte, reduceDIte, reduceCtorEq, Nat.reduceBEq, Nat.reduceEqDiff, Nat.reduceAdd, Nat.reduceSub, Nat.reduceMul, Nat.reduceLT, Nat.reduceLeDiff, Nat.reduceBNe, Int.reduceNeg, Int.reduceAdd, Int.reduceSub, Int.reduceMul, Int.reduceLT, Int.reduceLE, Int.reduceGT, Int.reduceGE, Int.reduceEq, Int.reduceNe, Int.reduceToNat, Int.reduceTMod, Int.reduceTDiv]
            · rw [hany, hw]; simp (disch := omega) only [go_sem, reduceIte, reduceDIte, reduceCtorEq, Nat.reduceBEq, Nat.reduceEqDiff, Nat.reduceAdd, Nat.reduceSub, Nat.reduceMul, Nat.reduceLT, Nat.reduceLeDiff, Nat.reduceBNe, Int.reduceNeg, Int.reduceAdd, Int.reduceSub, Int.reduceMul, Int.reduceLT, Int.reduceLE, Int.reduceGT, Int.reduceGE, Int.reduceEq, Int.reduceNe, Int.reduceToNat, Int.reduceTMod, Int.reduceTDiv]
            · simp (disch := omega) only [go_sem, reduceIte, reduceDIte, reduceCtorEq, Nat.reduceBEq, Nat.reduceEqDiff, Nat.reduceAdd, Nat.reduceSub, Nat.reduceMul, Nat.reduceLT, Nat.reduceLeDiff, Nat.reduceBNe, Int.reduceNeg, Int.reduceAdd, Int.reduceSub, Int.reduceMul, Int.reduceLT, Int.reduceLE, Int.reduceGT, Int.reduceGE, Int.reduceEq, Int.reduceNe, Int.reduceToNat, Int.reduceTMod, Int.reduceTDiv]
            · rw [et, List.map_append]; simp only [List.map_cons, List.map_nil, nodeD_eq, nodeC]
          · simp (disch := omega) only [go_sem, reduceIte, reduceDIte, reduceCtorEq, Nat.reduceBEq, Nat.reduceEqDiff, Nat.reduceAdd, Nat.reduceSub, Nat.reduceMul, Nat.reduceLT, Nat.reduceLeDiff, Nat.reduceBNe, Int.reduceNeg, Int.reduceAdd, Int.reduceSub, Int.reduceMul, Int.reduceLT, Int.reduceLE, Int.reduceGT, Int.reduceGE, Int.reduceEq, Int.reduceNe, Int.reduceToNat, Int.reduceTMod, Int.reduceTDiv, f7', hnx]
            refine ih (n + 1) _ _ (by omega) ⟨by omega, ?_, ?_, ?_, ?_, hall', g + 1, n + 1, rest ++ [.arr 0 ⟨5, 25⟩ [nodeD x]], rfl, ?_, ?_⟩
            · simp (disch := omega) only [go_sem, reduceIte, reduceDIte, reduceCtorEq, Nat.reduceBEq, Nat.reduceEqDiff, Nat.reduceAdd, Nat.reduceSub, Nat.reduceMul, Nat.reduceLT, Nat.reduceLeDiff, Nat.reduceBNe, Int.reduceNeg, Int.reduceAdd, Int.reduceSub, Int.reduceMul, Int.reduceLT, Int.reduceLE, Int.reduceGT, Int.reduceGE, Int.reduceEq, Int.reduceNe, Int.reduceToNat, Int.reduceTMod, Int.reduceTDiv, f0]
            · simp (disch := omega) only [go_sem, reduceIte, reduceDIte, reduceCtorEq, Nat.reduceBEq, Nat.reduceEqDiff, Nat.reduceAdd, Nat.reduceSub, Nat.reduceMul, Nat.reduceLT, Nat.reduceLeDiff, Nat.reduceBNe, Int.reduceNeg, Int.reduceAdd, Int.reduceSub, Int.reduceMul, Int.reduceLT, Int.reduceLE, Int.reduceGT, Int.reduceGE, Int.reduceEq, Int.reduceNe, Int.reduceToNat, Int.reduceTMod, Int.reduceTDiv, f1]
            · simp (disch := omega) only [go_sem, reduceIte, reduceDIte, reduceCtorEq, Nat.reduceBEq, Nat.reduceEqDiff, Nat.reduceAdd, Nat.reduceSub, Nat.reduceMul, Nat.reduceLT, Nat.reduceLeDiff, Nat.reduceBNe, Int.reduceNeg, Int.reduceAdd, Int.reduceSub, Int.reduceMul, Int.reduceLT, Int.reduceLE, Int.reduceGT, Int.reduceGE, Int.reduceEq, Int.reduceNe, Int.reduceToNat, Int.reduceTMod, Int.reduceTDiv]
            · rw [hany, hw]; simp (disch := omega) only [go_sem, reduceIte, reduceDIte, reduceCtorEq, Nat.reduceBEq, Nat.reduceEqDiff, Nat.reduceAdd, Nat.reduceSub, Nat.reduceMul, Nat.reduceLT, Nat.reduceLeDiff, Nat.reduceBNe, Int.reduceNeg, Int.reduceAdd, Int.reduceSub, Int.reduceMul, Int.reduceLT, Int.reduceLE, Int.reduceGT, Int.reduceGE, Int.reduceEq, Int.reduceNe, Int.reduceToNat, Int.reduceTMod, Int.reduceTDiv]
            · simp (disch := omega) only [go_sem, reduceIte, reduceDIte, reduceCtorEq, Nat.reduceBEq, Nat.reduceEqDiff, Nat.reduceAdd, Nat.reduceSub, Nat.reduceMul, Nat.reduceLT, Nat.reduceLeDiff, Nat.reduceBNe, Int.reduceNeg, Int.reduceAdd, Int.reduceSub, Int.reduceMul, Int.reduceLT, Int.reduceLE, Int.reduceGT, Int.reduceGE, Int.reduceEq, Int.reduceNe, Int.reduceToNat, Int.reduceTMod, Int.reduceTDiv]
            · rw [et, List.map_append]; simp only [List.map_cons, List.map_nil, nodeD_eq, nodeC]
        · simp (disch := omega) only [go_sem, reduceIte, reduceDIte, reduceCtorEq, Nat.reduceBEq, Nat.reduceEqDiff, Nat.reduceAdd, Nat.reduceSub, Nat.reduceMul, Nat.reduceLT, Nat.reduceLeDiff, Nat.reduceBNe, Int.reduceNeg, Int.reduceAdd, Int.reduceSub, Int.reduceMul, Int.reduceLT, Int.reduceLE, Int.reduceGT, Int.reduceGE, Int.reduceEq, Int.reduceNe, Int.reduceToNat, Int.reduceTMod, Int.reduceTDiv, h0]
          refine aw.at ?_
          simp (disch := omega) only [go_sem, reduceIte, reduceDIte, reduceCtorEq, Nat.reduceBEq, Nat.reduceEqDiff, Nat.reduceAdd, Nat.reduceSub, Nat.reduceMul, Nat.reduceLT, Nat.reduceLeDiff, Nat.reduceBNe, Int.reduceNeg, Int.reduceAdd, Int.reduceSub, Int.reduceMul, Int.reduceLT, Int.reduceLE, Int.reduceGT, Int.reduceGE, Int.reduceEq, Int.reduceNe, Int.reduceToNat, Int.reduceTMod, Int.reduceTDiv]
      · simp (disch := omega) only [go_sem, reduceIte, reduceDIte, reduceCtorEq, Nat.reduceBEq, Nat.reduceEqDiff, Nat.reduceAdd, Nat.reduceSub, Nat.reduceMul, Nat.reduceLT, Nat.reduceLeDiff, Nat.reduceBNe, Int.reduceNeg, Int.reduceAdd, Int.reduceSub, Int.reduceMul, Int.reduceLT, Int.reduceLE, Int.reduceGT, Int.reduceGE, Int.reduceEq, Int.reduceNe, Int.reduceToNat, Int.reduceTMod, Int.reduceTDiv]
        refine aw.at ?_
        simp (disch := omega) only [go_sem, reduceIte, reduceDIte, reduceCtorEq, Nat.reduceBEq, Nat.reduceEqDiff, Nat.reduceAdd, Nat.reduceSub, Nat.reduceMul, Nat.reduceLT, Nat.reduceLeDiff, Nat.reduceBNe, Int.reduceNeg, Int.reduceAdd, Int.reduceSub, Int.reduceMul, Int.reduceLT, Int.reduceLE, Int.reduceGT, Int.reduceGE, Int.reduceEq, Int.reduceNe, Int.reduceToNat, Int.reduceTMod, Int.reduceTDiv]
    · have ek : l.reverse.take c = l.reverse := List.take_of_length_le (by simp; omega)
      have hcl : c = l.length := by omega
      rw [ek] at hall f6
      rw [ek]
      subst hn
      have f7' : fr 7 = .d (.int .i64 (-1)) := by rw [f7]; congr 2; omega
      have hallM : ∀ x, x ∈ l → heavyB x s = false ∧ chkE x = 0 := fun x hx => hall x (List.mem_reverse.2 hx)
      have hne : ∃ x, x ∈ l := by
        cases l with
        | nil => simp at h2
        | cons x l => exact ⟨x, by simp⟩
      have hsl : s.length ≤ 40 := by obtain ⟨x, hx⟩ := hne; exact (light (hallM x hx).1).2.2
      have hthL : ThinL l := thinL_all fun x hx => thin_of x (light (hallM x hx).1).2.1
      have hthR : ThinL l.reverse := thinL_all fun x hx => thin_of x (light (hallM x (List.mem_reverse.1 hx)).1).2.1
      have hlr : (l.reverse.map nodeD).length = n := by simp [hcl]
      have hta := take_all (l.reverse.map nodeD) n hlr
      have hc1 := wk_one (check13 (choice l) ⟨by simp, hthL⟩)
      simp (disch := omega) only [go_sem, reduceIte, reduceDIte, reduceCtorEq, Nat.reduceBEq, Nat.reduceEqDiff, Nat.reduceAdd, Nat.reduceSub, Nat.reduceMul, Nat.reduceLT, Nat.reduceLeDiff, Nat.reduceBNe, Int.reduceNeg, Int.reduceAdd, Int.reduceSub, Int.reduceMul, Int.reduceLT, Int.reduceLE, Int.reduceGT, Int.reduceGE, Int.reduceEq, Int.reduceNe, Int.reduceToNat, Int.reduceTMod, Int.reduceTDiv, f0, f5, f7', hlr, hta, Nat.zero_add, Nat.le_refl, List.append_assoc, List.cons_append, List.nil_append, List.length_append, stGet_app, stGet_app0, stSet_app, stSet_app0]
      refine hc1.at ?_
      by_cases h0 : chkE (choice l) = 0
      · have hm1 := wk_two (match17 (choice l) ⟨by simp, hthL⟩ s (by omega))
        have hm2 := wk_two (match17 (choice l.reverse) ⟨by simp, hthR⟩ s (by omega))
        rw [match_choice h0 fun x hx => (hallM x hx).2] at hm1
        rw [match_choice (choice_rev h0 fun x hx => (hallM x hx).2) fun x hx => (hallM x (List.mem_reverse.1 hx)).2, List.any_reverse] at hm2
        rw [List.any_reverse] at f6
        simp (disch := omega) only [go_sem, reduceIte, reduceDIte, reduceCtorEq, Nat.reduceBEq, Nat.reduceEqDiff, Nat.reduceAdd, Nat.reduceSub, Nat.reduceMul, Nat.reduceLT, Nat.reduceLeDiff, Nat.reduceBNe, Int.reduceNeg, Int.reduceAdd, Int.reduceSub, Int.reduceMul, Int.reduceLT, Int.reduceLE, Int.reduceGT, Int.reduceGE, Int.reduceEq, Int.reduceNe, Int.reduceToNat, Int.reduceTMod, Int.reduceTDiv, h0, f1, List.append_assoc, List.cons_append, List.nil_append, List.length_append, stGet_app, stGet_app0, stSet_app, stSet_app0]
        refine hm1.at ?_
        simp (disch := omega) only [go_sem, reduceIte, reduceDIte, reduceCtorEq, Nat.reduceBEq, Nat.reduceEqDiff, Nat.reduceAdd, Nat.reduceSub, Nat.reduceMul, Nat.reduceLT, Nat.reduceLeDiff, Nat.reduceBNe, Int.reduceNeg, Int.reduceAdd, Int.reduceSub, Int.reduceMul, Int.reduceLT, Int.reduceLE, Int.reduceGT, Int.reduceGE, Int.reduceEq, Int.reduceNe, Int.reduceToNat, Int.reduceTMod, Int.reduceTDiv, f1, f6, beq_self_eq_true, List.append_assoc, List.cons_append, List.nil_append, List.length_append, stGet_app, stGet_app0, stSet_app, stSet_app0]
        refine hm2.at ?_
        simp (disch := omega) only [go_sem, reduceIte, reduceDIte, reduceCtorEq, Nat.reduceBEq, Nat.reduceEqDiff, Nat.reduceAdd, Nat.reduceSub, Nat.reduceMul, Nat.reduceLT, Nat.reduceLeDiff, Nat.reduceBNe, Int.reduceNeg, Int.reduceAdd, Int.reduceSub, Int.reduceMul, Int.reduceLT, Int.reduceLE, Int.reduceGT, Int.reduceGE, Int.reduceEq, Int.reduceNe, Int.reduceToNat, Int.reduceTMod, Int.reduceTDiv, f6, beq_self_eq_true]
        refine aw.at ?_
        simp (disch := omega) only [go_sem, reduceIte, reduceDIte, reduceCtorEq, Nat.reduceBEq, Nat.reduceEqDiff, Nat.reduceAdd, Nat.reduceSub, Nat.reduceMul, Nat.reduceLT, Nat.reduceLeDiff, Nat.reduceBNe, Int.reduceNeg, Int.reduceAdd, Int.reduceSub, Int.reduceMul, Int.reduceLT, Int.reduceLE, Int.reduceGT, Int.reduceGE, Int.reduceEq, Int.reduceNe, Int.reduceToNat, Int.reduceTMod, Int.reduceTDiv]
      · simp (disch := omega) only [go_sem, reduceIte, reduceDIte, reduceCtorEq, Nat.reduceBEq, Nat.reduceEqDiff, Nat.reduceAdd, Nat.reduceSub, Nat.reduceMul, Nat.reduceLT, Nat.reduceLeDiff, Nat.reduceBNe, Int.reduceNeg, Int.reduceAdd, Int.reduceSub, Int.reduceMul, Int.reduceLT, Int.reduceLE, Int.reduceGT, Int.reduceGE, Int.reduceEq, Int.reduceNe, Int.reduceToNat, Int.reduceTMod, Int.reduceTDiv, h0]
        refine aw.at ?_
        simp (disch := omega) only [go_sem, reduceIte, reduceDIte, reduceCtorEq, Nat.reduceBEq, Nat.reduceEqDiff, Nat.reduceAdd, Nat.reduceSub, Nat.reduceMul, Nat.reduceLT, Nat.reduceLeDiff, Nat.reduceBNe, Int.reduceNeg, Int.reduceAdd, Int.reduceSub, Int.reduceMul, Int.reduceLT, Int.reduceLE, Int.reduceGT, Int.reduceGE, Int.reduceEq, Int.reduceNe, Int.reduceToNat, Int.reduceTMod, Int.reduceTDiv]
  · refine ⟨by omega, ?_, ?_, ?_, ?_, by simp, 0, 0, [], rfl, ?_, ?_⟩
    · simp (disch := omega) only [go_sem, reduceIte, reduceDIte, reduceCtorEq, Nat.reduceBEq, Nat.reduceEqDiff, Nat.reduceAdd, Nat.reduceSub, Nat.reduceMul, Nat.reduceLT, Nat.reduceLeDiff, Nat.reduceBNe, Int.reduceNeg, Int.reduceAdd, Int.reduceSub, Int.reduceMul, Int.reduceLT, Int.reduceLE, Int.reduceGT, Int.reduceGE, Int.reduceEq, Int.reduceNe, Int.reduceToNat, Int.reduceTMod, Int.reduceTDiv]
    · simp (disch := omega) only [go_sem, reduceIte, reduceDIte, reduceCtorEq, Nat.reduceBEq, Nat.reduceEqDiff, Nat.reduceAdd, Nat.reduceSub, Nat.reduceMul, Nat.reduceLT, Nat.reduceLeDiff, Nat.reduceBNe, Int.reduceNeg, Int.reduceAdd, Int.reduceSub, Int.reduceMul, Int.reduceLT, Int.reduceLE, Int.reduceGT, Int.reduceGE, Int.reduceEq, Int.reduceNe, Int.reduceToNat, Int.reduceTMod, Int.reduceTDiv]
    · simp (disch := omega) only [go_sem, reduceIte, reduceDIte, reduceCtorEq, Nat.reduceBEq, Nat.reduceEqDiff, Nat.reduceAdd, Nat.reduceSub, Nat.reduceMul, Nat.reduceLT, Nat.reduceLeDiff, Nat.reduceBNe, Int.reduceNeg, Int.reduceAdd, Int.reduceSub, Int.reduceMul, Int.reduceLT, Int.reduceLE, Int.reduceGT, Int.reduceGE, Int.reduceEq, Int.reduceNe, Int.reduceToNat, Int.reduceTMod, Int.reduceTDiv]; simp
    · simp (disch := omega) only [go_sem, reduceIte, reduceDIte, reduceCtorEq, Nat.reduceBEq, Nat.reduceEqDiff, Nat.reduceAdd, Nat.reduceSub, Nat.reduceMul, Nat.reduceLT, Nat.reduceLeDiff, Nat.reduceBNe, Int.reduceNeg, Int.reduceAdd, Int.reduceSub, Int.reduceMul, Int.reduceLT, Int.reduceLE, Int.reduceGT, Int.reduceGE, Int.reduceEq, Int.reduceNe, Int.reduceToNat, Int.reduceTMod, Int.reduceTDiv]; rfl
    · simp (disch := omega) only [go_sem, reduceIte, reduceDIte, reduceCtorEq, Nat.reduceBEq, Nat.reduceEqDiff, Nat.reduceAdd, Nat.reduceSub, Nat.reduceMul, Nat.reduceLT, Nat.reduceLeDiff, Nat.reduceBNe, Int.reduceNeg, Int.reduceAdd, Int.reduceSub, Int.reduceMul, Int.reduceLT, Int.reduceLE, Int.reduceGT, Int.reduceGE, Int.reduceEq, Int.reduceNe, Int.reduceToNat, Int.reduceTMod, Int.reduceTDiv]
    · rfl
end Go.Proofs.YtebejiilpedlmaaGreatDoor
