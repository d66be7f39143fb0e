/- Part of a proof about the functions of this seat. -/
import Derived.Test.YtjgbdlaecpkmhaaGreatDoorG21Pc34
import Derived.Test.YtjgbdlaecpkmhaaGreatDoorG12NvY
import Derived.WalkKit
import Derived.ProofKit
import Derived.OpenShut
import Derived.Carry
import Derived.Deep.Slices
import Derived.HandedShaped
import Derived.ChangeMaps5
import Derived.Shelf.LaysM
import Derived.Lib.LaidU8T
import Derived.MakeChecks
import Derived.KernelRfl
import Derived.Test.YtjgbdlaecpkmhaaGreatDoorProg
import Derived.Test.YtjgbdlaecpkmhaaGreatDoorRows
import Derived.Shelf.Unicode.ValidAny
import Derived.Test.YtjgbdlaecpkmhaaGreatDoorG11Base34
import Derived.Test.YtjgbdlaecpkmhaaGreatDoorG20Pa34
set_option linter.unusedVariables false
set_option linter.unusedSimpArgs false
set_option maxRecDepth 100000
namespace Go.Proofs.YtjgbdlaecpkmhaaGreatDoor
open Go Nv Pat

def hintC2 : Nat → Hint := fun i => if i = 20 then .freeze else .no
@[go_sem] theorem hintC2_at (i : Nat) : hintC2 i = if i = 20 then .freeze else .no := nrfl rfl

theorem choice28 (f : Nat) (ih : CH f) (l r : List Int) (hl : l.length ≤ 10000) (hc : Chars l) (hf : r.length ≤ f) : PS 65 [] l r ((choiceP sortR (chP sortR f) r).map fun x => (nodeA x.1, x.2)) := by
  refine PS.ofW fn65 hintC2 (Nat.le_refl _) fun A B u e => ?_
  have hl' : l.length ≤ 1000000 := by omega
  have hul : u.length + r.length = l.length := by rw [e, List.length_append]
  obtain ⟨tot, htot⟩ : ∃ tot, tot = choiceL sortR (chP sortR f) (r.length + 1) r := ⟨_, rfl⟩
  have hj : choiceP sortR (chP sortR f) r = tot.map fun y => (mkChoice y.1, y.2) := by rw [choiceP, htot]
  rw [hj]
  clear hj
  rw [choiceL] at htot
  simp (disch := omega) only [go_sem, reduceIte, reduceDIte, reduceCtorEq, Nat.reduceBEq, Nat.reduceEqDiff, Nat.reduceAdd, Nat.reduceSub, Nat.reduceMul, Nat.reduceLT, Nat.reduceLeDiff, Nat.reduceBNe, Int.reduceNeg, Int.reduceAdd, Int.reduceSub, Int.reduceMul, Int.reduceLT, Int.reduceLE, Int.reduceGT, Int.reduceGE, Int.reduceEq, Int.reduceNe, Int.reduceToNat, Int.reduceTMod, Int.reduceTDiv, boxP, List.append_assoc, List.cons_append, List.nil_append, List.length_append, stGet_app, stGet_app0, stSet_app, stSet_app0]
  refine (join44 f ih l r hl hc hf).at A _ u e ?_ ?_
  · intro v r1 u1 τ1 ho e1
    cases hjn : joinP sortR (chP sortR f) r with
    | none => rw [hjn] at ho; cases ho
    | some y =>
      obtain ⟨x, r1'⟩ := y
      rw [hjn] at ho htot
      simp only [Option.map_some, Option.some.injEq, Prod.mk.injEq] at ho
      obtain ⟨rfl, rfl⟩ := ho
      simp only at htot
      have hle := joinP_le sortR (chP_le sortR f) hjn
      have hna : nodeA x = .agg [.d (.int .i64 x.kind), .d (setD x.set), .d (.list 5 (x.sub.map nodeD)), .d (.int .i64 x.min), .d (.int .i64 x.max)] := rfl
      simp (disch := omega) only [go_sem, reduceIte, reduceDIte, reduceCtorEq, Nat.reduceBEq, Nat.reduceEqDiff, Nat.reduceAdd, Nat.reduceSub, Nat.reduceMul, Nat.reduceLT, Nat.reduceLeDiff, Nat.reduceBNe, Int.reduceNeg, Int.reduceAdd, Int.reduceSub, Int.reduceMul, Int.reduceLT, Int.reduceLE, Int.reduceGT, Int.reduceGE, Int.reduceEq, Int.reduceNe, Int.reduceToNat, Int.reduceTMod, Int.reduceTDiv, hna, List.append_assoc, List.cons_append, List.nil_append, List.length_append, stGet_app, stGet_app0, stSet_app, stSet_app0]
      refine wL_ind (fun (r' : List Int) fr σ => fr 0 = .ptr (List.length A) 0 ∧ fr 2 = .ptr (List.length A + (List.length B + 1)) 0 ∧ ∃ (acc : List Tree) (f' g n : Nat) (u' : List Int) (rest : Nv.ST), n = acc.length ∧ 1 ≤ n ∧ acc.length + r'.length ≤ r.length + 1 ∧ l = u' ++ r' ∧
        r'.length < f' + 1 ∧ (if r'.headD (-1) = 124 then (choiceL sortR (chP sortR f) f' r'.tail).map (fun y => (acc ++ y.1, y.2)) else some (acc, r')) = tot ∧ fr 3 = .own (List.length A + (List.length B + (List.length τ1 + 1) + 1)) g 0 n ∧
          σ = A ++ boxP l u'.length :: (B ++ .box 78 [.d (.int .i64 0), .d .nilslice, .d .nilslice, .d (.int .i64 0), .d (.int .i64 0)] :: (τ1 ++ .arr g ⟨5, 78⟩ (acc.map nodeD) :: rest))) (fun r' => r'.length) ?_ r1' ?_
      · rintro r' fr σ ⟨f0, f2, acc, f', g, n, u', rest, hn, hn1, hal, e', hf', ht, f3, rfl⟩ ihl
        have hom : (acc.map nodeD).length = n := by simp [hn]
        have hta := take_all (acc.map nodeD) n hom
        by_cases hs : r'.headD (-1) = 124
        · rw [if_pos hs] at ht
          have htl : r'.tail.length + 1 = r'.length := by
            cases r' with
            | nil => simp at hs
            | cons => simp
          obtain ⟨f', rfl⟩ : ∃ f2, f' = f2 + 1 := ⟨f' - 1, by omega⟩
          rw [choiceL] at ht
          obtain ⟨u2, e2, hsk⟩ := skip_yes l u' r' e' hl' 124 (by omega) hs
          simp (disch := omega) only [go_sem, reduceIte, reduceDIte, reduceCtorEq, Nat.reduceBEq, Nat.reduceEqDiff, Nat.reduceAdd, Nat.reduceSub, Nat.reduceMul, Nat.reduceLT, Nat.reduceLeDiff, Nat.reduceBNe, Int.reduceNeg, Int.reduceAdd, Int.reduceSub, Int.reduceMul, Int.reduceLT, Int.reduceLE, Int.reduceGT, Int.reduceGE, Int.reduceEq, Int.reduceNe, Int.reduceToNat, Int.reduceTMod, Int.reduceTDiv, f0]
          refine (hsk A _).at ?_
          simp (disch := omega) only [go_sem, reduceIte, reduceDIte, reduceCtorEq, Nat.reduceBEq, Nat.reduceEqDiff, Nat.reduceAdd, Nat.reduceSub, Nat.reduceMul, Nat.reduceLT, Nat.reduceLeDiff, Nat.reduceBNe, Int.reduceNeg, Int.reduceAdd, Int.reduceSub, Int.reduceMul, Int.reduceLT, Int.reduceLE, Int.reduceGT, Int.reduceGE, Int.reduceEq, Int.reduceNe, Int.reduceToNat, Int.reduceTMod, Int.reduceTDiv, f0, f3, List.append_assoc, List.cons_append, List.nil_append, List.length_append, stGet_app, stGet_app0, stSet_app, stSet_app0]
          refine (join44 f ih l r'.tail hl hc (by omega)).at A _ u2 e2 ?_ ?_
          · intro v r3 u3 τ3 ho e3
            cases hj2 : joinP sortR (chP sortR f) r'.tail with
            | none => rw [hj2] at ho; cases ho
            | some y =>
              obtain ⟨z, r3'⟩ := y
              rw [hj2] at ho ht
              simp only [Option.map_some, Option.some.injEq, Prod.mk.injEq] at ho
              obtain ⟨rfl, rfl⟩ := ho
              have hlt := joinP_le sortR (chP_le sortR f) hj2
              have hb1 : (n + 1) * 72 ≤ 140737488355328 := by omega
              have hnz : nodeA z = .agg [.d (.int .i64 z.kind), .d (setD z.set), .d (.list 5 (z.sub.map nodeD)), .d (.int .i64 z.min), .d (.int .i64 z.max)] := rfl
              simp (disch := omega) only [go_sem, reduceIte, reduceDIte, reduceCtorEq, Nat.reduceBEq, Nat.reduceEqDiff, Nat.reduceAdd, Nat.reduceSub, Nat.reduceMul, Nat.reduceLT, Nat.reduceLeDiff, Nat.reduceBNe, Int.reduceNeg, Int.reduceAdd, Int.reduceSub, Int.reduceMul, Int.reduceLT, Int.reduceLE, Int.reduceGT, Int.reduceGE, Int.reduceEq, Int.reduceNe, Int.reduceToNat, Int.reduceTMod, Int.reduceTDiv, hnz, hom, hta, hb1, Nat.zero_add, Nat.le_refl, boxP, List.append_assoc, List.cons_append, List.nil_append, List.length_append, stGet_app, stGet_app0, stSet_app, stSet_app0]
              refine ihl r3' _ _ (by omega) ⟨?_, ?_, acc ++ [z], f', g + 1, n + 1, u3, rest ++ (τ3 ++ [.arr 0 ⟨5, 78⟩ [nodeD z]]), by rw [List.length_append, hn]; rfl, by omega, by rw [List.length_append, List.length_singleton]; omega, e3, by omega, ?_, ?_, ?_⟩
              rotate_right 1
              · rw [List.map_append]; simp [nodeD_eq, nodeC, boxP]
              · simp (disch := omega) only [go_sem, reduceIte, reduceDIte, reduceCtorEq, Nat.reduceBEq, Nat.reduceEqDiff, Nat.reduceAdd, Nat.reduceSub, Nat.reduceMul, Nat.reduceLT, Nat.reduceLeDiff, Nat.reduceBNe, Int.reduceNeg, Int.reduceAdd, Int.reduceSub, Int.reduceMul, Int.reduceLT, Int.reduceLE, Int.reduceGT, Int.reduceGE, Int.reduceEq, Int.reduceNe, Int.reduceToNat, Int.reduceTMod, Int.reduceTDiv, f0]
              · simp (disch := omega) only [go_sem, reduceIte, reduceDIte, reduceCtorEq, Nat.reduceBEq, Nat.reduceEqDiff, Nat.reduceAdd, Nat.reduceSub, Nat.reduceMul, Nat.reduceLT, Nat.reduceLeDiff, Nat.reduceBNe, Int.reduceNeg, Int.reduceAdd, Int.reduceSub, Int.reduceMul, Int.reduceLT, Int.reduceLE, Int.reduceGT, Int.reduceGE, Int.reduceEq, Int.reduceNe, Int.reduceToNat, Int.reduceTMod, Int.reduceTDiv, f2]
              · rw [← ht]
                simp only
                by_cases h3 : r3'.headD (-1) = 124
                · rw [if_pos h3, if_pos h3]
                  cases choiceL sortR (chP sortR f) f' r3'.tail with
                  | none => rfl
                  | some y => simp
                · rw [if_neg h3, if_neg h3]; rfl
              · simp (disch := omega) only [go_sem, reduceIte, reduceDIte, reduceCtorEq, Nat.reduceBEq, Nat.reduceEqDiff, Nat.reduceAdd, Nat.reduceSub, Nat.reduceMul, Nat.reduceLT, Nat.reduceLeDiff, Nat.reduceBNe, Int.reduceNeg, Int.reduceAdd, Int.reduceSub, Int.reduceMul, Int.reduceLT, Int.reduceLE, Int.reduceGT, Int.reduceGE, Int.reduceEq, Int.reduceNe, Int.reduceToNat, Int.reduceTMod, Int.reduceTDiv]
          · intro ho σ'
            cases hj2 : joinP sortR (chP sortR f) r'.tail with
            | none =>
              rw [hj2] at ht
              rw [← ht]
              simp (disch := omega) only [go_sem, reduceIte, reduceDIte, reduceCtorEq, Nat.reduceBEq, Nat.reduceEqDiff, Nat.reduceAdd, Nat.reduceSub, Nat.reduceMul, Nat.reduceLT, Nat.reduceLeDiff, Nat.reduceBNe, Int.reduceNeg, Int.reduceAdd, Int.reduceSub, Int.reduceMul, Int.reduceLT, Int.reduceLE, Int.reduceGT, Int.reduceGE, Int.reduceEq, Int.reduceNe, Int.reduceToNat, Int.reduceTMod, Int.reduceTDiv, Option.map_none]; exact ⟨_, rfl⟩
            | some y => rw [hj2] at ho; cases ho
        · rw [if_neg hs] at ht
          rw [← ht]
          simp (disch := omega) only [go_sem, reduceIte, reduceDIte, reduceCtorEq, Nat.reduceBEq, Nat.reduceEqDiff, Nat.reduceAdd, Nat.reduceSub, Nat.reduceMul, Nat.reduceLT, Nat.reduceLeDiff, Nat.reduceBNe, Int.reduceNeg, Int.reduceAdd, Int.reduceSub, Int.reduceMul, Int.reduceLT, Int.reduceLE, Int.reduceGT, Int.reduceGE, Int.reduceEq, Int.reduceNe, Int.reduceToNat, Int.reduceTMod, Int.reduceTDiv, f0]
          refine (skip_no l u' r' e' hl' 124 hs A _).at ?_
          by_cases n1 : n = 1
          · obtain ⟨y, ha⟩ : ∃ y, acc = [y] := by
              match acc, (by omega : acc.length = 1) with
              | [y], _ => exact ⟨y, rfl⟩
            have n1' : (n : Int) = 1 := by omega
            have z0 : (0 : Int) < (n : Int) := by omega
            simp (disch := omega) only [go_sem, reduceIte, reduceDIte, reduceCtorEq, Nat.reduceBEq, Nat.reduceEqDiff, Nat.reduceAdd, Nat.reduceSub, Nat.reduceMul, Nat.reduceLT, Nat.reduceLeDiff, Nat.reduceBNe, Int.reduceNeg, Int.reduceAdd, Int.reduceSub, Int.reduceMul, Int.reduceLT, Int.reduceLE, Int.reduceGT, Int.reduceGE, Int.reduceEq, Int.reduceNe, Int.reduceToNat, Int.reduceTMod, Int.reduceTDiv, f2, f3, n1', ha, z0, List.map_cons, List.map_nil, nodeD_eq, nodeC, Option.map_some, mkChoice, Nat.zero_add, boxP, List.append_assoc, List.cons_append, List.nil_append, List.length_append, stGet_app, stGet_app0, stSet_app, stSet_app0]
            exact ⟨_, rfl, wkB5 (.d (.refl _)) (.d (.refl _)) (.d (.refl _)) (.d (.refl _)) (.d (.refl _)), u', _, e', rfl⟩
          · have n1' : ¬ (n : Int) = 1 := by omega
            have hm := (mk_many (l := acc) (by omega)).2
            simp (disch := omega) only [go_sem, reduceIte, reduceDIte, reduceCtorEq, Nat.reduceBEq, Nat.reduceEqDiff, Nat.reduceAdd, Nat.reduceSub, Nat.reduceMul, Nat.reduceLT, Nat.reduceLeDiff, Nat.reduceBNe, Int.reduceNeg, Int.reduceAdd, Int.reduceSub, Int.reduceMul, Int.reduceLT, Int.reduceLE, Int.reduceGT, Int.reduceGE, Int.reduceEq, Int.reduceNe, Int.reduceToNat, Int.reduceTMod, Int.reduceTDiv, f2, f3, n1', hom, hta, Option.map_some, hm, Nat.zero_add, Nat.le_refl, boxP, List.append_assoc, List.cons_append, List.nil_append, List.length_append, stGet_app, stGet_app0, stSet_app, stSet_app0]
            exact ⟨_, rfl, wk_many 4 acc, u', _, e', rfl⟩
      · refine ⟨?_, ?_, [x], r.length, 0, 1, u1, [], rfl, by omega, by simp; omega, e1, by omega, ?_, ?_, ?_⟩
        · simp (disch := omega) only [go_sem, reduceIte, reduceDIte, reduceCtorEq, Nat.reduceBEq, Nat.reduceEqDiff, Nat.reduceAdd, Nat.reduceSub, Nat.reduceMul, Nat.reduceLT, Nat.reduceLeDiff, Nat.reduceBNe, Int.reduceNeg, Int.reduceAdd, Int.reduceSub, Int.reduceMul, Int.reduceLT, Int.reduceLE, Int.reduceGT, Int.reduceGE, Int.reduceEq, Int.reduceNe, Int.reduceToNat, Int.reduceTMod, Int.reduceTDiv]
        · simp (disch := omega) only [go_sem, reduceIte, reduceDIte, reduceCtorEq, Nat.reduceBEq, Nat.reduceEqDiff, Nat.reduceAdd, Nat.reduceSub, Nat.reduceMul, Nat.reduceLT, Nat.reduceLeDiff, Nat.reduceBNe, Int.reduceNeg, Int.reduceAdd, Int.reduceSub, Int.reduceMul, Int.reduceLT, Int.reduceLE, Int.reduceGT, Int.reduceGE, Int.reduceEq, Int.reduceNe, Int.reduceToNat, Int.reduceTMod, Int.reduceTDiv]
        · rw [htot]
          by_cases h1 : r1'.headD (-1) = 124
          · rw [if_pos h1, if_pos h1]; rfl
          · rw [if_neg h1, if_neg h1]
        · simp (disch := omega) only [go_sem, reduceIte, reduceDIte, reduceCtorEq, Nat.reduceBEq, Nat.reduceEqDiff, Nat.reduceAdd, Nat.reduceSub, Nat.reduceMul, Nat.reduceLT, Nat.reduceLeDiff, Nat.reduceBNe, Int.reduceNeg, Int.reduceAdd, Int.reduceSub, Int.reduceMul, Int.reduceLT, Int.reduceLE, Int.reduceGT, Int.reduceGE, Int.reduceEq, Int.reduceNe, Int.reduceToNat, Int.reduceTMod, Int.reduceTDiv]
        · simp [boxP, nodeD_eq, nodeC]
  · intro ho σ'
    cases hjn : joinP sortR (chP sortR f) r with
    | none =>
      rw [hjn] at htot
      rw [htot]
      simp (disch := omega) only [go_sem, reduceIte, reduceDIte, reduceCtorEq, Nat.reduceBEq, Nat.reduceEqDiff, Nat.reduceAdd, Nat.reduceSub, Nat.reduceMul, Nat.reduceLT, Nat.reduceLeDiff, Nat.reduceBNe, Int.reduceNeg, Int.reduceAdd, Int.reduceSub, Int.reduceMul, Int.reduceLT, Int.reduceLE, Int.reduceGT, Int.reduceGE, Int.reduceEq, Int.reduceNe, Int.reduceToNat, Int.reduceTMod, Int.reduceTDiv, Option.map_none]; exact ⟨_, rfl⟩
    | some y => rw [hjn] at ho; cases ho

theorem choices : ∀ f, CH f
  | 0 => fun l r hl hc hf => by omega
  | f + 1 => fun l r hl hc hf => choice28 f (choices f) l r hl hc (by omega)
end Go.Proofs.YtjgbdlaecpkmhaaGreatDoor
/- What comes in: an argument that reads avl data is data of its type; what a law's call leaves is what the form asks. -/








set_option linter.unusedVariables false
set_option linter.unusedSimpArgs false
namespace Nv
open Go Go.RowKit Go.ChangeShapes Go.WideShapes Go.ChangeAt

/-- Fields that lie side by side, from a place to a place. -/
def tiled (P : Program) : Nat → List Field → Nat → Bool
  | o, [], e => Nat.beq o e
  | o, f :: fs, e => Nat.beq f.offset o && tiled P (o + P.cellsOf f.type) fs e

/-- A type whose values are plain data, if those of some types are. -/
def isDataIn (P : Program) (S : List TypeId) (t : TypeId) : Bool :=
  match P.underlying t with
  | some .bool => true
  | some (.int _) => true
  | some .string => true
  | some (.slice e) => Nat.blt 0 (P.cellsOf e) && S.any (Nat.beq e)
  | some (.struct fs) => tiled P 0 fs.toList (P.cellsOf t) && fs.toList.all fun f => S.any (Nat.beq f.type)
  | _ => false

/-- Types that reach each other alone; the values of all are plain data. -/
def closedData (P : Program) (S : List TypeId) : Bool := S.all (isDataIn P S)
theorem closedData.at {P : Program} {S : List TypeId} (h : closedData P S = true) {t : TypeId} (ht : S.any (Nat.beq t) = true) : isDataIn P S t = true := by
  obtain ⟨u, hu, he⟩ := List.any_eq_true.1 ht
  rw [Nat.eq_of_beq_eq_true he]
  exact List.all_eq_true.1 h u hu

/-- An element out of its cells. -/
def ofCells (P : Program) (t : TypeId) (ds : List DV) : DV :=
  match P.underlying t with
  | some (.struct _) => .agg ds
  | _ => ds.headD default

/-- The data of a type, avl cells. -/
def TD (P : Program) : Nat → TypeId → List DV → Prop
  | 0, _, _ => False
  | n + 1, t, ds => match P.underlying t with
    | some .bool => ∃ b, ds = [.bool b]
    | some (.int k) => ∃ z, ds = [.int k z] ∧ (Lit.int k z).wf = true
    | some .string => ∃ s : List UInt8, ds = [.str s] ∧ s.length ≤ maxLen
    | some (.slice e) => ∃ xs, ds = [.list (P.cellsOf e) xs] ∧ xs.length ≤ maxLen ∧ ∀ x, x ∈ xs → ∃ cs, x = ofCells P e cs ∧ TD P n e cs
    | some (.struct fs) => ds.length = P.cellsOf t ∧ ∀ f, f ∈ fs.toList → TD P n f.type ((ds.drop f.offset).take (P.cellsOf f.type))
    | _ => False

def VDs (I : Nat → Prop) (w : World) (ds : List DV) (cs : List Value) : Prop := ds.length = cs.length ∧ ∀ j d, ds[j]? = some d → VD I w d (cs.getD j undef)

theorem VDs.append {I : Nat → Prop} {w : World} {ds ds' : List DV} {cs cs' : List Value} (h : VDs I w ds cs) (h' : VDs I w ds' cs') : VDs I w (ds ++ ds') (cs ++ cs') := by
  refine ⟨by simp [h.1, h'.1], fun j d hj => ?_⟩
  rcases Nat.lt_or_ge j ds.length with hl | hl
  · rw [List.getElem?_append_left hl] at hj
    have := h.2 j d hj
    rw [List.getD_eq_getElem?_getD, List.getElem?_append_left (by rw [← h.1]; exact hl), ← List.getD_eq_getElem?_getD]
    exact this
  · rw [List.getElem?_append_right hl] at hj
    have := h'.2 _ d hj
    rw [List.getD_eq_getElem?_getD, List.getElem?_append_right (by rw [← h.1]; exact hl), ← List.getD_eq_getElem?_getD, ← h.1]
    exact this

theorem VDs.one {I : Nat → Prop} {w : World} {d : DV} {v : Value} (h : VD I w d v) : VDs I w [d] [v] :=
  ⟨rfl, fun j x hj => by
    cases j with
    | zero => simp at hj; subst hj; simpa using h
    | succ j => simp at hj⟩

section
variable {H : Type} {enc : TypeId × Value → H} {P : Program} {w : World} {sp : Nat → Bool} {held : Bool} {I : Nat → Prop}

theorem ofCells_cells {n : Nat} {t : TypeId} {ds : List DV} (h : TD P n t ds) (hn : ∀ d, d ∈ ds → d.isAgg = false) : (ofCells P t ds).cells = ds := by
  have one : ∀ d : DV, d.isAgg = false → d.cells = [d] := fun d hd => by cases d <;> first | rfl | simp [DV.isAgg] at hd
  cases n with
  | zero => exact h.elim
  | succ n =>
    unfold TD at h
    unfold ofCells
    split at h
    · rename_i ht; obtain ⟨b, rfl⟩ := h; simp only [ht]; rfl
    · rename_i k ht; obtain ⟨z, rfl, _⟩ := h; simp only [ht]; rfl
    · rename_i ht; obtain ⟨z, rfl, _⟩ := h; simp only [ht]; rfl
    · rename_i e ht; obtain ⟨z, rfl, _⟩ := h; simp only [ht]; rfl
    · rename_i fs ht; simp only [ht]; rfl
    · exact h.elim

theorem fields_td {n : Nat} {cs : List Value} : ∀ (fs : List Field) (o e : Nat), tiled P o fs e = true → cs.length = e →
    (∀ f, f ∈ fs → ∃ ds, TD P n f.type ds ∧ VDs I w ds ((cs.drop f.offset).take (P.cellsOf f.type)) ∧ ∀ d, d ∈ ds → d.isAgg = false) → o ≤ e →
    ∃ ds, VDs I w ds (cs.drop o) ∧ (∀ f, f ∈ fs → o ≤ f.offset ∧ TD P n f.type ((ds.drop (f.offset - o)).take (P.cellsOf f.type))) ∧ ∀ d, d ∈ ds → d.isAgg = false
  | [], o, e, ht, hl, _, _ => by
    have : o = e := Nat.eq_of_beq_eq_true ht
    subst this
    refine ⟨[], ⟨by simp; omega, by simp⟩, by simp, by simp⟩
  | f :: fs, o, e, ht, hl, hf, hoe => by
    simp only [tiled, Bool.and_eq_true] at ht
    have hfo : f.offset = o := Nat.eq_of_beq_eq_true ht.1
    have hle : ∀ (fs : List Field) (o e : Nat), tiled P o fs e = true → o ≤ e := by
      intro fs
      induction fs with
      | nil => intro o e h; exact Nat.le_of_eq (Nat.eq_of_beq_eq_true h)
      | cons g gs ih => intro o e h; simp only [tiled, Bool.and_eq_true] at h; have := ih _ _ h.2; omega
    have hle' := hle _ _ _ ht.2
    obtain ⟨ds, h1, h2, h3⟩ := fields_td fs _ e ht.2 hl (fun g hg => hf g (List.mem_cons_of_mem _ hg)) hle'
    obtain ⟨d0, g1, g2, g3⟩ := hf f (by simp)
    rw [hfo] at g2
    have hl0 : d0.length = P.cellsOf f.type := by rw [g2.1]; simp; omega
    refine ⟨d0 ++ ds, ?_, fun g hg => ?_, fun d hd => ?_⟩
    · have := g2.append h1
      rwa [show (cs.drop o).take (P.cellsOf f.type) ++ cs.drop (o + P.cellsOf f.type) = cs.drop o by rw [← List.drop_drop]; exact List.take_append_drop _ _] at this
    · rcases List.mem_cons.1 hg with rfl | hg
      · refine ⟨by omega, ?_⟩
        rw [hfo, Nat.sub_self, List.drop_zero, ← hl0, List.take_left]
        exact g1
      · obtain ⟨k1, k2⟩ := h2 g hg
        refine ⟨by omega, ?_⟩
        rw [List.drop_append, List.drop_of_length_le (by omega), List.nil_append, hl0, show g.offset - o - P.cellsOf f.type = g.offset - (o + P.cellsOf f.type) by omega]
        exact k2
    · rcases List.mem_append.1 hd with hd | hd
      · exact g3 d hd
      · exact h3 d hd

theorem read_td (hsp : ∀ b, sp b = true) (hI : ∀ b, b < w.heap.size → I b) {S : List TypeId} (hS : closedData P S = true) : ∀ (n : Nat) (t : TypeId) (cs : List Value) (x : DataW H × List MemPlace), S.any (Nat.beq t) = true →
    DataW.trod enc P w 0 sp held n t cs = some x → ∃ ds, TD P n t ds ∧ VDs I w ds cs ∧ ∀ d, d ∈ ds → d.isAgg = false := by
  intro n
  induction n with
  | zero => intro t cs x _ h; simp [DataW.trod] at h
  | succ n ih =>
    intro t cs x hmem h
    have hd := closedData.at hS hmem
    unfold isDataIn at hd
    split at hd
    · rename_i ht
      obtain ⟨b, rfl, _⟩ := DataW.trod_bool ht h
      exact ⟨[.bool b], by simp only [TD, ht]; exact ⟨b, rfl⟩, .one (.bool b), by simp [DV.isAgg]⟩
    · rename_i k ht
      obtain ⟨z, rfl, _, hw⟩ := DataW.trod_int ht h
      exact ⟨[.int k z], by simp only [TD, ht]; exact ⟨z, rfl, hw⟩, .one (.int k z), by simp [DV.isAgg]⟩
    · rename_i ht
      obtain ⟨s, rfl, _, hw⟩ := DataW.trod_string ht h
      exact ⟨[.str s.data.toList], by simp only [TD, ht]; exact ⟨_, rfl, by simpa using hw⟩, .one (.str s.data.toList), by simp [DV.isAgg]⟩
    · rename_i e ht
      simp only [Bool.and_eq_true, Nat.blt_eq] at hd
      obtain ⟨hc, hde⟩ := hd
      rcases DataW.trod_slice ht h with ⟨rfl, _⟩ | ⟨a, len, cap, elems, rest, m, hnm, rfl, _, hb, hlc, hm, hlen, hel, hrest, _⟩
      · exact ⟨[.list (P.cellsOf e) []], by simp only [TD, ht]; exact ⟨[], rfl, by simp, by simp⟩, .one (.listNil _ none), by simp [DV.isAgg]⟩
      · obtain rfl : n = m := by omega
        have getC : ∀ i y, (w.cells? 0 (a.add (i * P.cellsOf e)) (P.cellsOf e)).bind (DataW.trod enc P w 0 sp held n e) = some y →
            ∃ (cs : List Value) (ds : List DV), w.cells? 0 (a.add (i * P.cellsOf e)) (P.cellsOf e) = some cs ∧ TD P n e ds ∧ VDs I w ds cs ∧ ∀ d, d ∈ ds → d.isAgg = false := by
          intro i y hy
          obtain ⟨cs, h1, h2⟩ := Option.bind_eq_some_iff.1 hy
          obtain ⟨ds, h3, h4, h5⟩ := ih _ _ _ hde h2
          exact ⟨cs, ds, h1, h3, h4, h5⟩
        have spot : ∀ cs, w.cells? 0 (a.add (0 * P.cellsOf e)) (P.cellsOf e) = some cs → a.spot = none ∧ a.block < w.heap.size := by
          intro cs hcs
          obtain ⟨_, hl, hg⟩ := World.cells?_some hcs
          have h0 := hg 0 hc
          rw [List.getElem?_eq_getElem (by omega)] at h0
          have ha : ((a.add (0 * P.cellsOf e)).add 0) = a := by simp [Addr.add]
          rw [ha] at h0
          unfold World.cell? at h0
          split at h0
          · rename_i hh
            split at h0
            · cases h0
            · rename_i hsp; exact ⟨by simpa using hsp, (Array.getElem?_eq_some_iff.1 hh).1⟩
          · cases h0
        by_cases hcap : cap = 0
        · subst hcap
          obtain rfl : len = 0 := by omega
          exact ⟨[.list (P.cellsOf e) []], by simp only [TD, ht]; exact ⟨[], rfl, by simp, by simp⟩, .one (.listNil _ (some a)), by simp [DV.isAgg]⟩
        · have elem : ∀ i, i < len → ∃ (c : List Value × List DV), w.cells? 0 (a.add (i * P.cellsOf e)) (P.cellsOf e) = some c.1 ∧ TD P n e c.2 ∧ VDs I w c.2 c.1 ∧ ∀ d, d ∈ c.2 → d.isAgg = false := by
            intro i hi
            have h1 := hel i hi
            rw [List.getElem?_eq_getElem (by omega)] at h1
            obtain ⟨cs, ds, q⟩ := getC i _ h1
            exact ⟨(cs, ds), q⟩
          have hs : a.spot = none ∧ a.block < w.heap.size := by
            rcases Nat.eq_zero_or_pos len with h0 | h0
            · obtain ⟨r1, r2⟩ := hrest (hsp _)
              have h1 := r2 0 (by omega)
              have e0 : len + 0 = 0 := by omega
              simp only [e0] at h1
              rw [List.getElem?_eq_getElem (by omega)] at h1
              obtain ⟨cs, ds, q, _⟩ := getC 0 _ h1
              exact spot _ q
            · obtain ⟨c, q, _⟩ := elem 0 h0
              exact spot _ q
          obtain ⟨b, off, sp'⟩ := a
          obtain ⟨h1, hbl⟩ := hs
          simp only at h1 hbl
          subst h1
          obtain ⟨C, hC⟩ := Go.Deep.choose_lt elem
          let xs : List DV := (List.range len).map fun i => ofCells P e (C i).2
          have hxl : xs.length = len := by simp [xs]
          have hxi : ∀ i, i < len → xs.getD i default = ofCells P e (C i).2 := fun i hi => by simp [xs, List.getD_eq_getElem?_getD, hi]
          have hcl : ∀ i, i < len → (C i).1.length = P.cellsOf e := fun i hi => (World.cells?_some (hC i hi).1).2.1
          have hdl : ∀ i, i < len → (C i).2.length = P.cellsOf e := fun i hi => by rw [(hC i hi).2.2.1.1]; exact hcl i hi
          have hoc : ∀ i, i < len → (ofCells P e (C i).2).cells = (C i).2 := fun i hi => ofCells_cells (hC i hi).2.1 (hC i hi).2.2.2
          have hmem : ∀ x, x ∈ xs → ∃ i, i < len ∧ x = ofCells P e (C i).2 := fun x hx => by
            obtain ⟨i, hi, rfl⟩ := List.mem_map.1 hx
            exact ⟨i, List.mem_range.1 hi, rfl⟩
          have huni : ∀ x, x ∈ xs → Uni (P.cellsOf e) x := fun x hx => by
            obtain ⟨i, hi, rfl⟩ := hmem x hx
            exact ⟨by rw [hoc i hi]; exact hdl i hi, by rw [hoc i hi]; exact (hC i hi).2.2.2⟩
          have hfl : ∀ j c, (flat xs)[j]? = some c → j / P.cellsOf e < len ∧ (C (j / P.cellsOf e)).2[j % P.cellsOf e]? = some c := by
            intro j c hj
            have hjl : j < (flat xs).length := by
              rcases Nat.lt_or_ge j (flat xs).length with h | h
              · exact h
              · rw [List.getElem?_eq_none h] at hj; cases hj
            rw [flat_len huni, hxl] at hjl
            have hd := Nat.div_lt_of_lt_mul (by rwa [Nat.mul_comm] at hjl : j < P.cellsOf e * len)
            refine ⟨hd, ?_⟩
            have := flat_get huni (i := j / P.cellsOf e) (o := j % P.cellsOf e) (by omega) (Nat.mod_lt _ hc)
            rw [show j / P.cellsOf e * P.cellsOf e + j % P.cellsOf e = j by rw [Nat.mul_comm]; exact Nat.div_add_mod _ _, hj, hxi _ hd, hoc _ hd] at this
            exact this.symm
          refine ⟨[.list (P.cellsOf e) xs], ?_, .one (.list (fun j => (C (j / P.cellsOf e)).1.getD (j % P.cellsOf e) undef) hxl.symm hlc huni (fun j c hj => ?_) (fun j c hj => ?_)), by simp [DV.isAgg]⟩
          · simp only [TD, ht]
            refine ⟨xs, rfl, by omega, fun x hx => ?_⟩
            obtain ⟨i, hi, rfl⟩ := hmem x hx
            exact ⟨_, rfl, (hC i hi).2.1⟩
          · obtain ⟨h1, h2⟩ := hfl j c hj
            refine ⟨hI _ hbl, ?_⟩
            obtain ⟨_, _, hg⟩ := World.cells?_some (hC _ h1).1
            have := hg (j % P.cellsOf e) (Nat.mod_lt _ hc)
            rw [Addr.add_lit, Addr.add_lit, Nat.add_assoc, show j / P.cellsOf e * P.cellsOf e + j % P.cellsOf e = j by rw [Nat.mul_comm]; exact Nat.div_add_mod _ _] at this
            rw [this, List.getD_eq_getElem?_getD, List.getElem?_eq_getElem (by rw [hcl _ h1]; exact Nat.mod_lt _ hc)]
            rfl
          · obtain ⟨h1, h2⟩ := hfl j c hj
            exact (hC _ h1).2.2.1.2 _ _ h2
    · rename_i fs ht
      simp only [Bool.and_eq_true] at hd
      obtain ⟨htl, hfs⟩ := hd
      obtain ⟨xs, m, hnm, _, hlen, hxs, hf⟩ := DataW.trod_struct ht h
      obtain rfl : n = m := by omega
      obtain ⟨ds, h1, h2, h3⟩ := fields_td (n := n) (w := w) (I := I) (cs := cs) fs.toList 0 (P.cellsOf t) htl hlen (fun f hfm => by
        obtain ⟨i, hi, he⟩ := List.getElem_of_mem hfm
        have h4 : fs[i]? = some f := by
          rw [Array.length_toList] at hi
          rw [Array.getElem?_eq_getElem hi]
          simpa using he
        have h5 := hf i f h4
        rw [List.getElem?_eq_getElem (by rw [hxs]; simpa using hi)] at h5
        exact ih _ _ _ (List.all_eq_true.1 hfs f hfm) h5) (Nat.zero_le _)
      rw [List.drop_zero] at h1
      refine ⟨ds, ?_, h1, h3⟩
      simp only [TD, ht]
      exact ⟨by rw [h1.1, hlen], fun f hfm => by simpa using (h2 f hfm).2⟩
    · cases hd

/-- An argument out of its cells. -/
def avOf (P : Program) (t : TypeId) (ds : List DV) : AV :=
  match P.underlying t with
  | some (.struct _) => .agg (ds.map .d)
  | _ => .d (ds.headD default)

theorem read_arg {W : World} {ρ : RHO} {S : List TypeId} {t : TypeId} {v : Value} {d : DataW H} {p : List MemPlace} {base : Nat} (hS : closedData P S = true) (ht : S.any (Nat.beq t) = true)
    (h : DataW.Trod enc P W 0 (fun _ => true) held t v d p) (hok : Value.okWide P W .any base t v) :
    ∃ n ds, TD P n t ds ∧ V ρ [] (fun b => b < W.heap.size) W (avOf P t ds) v := by
  obtain ⟨n, hf⟩ := h
  obtain ⟨ds, h1, h2, h3⟩ := read_td (I := fun b => b < W.heap.size) (fun _ => rfl) (fun b hb => hb) hS n t _ _ ht hf
  refine ⟨n, ds, h1, ?_⟩
  have one : ∀ d, ds = [d] → v.cells = #[v] → VD (fun b => b < W.heap.size) W d v := fun d hds hv => by
    subst hds
    have := h2.2 0 d rfl
    rw [hv] at this
    simpa using this
  unfold avOf
  unfold Value.okWide at hok
  cases n with
  | zero => exact h1.elim
  | succ n =>
    unfold TD at h1
    split at h1
    · rename_i ht
      obtain ⟨b, rfl⟩ := h1
      rw [ht] at hok ⊢
      simp only [Cell.okWide, ht] at hok
      exact .d (one _ rfl (by cases v <;> first | rfl | (exfalso; simp [Cell.ok, ht] at hok)))
    · rename_i k ht
      obtain ⟨b, rfl, _⟩ := h1
      rw [ht] at hok ⊢
      simp only [Cell.okWide, ht] at hok
      exact .d (one _ rfl (by cases v <;> first | rfl | (exfalso; simp [Cell.ok, ht] at hok)))
    · rename_i ht
      obtain ⟨b, rfl, _⟩ := h1
      rw [ht] at hok ⊢
      simp only [Cell.okWide, ht] at hok
      exact .d (one _ rfl (by cases v <;> first | rfl | (exfalso; simp [Cell.ok, ht] at hok)))
    · rename_i e ht
      obtain ⟨b, rfl, _⟩ := h1
      rw [ht] at hok ⊢
      simp only [Cell.okWide, ht] at hok
      exact .d (one _ rfl (by cases v <;> first | rfl | (exfalso; simp [Cell.ok, ht] at hok)))
    · rename_i fs ht
      rw [ht] at hok ⊢
      obtain ⟨cs, rfl, hsz, _⟩ := hok
      have hl := h2.1
      simp only [Value.cells, Array.length_toList] at hl
      refine .agg (by simpa using hl) (fun j c hj => ?_)
      simp only [List.getElem?_map, Option.map_eq_some_iff] at hj
      obtain ⟨d, hd, rfl⟩ := hj
      have := h2.2 j d hd
      simp only [Value.cells] at this
      have hjl : j < cs.size := by
        rw [← hl]
        rcases Nat.lt_or_ge j ds.length with h | h
        · exact h
        · rw [List.getElem?_eq_none h] at hd; cases hd
      rw [Array.getD_eq_getD_getElem?]
      rw [List.getD_eq_getElem?_getD, Array.getElem?_toList] at this
      exact .d this
    · exact h1.elim

/-- What a call leaves that hands back a bool: old memory is avl it was. -/
theorem PCall.calls {f : FuncId} {args : List AV} {b : Bool} {W : World} {vs : Array Value} (h : PCall P f args (.d (.bool b)))
    (hv : VL (fun _ => ⟨none, 0, 0⟩) [] (fun b => b < W.heap.size) W args vs) (hT : Tabs P (fun b => b < W.heap.size) W) : Calls P f vs W fun e w' => e = .returned (.bool b) ∧ Below W.heap.size W w' := by
  have hr : RS P (fun _ => ⟨none, 0, 0⟩) (fun b => b < W.heap.size) W [] := ⟨fun i blk hi => by simp at hi, fun i j bi bj B hi => by simp at hi, fun B hl => absurd hl (no_lives B), fun B hB => hB, hT⟩
  refine (h [] _ _ W vs hr hv).mono ?_
  rintro e w' ⟨ρ', I', σ', oc, h1, h2, h3, rfl, rfl⟩
  cases e <;> simp only at h3
  rename_i v
  rw [h3.d_inv.bool_inv]
  exact ⟨rfl, h1.env.os, h1.env.tape, h1.env.output, h1.hsz, fun k hk => h1.keep k hk (no_lives k)⟩

theorem trodAll_stays {ts : List TypeId} (hl : laidOutB P = true) (hr : ∀ t, t ∈ ts → P.readableRec t = true ∧ t < P.types.size) {W W' : World} : ∀ {vs : List Value} {ds : List (DataW H)} {ps : List MemPlace},
    DataW.TrodAll enc P W 0 (fun _ => true) true ts vs ds ps → Below W.heap.size W W' → (∀ x, x ∈ ps → x.block < W.heap.size) → DataW.TrodAll enc P W' 0 (fun b => decide (b < W.heap.size)) true ts vs ds ps := by
  induction ts with
  | nil =>
    intro vs ds ps h hb hlt
    cases vs <;> cases ds <;> first | exact h | exact h.elim
  | cons t ts ih =>
    intro vs ds ps h hb hlt
    cases vs <;> cases ds <;> first | exact h.elim | skip
    obtain ⟨p, q, h1, h2, rfl⟩ := h
    exact ⟨p, q, Below.trod hl (hr t (by simp)).1 (hr t (by simp)).2 h1 hb (fun x hx => hlt x (List.mem_append_left _ hx)),
      ih (fun t ht => hr t (List.mem_cons_of_mem _ ht)) h2 hb (fun x hx => hlt x (List.mem_append_right _ hx)), rfl⟩

/-- A law that returns true and leaves what came in: what the form asks of its end. -/
theorem law_post {fn : Func} {s : ChangeSpec} {apart : Bool} {W W' : World} {args : Array Value} {ds : List (DataW H)} {before : List MemPlace} {tb : TypeId}
    (hl : laidOutB P = true) (hr : ∀ t, t ∈ fn.params.toList → P.readableRec t = true ∧ t < P.types.size) (hvars : s.vars = [])
    (hW : DataW.Whole enc P fn.params.toList s.vars apart W args.toList ds [] before)
    (h1 : (s.fn H (ds ++ [])).results = [.lit (.bool true)]) (h2 : (s.fn H (ds ++ [])).args = ds) (h3 : (s.fn H (ds ++ [])).vars = [])
    (ht : fn.resultTypes = #[tb]) (hb : P.underlying tb = some .bool) (hB : Below W.heap.size W W') : s.post enc P fn apart true false false W args (.bool true) W' := by
  have hlt := hW.lt
  obtain ⟨p, q, hA, hV, rfl, hfz, hnd⟩ := id hW
  rw [hvars] at hV
  obtain ⟨_, rfl⟩ := trodVars_none hV
  refine ⟨ds, [], p ++ [], [], p, [], hW, ?_, ?_, ?_, hB.frame _, fun h => by cases h⟩
  · rw [h1, ht]
    exact trodAll_mk1 (shut_bool hb _)
  · rw [h2]
    exact trodAll_stays hl hr hA hB (fun x hx => by simpa using hlt x (by simpa using hx))
  · rw [h3, hvars]; rfl
end

/-- A law's row out of a contract that knows the world's shape and what is laid in it. -/
theorem handed_laid {H : Type} {enc : TypeId × Value → H} {C : Checked} {os : Os} {f : FuncId} {fn : Func} {s : ChangeSpec} {apart fresh handsOn again : Bool} {X : World → Prop}
    (hX : ∀ w w' : World, w.heap = w'.heap → X w → X w') (own : ownKnob C.prog.godebug = none) (started : os.Started) (noInit : C.prog.inits.idxOf? f = none) (hfn : C.prog.funcs[f]? = some fn)
    (witness : ∃ (w : World) (tape : Tape) (i : Input), w.os = os ∧ (w.forCall tape i).Shaped C.prog ∧ i.vars = [] ∧ Input.okWide C.prog (w.forCall tape i) .any w.heap.size f i ∧
      ((s.pre enc C.prog fn [] apart (w.forCall tape i).memory i.args ∧ X (w.forCall tape i).memory) ∧ sizedMet enc C.prog fn (OpenSpec.ofChange s) apart (w.forCall tape i).memory i.args) ∧ ({} : Assume).holds C.prog (lone (Frame.enter C.prog f i.args .normal) [] (w.forCall tape i)))
    (law : ∀ (W : World) (base : Nat) (args : Array Value) (ds gs : List (DataW H)) (before : List MemPlace), (∀ (j : Nat) t v, fn.params[j]? = some t → args[j]? = some v → Value.okWide C.prog W .any base t v) →
      DataW.Whole enc C.prog fn.params.toList s.vars apart W args.toList ds gs before → (DataW.weightsEach C.prog (fn.params.toList ++ s.plain.varTypes C.prog) (ds ++ gs)).all (· ≤ reachBytes) = true → W.ShapedOpen C.prog → X W → Calls C.prog f args W fun e W' => ∃ v, e = .returned v ∧ s.post enc C.prog fn apart fresh handsOn again W args v W') :
    ReturnsInHanded {} C os f .any (fun w args => (s.pre enc C.prog fn [] apart w args ∧ X w) ∧ sizedMet enc C.prog fn (OpenSpec.ofChange s) apart w args) (s.post enc C.prog fn apart fresh handsOn again) := by
  refine returnsInHanded_of_calls own started noInit witness ?_
  intro w tape i _ hshape _ hin hpre _
  have hval := hin.2.2.2
  obtain ⟨fn1, hf1, _, _, _, _, hval⟩ := hval
  cases Option.some.inj (hf1.symm.trans hfn)
  have hh : (w.forCall tape i).memory.heap = (w.forCall tape i).heap := by rfl
  obtain ⟨⟨⟨ds, gs, before, hread, _⟩, hx⟩, hz⟩ := hpre
  refine (law _ _ _ ds gs before hval (DataW.Whole.of_heap hh hread) (hz.weights hread) hshape (hX _ _ hh hx)).mono ?_
  rintro e W' ⟨v, rfl, hpost⟩
  exact ChangeSpec.post_blind hpost

/-- A string that came in is no longer than the memory that a call reaches. -/
theorem str_sized {H : Type} {enc : TypeId × Value → H} {P : Program} {W : World} {ts : List TypeId} {ds : List (DataW H)} (h : (DataW.weightsEach P ts ds).all (· ≤ reachBytes) = true) {j : Nat} {t : TypeId} {d : DataW H} (htj : ts[j]? = some t)
    (hdj : ds[j]? = some d) (ht : P.underlying t = some .string) {r : Reach} {b0 base : Nat} {sp : Nat → Bool} {held : Bool} {v : Value} {p : List MemPlace} (hval : Value.okWide P W r b0 t v) (hT : DataW.Trod enc P W base sp held t v d p)
    {ρ : RHO} {σ : ST} {I : Nat → Prop} {w : World} {s : List UInt8} (hv : V ρ σ I w (.d (.str s)) v) : s.length ≤ 140737488355328 := by
  obtain ⟨z, rfl, rfl, _⟩ := Go.ChangeMaps.open_string ht hval hT
  have := sized_string h htj hdj
  have e := hv.d_inv.str_inv
  simp only [Value.string.injEq] at e
  subst e
  have := reachBytes_lt
  simp at *
  omega
/-- A table of integers that a row lists, wherever it stands on the list. -/
theorem tabIs_of_reads {P : Program} {W : World} {name : String} {k : IntKind} {zs : List Int} {g : Nat} {t e : TypeId} {n : Nat}
    (hg : P.globalNamed name = some g) (hty : (P.globals[g]?).map (·.type) = some t) (ht : P.underlying t = some (.array n e)) (he : P.underlying e = some (.int k)) (hce : P.cellsOf e = 1) (hct : P.cellsOf t = n)
    (h : Lib.VarReads P W name (Lib.tabData k zs)) : Lib.TabIs P W name k zs := by
  obtain ⟨g', t', cs, fuel, p, hg', ht', hvar, hd⟩ := h
  obtain rfl := Option.some.inj (hg.symm.trans hg')
  obtain rfl := Option.some.inj (hty.symm.trans ht')
  unfold Lib.TabIs
  rw [hvar, ← Lib.cells_of_tab ht he hce hct hd]
end Nv
set_option linter.unusedVariables false
set_option linter.unusedSimpArgs false
set_option maxRecDepth 100000
namespace Go.Proofs.YtjgbdlaecpkmhaaGreatDoor
open Go.Shelf
def Tryz.lays196_ren : Go.Shelf.Ren := ⟨fun | 196 => 82 | 259 => 96 | n => n, fun | 9 => 9 | 4 => 4 | 3 => 3 | 5 => 5 | 12 => 12 | 119 => 122 | 0 => 0 | 46 => 96 | 139 => 125 | 138 => 124 | 53 => 117 | n => n, fun | 3 => 1 | 4 => 2 | n => n⟩
theorem Tryz.lays196 : Go.Proofs.Lays.n196 Tryz.prog Tryz.lays196_ren where
  mixed := by kernel_rfl
  f196 := Tryz.func82.trans (congrArg some (by kernel_rfl))
  f259 := Tryz.func96.trans (congrArg some (by kernel_rfl))
  t0 := Tryz.underlying0
  a0 := Tryz.isAgg0
  z0 := Tryz.sizeOf0
  v0 := Tryz.zeroValue0
  t3 := Tryz.underlying3
  a3 := Tryz.isAgg3
  z3 := Tryz.sizeOf3
  v3 := Tryz.zeroValue3
  t4 := Tryz.underlying4
  a4 := Tryz.isAgg4
  z4 := Tryz.sizeOf4
  v4 := Tryz.zeroValue4
  t5 := Tryz.underlying5
  a5 := Tryz.isAgg5
  z5 := Tryz.sizeOf5
  v5 := Tryz.zeroValue5
  t9 := Tryz.underlying9
  a9 := Tryz.isAgg9
  z9 := Tryz.sizeOf9
  v9 := Tryz.zeroValue9
  t12 := Tryz.underlying12
  a12 := Tryz.isAgg12
  z12 := Tryz.sizeOf12
  v12 := Tryz.zeroValue12
  t46 := Tryz.underlying96
  a46 := Tryz.isAgg96
  z46 := Tryz.sizeOf96
  v46 := Tryz.zeroValue96
  t53 := Tryz.underlying117
  a53 := Tryz.isAgg117
  z53 := Tryz.sizeOf117
  v53 := Tryz.zeroValue117
  t119 := Tryz.underlying122
  a119 := Tryz.isAgg122
  z119 := Tryz.sizeOf122
  t138 := Tryz.underlying124
  a138 := Tryz.isAgg124
  z138 := Tryz.sizeOf124
  v138 := Tryz.zeroValue124
  t139 := Tryz.underlying125
  a139 := Tryz.isAgg125
  z139 := Tryz.sizeOf125
  v139 := Tryz.zeroValue125
  g3 := by kernel_rfl
  g4 := by kernel_rfl
open Go.RowKit Go.Lib Nv
theorem extraU8 : U8Extra Tryz.prog Tryz.lays196_ren where
  n3 := by kernel_rfl
  n4 := by kernel_rfl
  y3 := by kernel_rfl
  y4 := by kernel_rfl
  c5 := by kernel_rfl
  c119 := by kernel_rfl
  c138 := by kernel_rfl
theorem globals_le {w : Go.World} (h : w.ShapedOpen Tryz.prog) : Tryz.prog.globals.size ≤ w.heap.size := by
  have hk : (((Go.begin Tryz.prog (fun _ _ => 0) default).world.heap[Tryz.prog.globals.size - 1]?).bind Go.Obj.row?).isSome = true := by kernel_rfl
  obtain ⟨⟨zero, t⟩, hz⟩ := Option.isSome_iff_exists.1 hk
  have hp : 0 < Tryz.prog.globals.size := of_decide_eq_true (by kernel_rfl)
  obtain ⟨cs, hc, _⟩ := h.1 (Tryz.prog.globals.size - 1) zero t (Nat.sub_lt hp Nat.one_pos) hz
  rcases Nat.lt_or_ge (Tryz.prog.globals.size - 1) w.heap.size with h' | h'
  · omega
  · rw [Array.getElem?_eq_none h'] at hc; cases hc
theorem tabs_of {w : Go.World} (hs : w.ShapedOpen Tryz.prog) (h : ∀ r : Go.Shelf.Ren, U8Types Tryz.prog r → U8Extra Tryz.prog r → Utf8Tabs (r.g 3) (r.g 4) w) (hp : (Tryz.prog.globalNamed powN).isSome = true → TabIs Tryz.prog w powN .u64 Lib.pow10Tab) : Tabs Tryz.prog (fun b => b < w.heap.size) w :=
  Tabs.of hs h hp (globals_le hs)
theorem first_eq : Rows.laid_unicode_utf8_first = firstData := by kernel_rfl
theorem accept_eq : (Rows.laid_unicode_utf8_acceptRanges : Go.DataW Unit) = acceptData := by kernel_rfl
theorem pow_eq : (Rows.laid_internal_strconv_uint64pow10 : Go.DataW Unit) = Lib.tabData .u64 Lib.pow10Tab := by kernel_rfl
theorem pow_tab {w : Go.World} (h : Lib.VarReads Tryz.prog w powN Rows.laid_internal_strconv_uint64pow10) : Lib.TabIs Tryz.prog w powN .u64 Lib.pow10Tab := by
  rw [pow_eq] at h
  exact tabIs_of_reads (g := 3) (t := 135) (e := 117) (n := 20) (by kernel_rfl) (by kernel_rfl) Tryz.underlying135 Tryz.underlying117 (by kernel_rfl) (by kernel_rfl) h
theorem powN_eq : powN = Rows.rulesyntaxRoundTripRow.laid[2]!.1 := by kernel_rfl
theorem pow_mem : (powN, Rows.laid_internal_strconv_uint64pow10) ∈ Rows.rulesyntaxRoundTripRow.laid := by rw [powN_eq]; simp [Rows.rulesyntaxRoundTripRow]
end Go.Proofs.YtjgbdlaecpkmhaaGreatDoor
set_option linter.unusedVariables false
set_option linter.unusedSimpArgs false
set_option maxRecDepth 100000
namespace Go.Proofs.YtjgbdlaecpkmhaaGreatDoor
open Go.RowKit Go.Lib Nv
theorem valid18 (s : List UInt8) (hs : s.length ≤ 9223372036854775807) : PCall Tryz.prog 82 [.d (.str s)] (.d (.bool (Lib.validD s))) :=
  .of_callsT rfl rfl fun w I hT => Any.utf8_ValidString Tryz.lays196 ⟨s.toArray⟩ w (by simpa [ByteArray.size] using hs) (hT.utf8 (U8Types.of196 Tryz.lays196) extraU8)
end Go.Proofs.YtjgbdlaecpkmhaaGreatDoor
/- The prepared code of further functions. Written by a program of mine (gen.py) out of what the loaded dump prints. -/

set_option linter.unusedVariables false
set_option maxRecDepth 100000
namespace Go.Proofs.YtjgbdlaecpkmhaaGreatDoor
open Go Nv

/-- narrator.utf8stream.Valid -/
theorem fn63 : FnIs Tryz.prog 63 1 [Go.ResultVar.tmp 2] (.seq (.region [⟨some 2, Go.Op.assign (Go.Operand.const (Go.Value.bool false)), 4, none⟩])
    (.seq (.region [⟨some 3, Go.Op.move (Go.Operand.tmp 0), 9, none⟩,
      ⟨some 4, Go.Op.call { callee := Go.Callee.value (Go.Operand.func 82), args := #[Go.Operand.tmp 3], argTypes := #[9] }, 4, none⟩,
      ⟨some 2, Go.Op.assign (Go.Operand.tmp 4), 4, none⟩])
    .ret)) :=
  ⟨foll, Tryz.f63, Tryz.func63, by kernel_rfl, by kernel_rfl, by kernel_rfl, by rw [Tryz.ntmps63]; decide⟩

end Go.Proofs.YtjgbdlaecpkmhaaGreatDoor
set_option linter.unusedVariables false
set_option linter.unusedSimpArgs false
set_option maxRecDepth 100000
namespace Go.Proofs.YtjgbdlaecpkmhaaGreatDoor
open Go Nv Pat

theorem validU (s : List UInt8) (hs : s.length ≤ 100000) : PCall Tryz.prog 63 [.d (.str s)] (.d (.bool (Lib.validD s))) := by
  refine fn63.pure noHint (Nat.le_refl _) (by simp only [go_sem]) (by simp only [go_sem]) ?_
  simp (disch := omega) only [go_sem, reduceIte, reduceDIte, reduceCtorEq, Nat.reduceBEq, Nat.reduceEqDiff, Nat.reduceAdd, Nat.reduceSub, Nat.reduceMul, Nat.reduceLT, Nat.reduceLeDiff, Nat.reduceBNe, Int.reduceNeg, Int.reduceAdd, Int.reduceSub, Int.reduceMul, Int.reduceLT, Int.reduceLE, Int.reduceGT, Int.reduceGE, Int.reduceEq, Int.reduceNe, Int.reduceToNat, Int.reduceTMod, Int.reduceTDiv]
  refine (valid18 s (by omega)).at ?_
  simp (disch := omega) only [go_sem, reduceIte, reduceDIte, reduceCtorEq, Nat.reduceBEq, Nat.reduceEqDiff, Nat.reduceAdd, Nat.reduceSub, Nat.reduceMul, Nat.reduceLT, Nat.reduceLeDiff, Nat.reduceBNe, Int.reduceNeg, Int.reduceAdd, Int.reduceSub, Int.reduceMul, Int.reduceLT, Int.reduceLE, Int.reduceGT, Int.reduceGE, Int.reduceEq, Int.reduceNe, Int.reduceToNat, Int.reduceTMod, Int.reduceTDiv]

end Go.Proofs.YtjgbdlaecpkmhaaGreatDoor
