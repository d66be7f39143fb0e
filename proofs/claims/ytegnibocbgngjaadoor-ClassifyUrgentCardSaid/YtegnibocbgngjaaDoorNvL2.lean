/- Regions whose order is open: what an evaluation in the order of the text gives. -/
import Derived.Test.YtegnibocbgngjaaDoorNvL
set_option linter.unusedVariables false
set_option linter.unusedSimpArgs false
namespace Nv
open Go

section
variable {P : Program} {h : Nat → Hint}

theorem Res.split {r : Res} {R : AV → ST → Prop} (hh : r.dholds R) : ∃ v σ', r.holds (fun v' τ => v' = v ∧ τ = σ') ∧ R v σ' := by
  induction r with
  | ok v σ => exact ⟨v, σ, ⟨rfl, rfl⟩, hh⟩
  | need p r ih => obtain ⟨v, σ', h1, h2⟩ := ih hh.2; exact ⟨v, σ', ⟨hh.1, h1⟩, h2⟩
  | both a b => exact hh.elim
  | bad => exact hh.elim

/-- What an operation comes to, and the store after it. -/
def Does (P : Program) (h : Nat → Hint) (o : POp) (fr : FR) (σ : ST) (v : AV) (σ' : ST) : Prop := AOp P h o (fun v' τ => v' = v ∧ τ = σ') (fun _ _ => False) fr σ

theorem DOp.split {o : POp} {R : AV → ST → Prop} {fr : FR} {σ : ST} (hh : DOp P h o R fr σ) : ∃ v σ', Does P h o fr σ v σ' ∧ R v σ' := by
  unfold DOp at hh
  unfold Does AOp
  split at hh
  · rename_i f args ts hop
    rw [hop]
    obtain ⟨v, h1, h2⟩ := hh; exact ⟨v, σ, h1, h2⟩
  · rename_i hne
    split
    · rename_i x hop; rw [hop] at hh; exact hh.elim
    · rename_i s d x hop
      rw [hop] at hh
      have hb : rCv P s d (aeval fr x) σ ≠ .bad := fun hb => by
        simp only [evalOp] at hh
        rw [hb] at hh
        exact hh.elim
      rw [rCvA_of hb]
      exact Res.split hh
    · rename_i f args ts hop; exact absurd hop (hne _ _ _)
    · exact Res.split hh

theorem Again.does {o : POp} {fr : FR} {v : AV} {τ : ST} (hh : Again P h o fr v τ) : Does P h o fr τ v τ := by
  obtain ⟨v', σ', h1, rfl, rfl⟩ := DOp.split hh
  exact h1

def frT : List DP → (Nat → AV) → FR → Nat → FR
  | [], _, fr, _ => fr
  | _, _, fr, 0 => fr
  | o :: l, vs, fr, k + 1 => frT l (fun i => vs (i + 1)) (put fr o.o.dst (vs 0)) k
theorem frT_zero (l : List DP) (vs : Nat → AV) (fr : FR) : frT l vs fr 0 = fr := by cases l <;> rfl
theorem frT_succ : ∀ (l : List DP) (vs : Nat → AV) (fr : FR) (k : Nat) (o : DP), l[k]? = some o → frT l vs fr (k + 1) = put (frT l vs fr k) o.o.dst (vs k)
  | [], _, _, _, _, ho => by simp at ho
  | x :: l, vs, fr, 0, o, ho => by
    simp only [List.getElem?_cons_zero, Option.some.injEq] at ho; subst ho
    simp [frT, frT_zero]
  | x :: l, vs, fr, k + 1, o, ho => by
    simp only [List.getElem?_cons_succ] at ho
    exact frT_succ l _ _ k o ho

/-- Whether an operation is carried out. -/
inductive Gate (o : POp) (fr : FR) : Bool → Prop
  | opn : o.guard = none → Gate o fr true
  | att {g : Nat} {b c : Bool} : o.guard = some (g, b) → fr g = .d (.bool c) → Gate o fr (c == b)
  | un {g : Nat} {b : Bool} : o.guard = some (g, b) → fr g = .tuple [] → Gate o fr false

structure Fact (P : Program) (h : Nat → Hint) (n : Nat) (dp : DP) (fr : FR) (vs : Nat → AV) (ss : Nat → ST) (past : List ST) (i : Nat) : Prop where
  does : Does P h dp.o fr (ss i) (vs i) (ss (i + 1))
  still : dp.eff = false → ss (i + 1) = ss i
  back : dp.eff = false → dp.back = true → (∀ τ, τ ∈ past → Does P h dp.o fr τ (vs i) τ) ∧ ∀ j, j ≤ i → Does P h dp.o fr (ss j) (vs i) (ss j)
  fwd : dp.eff = false → dp.fwd = true → ∀ j, i < j → j ≤ n → Does P h dp.o fr (ss j) (vs i) (ss j)

def Says (P : Program) (h : Nat → Hint) (n : Nat) (dp : DP) (fr : FR) (vs : Nat → AV) (ss : Nat → ST) (past : List ST) (i : Nat) : Prop :=
  (Gate dp.o fr true ∧ Fact P h n dp fr vs ss past i) ∨ (Gate dp.o fr false ∧ vs i = .tuple [] ∧ ss (i + 1) = ss i)

def cons0 {α : Type} (x : α) (f : Nat → α) : Nat → α
  | 0 => x
  | k + 1 => f k

theorem DOps.extract {K : FR → ST → Prop} : ∀ (l : List DP) (past : List ST) (pend : List PD) (fr : FR) (σ : ST), DOps P h K l past pend fr σ →
    ∃ (vs : Nat → AV) (ss : Nat → ST), ss 0 = σ ∧ K (frT l vs fr l.length) (ss l.length) ∧ (∀ p, p ∈ pend → Does P h p.o p.fr σ p.v σ → ∀ j, j ≤ l.length → Does P h p.o p.fr (ss j) p.v (ss j)) ∧
      ∀ i dp, l[i]? = some dp → Says P h l.length dp (frT l vs fr i) vs ss past i
  | [], past, pend, fr, σ, hh => ⟨fun _ => .any, fun _ => σ, rfl, hh, fun p _ hok j _ => hok, fun i dp hi => by simp at hi⟩
  | o :: rest, past, pend, fr, σ, hh => by
    have skip : Gate o.o fr false → DOps P h K rest past pend (put fr o.o.dst (.tuple [])) σ →
        ∃ (vs : Nat → AV) (ss : Nat → ST), ss 0 = σ ∧ K (frT (o :: rest) vs fr (rest.length + 1)) (ss (rest.length + 1)) ∧ (∀ p, p ∈ pend → Does P h p.o p.fr σ p.v σ → ∀ j, j ≤ rest.length + 1 → Does P h p.o p.fr (ss j) p.v (ss j)) ∧
          ∀ i dp, (o :: rest)[i]? = some dp → Says P h (rest.length + 1) dp (frT (o :: rest) vs fr i) vs ss past i := by
      intro hg hd
      obtain ⟨vs, ss, h0, hK, hp, hs⟩ := extract rest _ _ _ _ hd
      refine ⟨cons0 (.tuple []) vs, cons0 σ ss, rfl, hK, fun p hpm hok j hj => ?_, fun i dp hi => ?_⟩
      · cases j with
        | zero => exact hok
        | succ j => exact hp p hpm hok j (by omega)
      · cases i with
        | zero =>
          simp only [List.getElem?_cons_zero, Option.some.injEq] at hi; subst hi
          exact .inr ⟨by rw [frT_zero]; exact hg, rfl, h0⟩
        | succ i =>
          simp only [List.getElem?_cons_succ] at hi
          rcases hs i dp hi with ⟨g1, f⟩ | ⟨g1, g2, g3⟩
          · refine .inl ⟨g1, ⟨f.does, f.still, fun he hb => ⟨(f.back he hb).1, fun j hj => ?_⟩, fun he hw j hj hn => ?_⟩⟩
            · cases j with
              | zero => have := (f.back he hb).2 0 (Nat.zero_le _); rw [h0] at this; exact this
              | succ j => exact (f.back he hb).2 j (by omega)
            · cases j with
              | zero => omega
              | succ j => exact f.fwd he hw j (by omega) (by omega)
          · exact .inr ⟨g1, g2, g3⟩
    have run : Gate o.o fr true → DOp P h o.o (fun v σ' => dNext P h o past pend fr σ v σ' ∧ DOps P h K rest (dPast o past σ) (dPend o pend fr v) (put fr o.o.dst v) σ') fr σ →
        ∃ (vs : Nat → AV) (ss : Nat → ST), ss 0 = σ ∧ K (frT (o :: rest) vs fr (rest.length + 1)) (ss (rest.length + 1)) ∧ (∀ p, p ∈ pend → Does P h p.o p.fr σ p.v σ → ∀ j, j ≤ rest.length + 1 → Does P h p.o p.fr (ss j) p.v (ss j)) ∧
          ∀ i dp, (o :: rest)[i]? = some dp → Says P h (rest.length + 1) dp (frT (o :: rest) vs fr i) vs ss past i := by
      intro hg hd
      obtain ⟨v, σ', hdo, hnx, hrest⟩ := DOp.split hd
      obtain ⟨vs, ss, h0, hK, hp, hs⟩ := extract rest _ _ _ _ hrest
      subst h0
      have hsub : ∀ p, p ∈ pend → p ∈ dPend o pend fr v := fun p hpm => by
        unfold dPend; cases o.fwd && !o.eff
        · exact hpm
        · exact List.mem_cons_of_mem _ hpm
      refine ⟨cons0 v vs, cons0 σ ss, rfl, hK, fun p hpm hok j hj => ?_, fun i dp hi => ?_⟩
      · cases j with
        | zero => exact hok
        | succ j =>
          refine hp p (hsub p hpm) ?_ j (by omega)
          unfold dNext at hnx
          cases he : o.eff
          · rw [he] at hnx; rw [hnx.1]; exact hok
          · rw [he] at hnx; exact Again.does (hnx p hpm)
      · cases i with
        | zero =>
          simp only [List.getElem?_cons_zero, Option.some.injEq] at hi; subst hi
          refine .inl ⟨by rw [frT_zero]; exact hg, ⟨by rw [frT_zero]; exact hdo, fun he => ?_, fun he hb => ⟨fun τ hτ => ?_, fun j hj => ?_⟩, fun he hw j hj hn => ?_⟩⟩
          · unfold dNext at hnx; rw [he] at hnx; exact hnx.1
          · unfold dNext at hnx; rw [he] at hnx; rw [frT_zero]; exact Again.does (hnx.2 hb τ hτ)
          · cases j with
            | zero =>
              unfold dNext at hnx; rw [he] at hnx
              have h1 := hnx.1
              rw [frT_zero]
              rw [h1] at hdo
              exact hdo
            | succ j => omega
          · cases j with
            | zero => omega
            | succ j =>
              unfold dNext at hnx; rw [he] at hnx
              have h1 := hnx.1
              rw [frT_zero]
              refine hp ⟨⟨o.o.dst, o.o.op, o.o.type, none⟩, fr, v⟩ ?_ ?_ j (by omega)
              · unfold dPend; rw [hw, he]; exact List.mem_cons_self
              · rw [h1] at hdo ⊢; exact hdo
        | succ i =>
          simp only [List.getElem?_cons_succ] at hi
          rcases hs i dp hi with ⟨g1, f⟩ | ⟨g1, g2, g3⟩
          · have hpast : ∀ τ, τ ∈ past → τ ∈ dPast o past σ := fun τ hτ => by
              unfold dPast; cases o.eff
              · exact hτ
              · exact List.mem_cons_of_mem _ hτ
            refine .inl ⟨g1, ⟨f.does, f.still, fun he hb => ⟨fun τ hτ => (f.back he hb).1 τ (hpast τ hτ), fun j hj => ?_⟩, fun he hw j hj hn => ?_⟩⟩
            · cases j with
              | zero =>
                cases hoe : o.eff
                · unfold dNext at hnx; rw [hoe] at hnx
                  have := (f.back he hb).2 0 (Nat.zero_le _)
                  rw [hnx.1] at this; exact this
                · exact (f.back he hb).1 σ (by unfold dPast; rw [hoe]; exact List.mem_cons_self)
              | succ j => exact (f.back he hb).2 j (by omega)
            · cases j with
              | zero => omega
              | succ j => exact f.fwd he hw j (by omega) (by omega)
          · exact .inr ⟨g1, g2, g3⟩
    unfold DOps at hh
    split at hh
    · rename_i hg
      exact run (.opn hg) hh
    · rename_i g b hg
      unfold gateA at hh
      split at hh
      · rename_i c hc
        cases hcb : c == b
        · rw [hcb] at hh
          exact skip (hcb ▸ .att hg hc) hh
        · rw [hcb] at hh
          exact run (hcb ▸ .att hg hc) hh
      · rename_i hc
        exact skip (.un hg hc) hh
      · exact hh.elim

/- an operation looks at its operands alone -/
theorem map_congr_mem {xs : Array Operand} {fr fr' : FR} (hx : ∀ x, x ∈ xs → aeval fr x = aeval fr' x) : xs.toList.map (aeval fr) = xs.toList.map (aeval fr') :=
  List.map_congr_left fun x hm => hx x (by simpa using hm)
theorem parts_congr {ps : Array (Nat × Operand)} {fr fr' : FR} (hx : ∀ x, x ∈ ps.map (·.2) → aeval fr x = aeval fr' x) : (ps.toList.map fun p => (p.1, aeval fr p.2)) = ps.toList.map fun p => (p.1, aeval fr' p.2) :=
  List.map_congr_left fun p hm => by rw [hx p.2 (Array.mem_map.2 ⟨p, by simpa using hm, rfl⟩)]

theorem evalOp_fr {hh : Hint} {tt : Nat} {op : Op} {fr fr' : FR} {σ : ST} (hx : ∀ x, x ∈ op.operands → aeval fr x = aeval fr' x) : evalOp P hh tt fr σ op = evalOp P hh tt fr' σ op := by
  cases op <;> simp only [Op.operands] at hx <;> try rfl
  case move x => simp only [evalOp, hx x (by simp)]
  case assign x => simp only [evalOp, hx x (by simp)]
  case pick c a b => simp only [evalOp, hx c (by simp), hx a (by simp), hx b (by simp)]
  case box t x => simp only [evalOp, hx x (by simp)]
  case build t ps => simp only [evalOp]; rw [parts_congr (ps := ps) fun x hm => hx x (by simpa using hm)]
  case buildSlice t n ps => simp only [evalOp]; rw [parts_congr (ps := ps) fun x hm => hx x (by simpa using hm)]
  case load t x => simp only [evalOp, hx x (by simp)]
  case store t x y => simp only [evalOp, hx x (by simp), hx y (by simp)]
  case nilCheck x => simp only [evalOp, hx x (by simp)]
  case binOp o t x y u => simp only [evalOp, hx x (by simp), hx y (by simp)]
  case unOp o t x => simp only [evalOp, hx x (by simp)]
  case convert s d x => simp only [evalOp, hx x (by simp)]
  case makeInterface t x => simp only [evalOp, hx x (by simp)]
  case makeFunc f a b => simp only [evalOp]; rw [map_congr_mem (xs := a) fun x hm => hx x (by simp [hm]), map_congr_mem (xs := b) fun x hm => hx x (by simp [hm])]
  case makeSlice t x y => simp only [evalOp, hx x (by simp), hx y (by simp)]
  case slice t x lo hi mx =>
    cases mx with
    | some m => rfl
    | none =>
      simp only [evalOp, hx x (by simp)]
      congr 1
      · cases lo with
        | none => rfl
        | some y => simp only [Option.map_some, hx y (by simp)]
      · cases hi with
        | none => rfl
        | some y => simp only [Option.map_some, hx y (by simp)]
  case fieldAddr t x f => simp only [evalOp, hx x (by simp)]
  case field t x f => simp only [evalOp, hx x (by simp)]
  case indexAddr t x y => simp only [evalOp, hx x (by simp), hx y (by simp)]
  case index t x y => simp only [evalOp, hx x (by simp), hx y (by simp)]
  case extract x i => simp only [evalOp, hx x (by simp)]
  case range t x => simp only [evalOp, hx x (by simp)]
  case makeMap t r => cases r <;> rfl
  case lookup t x k ok => simp only [evalOp, hx x (by simp), hx k (by simp)]
  case mapUpdate t m k x => simp only [evalOp, hx m (by simp), hx k (by simp), hx x (by simp)]
  case next x b => simp only [evalOp, hx x (by simp)]
  case call c =>
    obtain ⟨callee, args, ts⟩ := c
    cases callee with
    | builtin b => simp only [evalOp]; rw [map_congr_mem fun x hm => hx x (by simp [Call.operands, hm])]
    | value f => rfl
    | invoke r m => rfl

theorem Does.fr {o : POp} {fr fr' : FR} {σ σ' : ST} {v : AV} (hx : ∀ x, x ∈ o.op.operands → aeval fr x = aeval fr' x) (hd : Does P h o fr σ v σ') : Does P h o fr' σ v σ' := by
  unfold Does AOp at *
  split at hd
  · rename_i x hop
    rw [hop] at hx
    rw [← hx x (by simp [Op.operands])]
    exact hd
  · rename_i s d x hop
    rw [hop] at hx
    rw [← hx x (by simp [Op.operands])]
    exact hd
  · rename_i f args ts hop
    rw [hop] at hx
    rw [← hx f (by simp [Op.operands, Call.operands]), ← map_congr_mem fun x hm => hx x (by simp [Op.operands, Call.operands, hm])]
    exact hd
  · rw [← evalOp_fr hx]; exact hd
end
end Nv
