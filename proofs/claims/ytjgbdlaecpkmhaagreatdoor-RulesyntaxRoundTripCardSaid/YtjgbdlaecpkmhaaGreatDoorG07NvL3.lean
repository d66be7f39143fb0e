/- Part of a proof about the functions of this seat. -/
import Derived.Test.YtjgbdlaecpkmhaaGreatDoorG06NvL
import Derived.Orders
/- Regions whose order is open: what an evaluation in the order of the text gives. -/

set_option linter.unusedVariables false
set_option linter.unusedSimpArgs false
namespace Nv
open Go

section
variable {P : Program} {h : Nat → Hint}

theorem Res.split {r : Res} {R : AV → ST → Prop} (hh : r.dholds R) : ∃ v σ', r.holds (fun v' τ => v' = v ∧ τ = σ') ∧ R v σ' := by
  induction r with
  | ok v σ => exact ⟨v, σ, ⟨rfl, rfl⟩, hh⟩
  | need p r ih => obtain ⟨v, σ', h1, h2⟩ := ih hh.2; exact ⟨v, σ', ⟨hh.1, h1⟩, h2⟩
  | both a b => exact hh.elim
  | bad => exact hh.elim

/-- What an operation comes to, and the store after it. -/
def Does (P : Program) (h : Nat → Hint) (o : POp) (fr : FR) (σ : ST) (v : AV) (σ' : ST) : Prop := AOp P h o (fun v' τ => v' = v ∧ τ = σ') (fun _ _ => False) fr σ

theorem DOp.split {o : POp} {R : AV → ST → Prop} {fr : FR} {σ : ST} (hh : DOp P h o R fr σ) : ∃ v σ', Does P h o fr σ v σ' ∧ R v σ' := by
  unfold DOp at hh
  unfold Does AOp
  split at hh
  · rename_i f args ts hop
    rw [hop]
    obtain ⟨v, h1, h2⟩ := hh; exact ⟨v, σ, h1, h2⟩
  · rename_i hne
    split
    · rename_i x hop; rw [hop] at hh; exact hh.elim
    · rename_i s d x hop
      rw [hop] at hh
      have hb : rCv P s d (aeval fr x) σ ≠ .bad := fun hb => by
        simp only [evalOp] at hh
        rw [hb, rFin_bad] at hh
        exact hh.elim
      rw [rCvA_of hb]
      exact Res.split hh
    · rename_i f args ts hop; exact absurd hop (hne _ _ _)
    · exact Res.split hh

theorem Again.does {o : POp} {fr : FR} {v : AV} {τ : ST} (hh : Again P h o fr v τ) : Does P h o fr τ v τ := by
  obtain ⟨v', σ', h1, rfl, rfl⟩ := DOp.split hh
  exact h1

def frT : List DP → (Nat → AV) → FR → Nat → FR
  | [], _, fr, _ => fr
  | _, _, fr, 0 => fr
  | o :: l, vs, fr, k + 1 => frT l (fun i => vs (i + 1)) (put fr o.o.dst (vs 0)) k
theorem frT_zero (l : List DP) (vs : Nat → AV) (fr : FR) : frT l vs fr 0 = fr := by cases l <;> rfl
theorem frT_succ : ∀ (l : List DP) (vs : Nat → AV) (fr : FR) (k : Nat) (o : DP), l[k]? = some o → frT l vs fr (k + 1) = put (frT l vs fr k) o.o.dst (vs k)
  | [], _, _, _, _, ho => by simp at ho
  | x :: l, vs, fr, 0, o, ho => by
    simp only [List.getElem?_cons_zero, Option.some.injEq] at ho; subst ho
    simp [frT, frT_zero]
  | x :: l, vs, fr, k + 1, o, ho => by
    simp only [List.getElem?_cons_succ] at ho
    exact frT_succ l _ _ k o ho

/-- Whether an operation is carried out. -/
inductive Gate (o : POp) (fr : FR) : Bool → Prop
  | opn : o.guard = none → Gate o fr true
  | att {g : Nat} {b c : Bool} : o.guard = some (g, b) → fr g = .d (.bool c) → Gate o fr (c == b)
  | un {g : Nat} {b : Bool} : o.guard = some (g, b) → fr g = .tuple [] → Gate o fr false

structure Fact (P : Program) (h : Nat → Hint) (n : Nat) (dp : DP) (fr : FR) (vs : Nat → AV) (ss : Nat → ST) (past : List ST) (i : Nat) : Prop where
  does : Does P h dp.o fr (ss i) (vs i) (ss (i + 1))
  still : dp.eff = false → ss (i + 1) = ss i
  back : dp.eff = false → dp.back = true → (∀ τ, τ ∈ past → Does P h dp.o fr τ (vs i) τ) ∧ ∀ j, j ≤ i → Does P h dp.o fr (ss j) (vs i) (ss j)
  fwd : dp.eff = false → dp.fwd = true → ∀ j, i < j → j ≤ n → Does P h dp.o fr (ss j) (vs i) (ss j)

def Says (P : Program) (h : Nat → Hint) (n : Nat) (dp : DP) (fr : FR) (vs : Nat → AV) (ss : Nat → ST) (past : List ST) (i : Nat) : Prop :=
  (Gate dp.o fr true ∧ Fact P h n dp fr vs ss past i) ∨ (Gate dp.o fr false ∧ vs i = .tuple [] ∧ ss (i + 1) = ss i)

def cons0 {α : Type} (x : α) (f : Nat → α) : Nat → α
  | 0 => x
  | k + 1 => f k

/-- What a region with one operation that changes the store says of each of its operations. -/
def SaysOne (P : Program) (h : Nat → Hint) (σ σ1 : ST) (o : POp) (fr : FR) (v : AV) (hit : Prop) : Prop :=
  (hit ∧ o.guard = none ∧ Does P h o fr σ v σ1) ∨ (¬ hit ∧ ((Gate o fr true ∧ Does P h o fr σ v σ ∧ Does P h o fr σ1 v σ1) ∨ (Gate o fr false ∧ v = .tuple [])))
theorem DPur.split {o : POp} {R : AV → Prop} {fr : FR} {σ σ1 : ST} (hh : DPur P h o R fr σ σ1) : ∃ v, Does P h o fr σ v σ ∧ Does P h o fr σ1 v σ1 ∧ R v := by
  obtain ⟨v, σ', h1, rfl, h2⟩ := DOp.split hh
  obtain ⟨v', σ'', h3, ⟨rfl, rfl⟩, h4⟩ := DOp.split h2
  exact ⟨_, h1, h3, h4⟩
theorem gateA_split {o : POp} {fr : FR} {g : Nat} {b : Bool} (hg : o.guard = some (g, b)) {y n : Prop} (hh : gateA (fr g) b y n) : (Gate o fr true ∧ y) ∨ (Gate o fr false ∧ n) := by
  unfold gateA at hh
  split at hh
  · rename_i c hc
    cases hb : c == b
    · rw [hb] at hh
      have := Gate.att hg hc
      rw [hb] at this
      exact .inr ⟨this, hh⟩
    · rw [hb] at hh
      have := Gate.att hg hc
      rw [hb] at this
      exact .inl ⟨this, hh⟩
  · rename_i hc; exact .inr ⟨.un hg hc, hh⟩
  · exact hh.elim
theorem DOneP.extract {K : FR → Prop} {σ σ1 : ST} : ∀ (l : List DP) (k : Option Nat) (fr : FR), DOneP P h K σ σ1 l k fr →
    ∃ vs : Nat → AV, K (frT l vs fr l.length) ∧ (∀ j, k = some j → j < l.length) ∧ ∀ i dp, l[i]? = some dp → SaysOne P h σ σ1 dp.o (frT l vs fr i) (vs i) (k = some i)
  | [], none, fr, hh => ⟨fun _ => .any, hh, (fun j h => by cases h), (fun i dp hi => by simp at hi)⟩
  | [], some _, _, hh => hh.elim
  | o :: rest, k, fr, hh => by
    have more : ∀ (k' : Option Nat) (v : AV), (∀ i, k = some (i + 1) ↔ k' = some i) → (∀ fr0, fr0 = fr → SaysOne P h σ σ1 o.o fr0 v (k = some 0)) → DOneP P h K σ σ1 rest k' (put fr o.o.dst v) →
        ∃ vs : Nat → AV, K (frT (o :: rest) vs fr (o :: rest).length) ∧ (∀ j, k = some j → j < (o :: rest).length) ∧ ∀ i dp, (o :: rest)[i]? = some dp → SaysOne P h σ σ1 dp.o (frT (o :: rest) vs fr i) (vs i) (k = some i) := by
      intro k' v hk hsay hrest
      obtain ⟨vs, h1, h2, h3⟩ := DOneP.extract rest k' _ hrest
      refine ⟨cons0 v vs, h1, fun j hj => ?_, fun i dp hi => ?_⟩
      · cases j with
        | zero => simp
        | succ j => have := h2 j ((hk j).1 hj); simp; omega
      · cases i with
        | zero =>
          simp only [List.getElem?_cons_zero, Option.some.injEq] at hi; subst hi
          exact hsay _ (frT_zero _ _ _)
        | succ i =>
          simp only [List.getElem?_cons_succ] at hi
          have := h3 i dp hi
          unfold SaysOne at this ⊢
          rw [hk i]; exact this
    match k, hh with
    | some 0, hh =>
      unfold DOneP at hh
      split at hh
      · rename_i hg
        obtain ⟨v, h1, h2⟩ := hh
        exact more none v (fun i => by simp) (fun fr0 e => by subst e; exact .inl ⟨rfl, hg, h1⟩) h2
      · exact hh.elim
    | some (k + 1), hh =>
      unfold DOneP at hh
      split at hh
      · rename_i hg
        obtain ⟨v, h1, h2, h3⟩ := DPur.split hh
        exact more (some k) v (fun i => by simp) (fun fr0 e => by subst e; exact .inr ⟨by simp, .inl ⟨.opn hg, h1, h2⟩⟩) h3
      · rename_i g b hg
        rcases gateA_split hg hh with ⟨h0, hh⟩ | ⟨h0, hh⟩
        · obtain ⟨v, h1, h2, h3⟩ := DPur.split hh
          exact more (some k) v (fun i => by simp) (fun fr0 e => by subst e; exact .inr ⟨by simp, .inl ⟨h0, h1, h2⟩⟩) h3
        · exact more (some k) (.tuple []) (fun i => by simp) (fun fr0 e => by subst e; exact .inr ⟨by simp, .inr ⟨h0, rfl⟩⟩) hh
    | none, hh =>
      unfold DOneP at hh
      split at hh
      · rename_i hg
        obtain ⟨v, h1, h2, h3⟩ := DPur.split hh
        exact more none v (fun i => by simp) (fun fr0 e => by subst e; exact .inr ⟨by simp, .inl ⟨.opn hg, h1, h2⟩⟩) h3
      · rename_i g b hg
        rcases gateA_split hg hh with ⟨h0, hh⟩ | ⟨h0, hh⟩
        · obtain ⟨v, h1, h2, h3⟩ := DPur.split hh
          exact more none v (fun i => by simp) (fun fr0 e => by subst e; exact .inr ⟨by simp, .inl ⟨h0, h1, h2⟩⟩) h3
        · exact more none (.tuple []) (fun i => by simp) (fun fr0 e => by subst e; exact .inr ⟨by simp, .inr ⟨h0, rfl⟩⟩) hh

theorem DOps.extract {K : FR → ST → Prop} : ∀ (l : List DP) (past : List ST) (pend : List PD) (fr : FR) (σ : ST), DOps P h K l past pend fr σ →
    ∃ (vs : Nat → AV) (ss : Nat → ST), ss 0 = σ ∧ K (frT l vs fr l.length) (ss l.length) ∧ (∀ p, p ∈ pend → Does P h p.o p.fr σ p.v σ → ∀ j, j ≤ l.length → Does P h p.o p.fr (ss j) p.v (ss j)) ∧
      ∀ i dp, l[i]? = some dp → Says P h l.length dp (frT l vs fr i) vs ss past i
  | [], past, pend, fr, σ, hh => ⟨fun _ => .any, fun _ => σ, rfl, hh, fun p _ hok j _ => hok, fun i dp hi => by simp at hi⟩
  | o :: rest, past, pend, fr, σ, hh => by
    have skip : Gate o.o fr false → DOps P h K rest past pend (put fr o.o.dst (.tuple [])) σ →
        ∃ (vs : Nat → AV) (ss : Nat → ST), ss 0 = σ ∧ K (frT (o :: rest) vs fr (rest.length + 1)) (ss (rest.length + 1)) ∧ (∀ p, p ∈ pend → Does P h p.o p.fr σ p.v σ → ∀ j, j ≤ rest.length + 1 → Does P h p.o p.fr (ss j) p.v (ss j)) ∧
          ∀ i dp, (o :: rest)[i]? = some dp → Says P h (rest.length + 1) dp (frT (o :: rest) vs fr i) vs ss past i := by
      intro hg hd
      obtain ⟨vs, ss, h0, hK, hp, hs⟩ := extract rest _ _ _ _ hd
      refine ⟨cons0 (.tuple []) vs, cons0 σ ss, rfl, hK, fun p hpm hok j hj => ?_, fun i dp hi => ?_⟩
      · cases j with
        | zero => exact hok
        | succ j => exact hp p hpm hok j (by omega)
      · cases i with
        | zero =>
          simp only [List.getElem?_cons_zero, Option.some.injEq] at hi; subst hi
          exact .inr ⟨by rw [frT_zero]; exact hg, rfl, h0⟩
        | succ i =>
          simp only [List.getElem?_cons_succ] at hi
          rcases hs i dp hi with ⟨g1, f⟩ | ⟨g1, g2, g3⟩
          · refine .inl ⟨g1, ⟨f.does, f.still, fun he hb => ⟨(f.back he hb).1, fun j hj => ?_⟩, fun he hw j hj hn => ?_⟩⟩
            · cases j with
              | zero => have := (f.back he hb).2 0 (Nat.zero_le _); rw [h0] at this; exact this
              | succ j => exact (f.back he hb).2 j (by omega)
            · cases j with
              | zero => omega
              | succ j => exact f.fwd he hw j (by omega) (by omega)
          · exact .inr ⟨g1, g2, g3⟩
    have run : Gate o.o fr true → DOp P h o.o (fun v σ' => dNext P h o past pend fr σ v σ' ∧ DOps P h K rest (dPast o past σ) (dPend o pend fr v) (put fr o.o.dst v) σ') fr σ →
        ∃ (vs : Nat → AV) (ss : Nat → ST), ss 0 = σ ∧ K (frT (o :: rest) vs fr (rest.length + 1)) (ss (rest.length + 1)) ∧ (∀ p, p ∈ pend → Does P h p.o p.fr σ p.v σ → ∀ j, j ≤ rest.length + 1 → Does P h p.o p.fr (ss j) p.v (ss j)) ∧
          ∀ i dp, (o :: rest)[i]? = some dp → Says P h (rest.length + 1) dp (frT (o :: rest) vs fr i) vs ss past i := by
      intro hg hd
      obtain ⟨v, σ', hdo, hnx, hrest⟩ := DOp.split hd
      obtain ⟨vs, ss, h0, hK, hp, hs⟩ := extract rest _ _ _ _ hrest
      subst h0
      have hsub : ∀ p, p ∈ pend → p ∈ dPend o pend fr v := fun p hpm => by
        unfold dPend; cases o.fwd && !o.eff
        · exact hpm
        · exact List.mem_cons_of_mem _ hpm
      refine ⟨cons0 v vs, cons0 σ ss, rfl, hK, fun p hpm hok j hj => ?_, fun i dp hi => ?_⟩
      · cases j with
        | zero => exact hok
        | succ j =>
          refine hp p (hsub p hpm) ?_ j (by omega)
          unfold dNext at hnx
          cases he : o.eff
          · rw [he] at hnx; rw [hnx.1]; exact hok
          · rw [he] at hnx; exact Again.does (hnx p hpm)
      · cases i with
        | zero =>
          simp only [List.getElem?_cons_zero, Option.some.injEq] at hi; subst hi
          refine .inl ⟨by rw [frT_zero]; exact hg, ⟨by rw [frT_zero]; exact hdo, fun he => ?_, fun he hb => ⟨fun τ hτ => ?_, fun j hj => ?_⟩, fun he hw j hj hn => ?_⟩⟩
          · unfold dNext at hnx; rw [he] at hnx; exact hnx.1
          · unfold dNext at hnx; rw [he] at hnx; rw [frT_zero]; exact Again.does (hnx.2 hb τ hτ)
          · cases j with
            | zero =>
              unfold dNext at hnx; rw [he] at hnx
              have h1 := hnx.1
              rw [frT_zero]
              rw [h1] at hdo
              exact hdo
            | succ j => omega
          · cases j with
            | zero => omega
            | succ j =>
              unfold dNext at hnx; rw [he] at hnx
              have h1 := hnx.1
              rw [frT_zero]
              refine hp ⟨⟨o.o.dst, o.o.op, o.o.type, none⟩, fr, v⟩ ?_ ?_ j (by omega)
              · unfold dPend; rw [hw, he]; exact List.mem_cons_self
              · rw [h1] at hdo ⊢; exact hdo
        | succ i =>
          simp only [List.getElem?_cons_succ] at hi
          rcases hs i dp hi with ⟨g1, f⟩ | ⟨g1, g2, g3⟩
          · have hpast : ∀ τ, τ ∈ past → τ ∈ dPast o past σ := fun τ hτ => by
              unfold dPast; cases o.eff
              · exact hτ
              · exact List.mem_cons_of_mem _ hτ
            refine .inl ⟨g1, ⟨f.does, f.still, fun he hb => ⟨fun τ hτ => (f.back he hb).1 τ (hpast τ hτ), fun j hj => ?_⟩, fun he hw j hj hn => ?_⟩⟩
            · cases j with
              | zero =>
                cases hoe : o.eff
                · unfold dNext at hnx; rw [hoe] at hnx
                  have := (f.back he hb).2 0 (Nat.zero_le _)
                  rw [hnx.1] at this; exact this
                · exact (f.back he hb).1 σ (by unfold dPast; rw [hoe]; exact List.mem_cons_self)
              | succ j => exact (f.back he hb).2 j (by omega)
            · cases j with
              | zero => omega
              | succ j => exact f.fwd he hw j (by omega) (by omega)
          · exact .inr ⟨g1, g2, g3⟩
    unfold DOps at hh
    split at hh
    · rename_i hg
      exact run (.opn hg) hh
    · rename_i g b hg
      unfold gateA at hh
      split at hh
      · rename_i c hc
        cases hcb : c == b
        · rw [hcb] at hh
          exact skip (hcb ▸ .att hg hc) hh
        · rw [hcb] at hh
          exact run (hcb ▸ .att hg hc) hh
      · rename_i hc
        exact skip (.un hg hc) hh
      · exact hh.elim

/- an operation looks at its operands alone -/
theorem map_congr_mem {xs : Array Operand} {fr fr' : FR} (hx : ∀ x, x ∈ xs → aeval fr x = aeval fr' x) : xs.toList.map (aeval fr) = xs.toList.map (aeval fr') :=
  List.map_congr_left fun x hm => hx x (by simpa using hm)
theorem parts_congr {ps : Array (Nat × Operand)} {fr fr' : FR} (hx : ∀ x, x ∈ ps.map (·.2) → aeval fr x = aeval fr' x) : (ps.toList.map fun p => (p.1, aeval fr p.2)) = ps.toList.map fun p => (p.1, aeval fr' p.2) :=
  List.map_congr_left fun p hm => by rw [hx p.2 (Array.mem_map.2 ⟨p, by simpa using hm, rfl⟩)]

theorem evalOp_fr {hh : Hint} {tt : Nat} {op : Op} {fr fr' : FR} {σ : ST} (hx : ∀ x, x ∈ op.operands → aeval fr x = aeval fr' x) : evalOp P hh tt fr σ op = evalOp P hh tt fr' σ op := by
  cases op <;> simp only [Op.operands] at hx <;> try rfl
  case move x => simp only [evalOp, hx x (by simp)]
  case assign x => simp only [evalOp, hx x (by simp)]
  case pick c a b => simp only [evalOp, hx c (by simp), hx a (by simp), hx b (by simp)]
  case box t x => simp only [evalOp, hx x (by simp)]
  case build t ps => simp only [evalOp]; rw [parts_congr (ps := ps) fun x hm => hx x (by simpa using hm)]
  case buildSlice t n ps => simp only [evalOp]; rw [parts_congr (ps := ps) fun x hm => hx x (by simpa using hm)]
  case load t x => simp only [evalOp, hx x (by simp)]
  case store t x y => simp only [evalOp, hx x (by simp), hx y (by simp)]
  case nilCheck x => simp only [evalOp, hx x (by simp)]
  case binOp o t x y u => simp only [evalOp, hx x (by simp), hx y (by simp)]
  case unOp o t x => simp only [evalOp, hx x (by simp)]
  case convert s d x => simp only [evalOp, hx x (by simp)]
  case makeInterface t x => simp only [evalOp, hx x (by simp)]
  case makeFunc f a b => simp only [evalOp]; rw [map_congr_mem (xs := a) fun x hm => hx x (by simp [hm]), map_congr_mem (xs := b) fun x hm => hx x (by simp [hm])]
  case makeSlice t x y => simp only [evalOp, hx x (by simp), hx y (by simp)]
  case slice t x lo hi mx =>
    cases mx with
    | some m => rfl
    | none =>
      simp only [evalOp, hx x (by simp)]
      congr 1
      · cases lo with
        | none => rfl
        | some y => simp only [Option.map_some, hx y (by simp)]
      · cases hi with
        | none => rfl
        | some y => simp only [Option.map_some, hx y (by simp)]
  case fieldAddr t x f => simp only [evalOp, hx x (by simp)]
  case field t x f => simp only [evalOp, hx x (by simp)]
  case indexAddr t x y => simp only [evalOp, hx x (by simp), hx y (by simp)]
  case index t x y => simp only [evalOp, hx x (by simp), hx y (by simp)]
  case extract x i => simp only [evalOp, hx x (by simp)]
  case range t x => simp only [evalOp, hx x (by simp)]
  case makeMap t r => cases r <;> rfl
  case typeAssert x u t ok => simp only [evalOp, hx x (by simp)]
  case lookup t x k ok => simp only [evalOp, hx x (by simp), hx k (by simp)]
  case mapUpdate t m k x => simp only [evalOp, hx m (by simp), hx k (by simp), hx x (by simp)]
  case insert t m k x => simp only [evalOp, hx m (by simp), hx k (by simp), hx x (by simp)]
  case next x b => simp only [evalOp, hx x (by simp)]
  case call c =>
    obtain ⟨callee, args, ts⟩ := c
    cases callee with
    | builtin b => simp only [evalOp]; rw [map_congr_mem fun x hm => hx x (by simp [Call.operands, hm])]
    | value f => rfl
    | invoke r m => rfl

theorem Does.fr {o : POp} {fr fr' : FR} {σ σ' : ST} {v : AV} (hx : ∀ x, x ∈ o.op.operands → aeval fr x = aeval fr' x) (hd : Does P h o fr σ v σ') : Does P h o fr' σ v σ' := by
  unfold Does AOp at *
  split at hd
  · rename_i x hop
    rw [hop] at hx
    rw [← hx x (by simp [Op.operands])]
    exact hd
  · rename_i s d x hop
    rw [hop] at hx
    rw [← hx x (by simp [Op.operands])]
    exact hd
  · rename_i f args ts hop
    rw [hop] at hx
    rw [← hx f (by simp [Op.operands, Call.operands]), ← map_congr_mem fun x hm => hx x (by simp [Op.operands, Call.operands, hm])]
    exact hd
  · rw [← evalOp_fr hx]; exact hd
end
end Nv
/- Regions whose order is open: every order comes to what the order of the text comes to. -/


set_option linter.unusedVariables false
set_option linter.unusedSimpArgs false
namespace Nv
open Go

def edgesOK (ops : Array Oper) : Bool := (List.range ops.size).all fun i => match ops[i]? with
  | some o => o.after.toList.all fun e => !(Region.binds .any e) || Nat.blt e.on i
  | none => true
def pairOK (ops : Array Oper) (ms : List Nat) (i j : Nat) : Bool := match ops[i]?, ops[j]? with
  | some x, some y =>
    (match x.dst with | some d => !(y.dst == some d) && (!(y.looksAt ops).contains d || forced ms i j) | none => true) &&
    (match y.dst with | some d => !(x.looksAt ops).contains d || forced ms i j | none => true) &&
    (!(isEff x.op && isEff y.op) || forced ms i j)
  | _, _ => true
def pairsOK (ops : Array Oper) (ms : List Nat) : Bool := (List.range ops.size).all fun j => (List.range j).all fun i => pairOK ops ms i j
def drawOK (ops : Array Oper) : Bool := edgesOK ops && pairsOK ops (masks ops.toList [])

theorem testBit_maskOf {acc : List Nat} {j : Nat} : ∀ {es : List Edge}, (maskOf acc es).testBit j = true → ∃ e, e ∈ es ∧ Region.binds .any e = true ∧ (j = e.on ∨ (acc.getD e.on 0).testBit j = true)
  | [], hj => by simp [maskOf] at hj
  | e :: es, hj => by
    have hrec : (maskOf acc es).testBit j = true → ∃ e', e' ∈ e :: es ∧ Region.binds .any e' = true ∧ (j = e'.on ∨ (acc.getD e'.on 0).testBit j = true) := fun h => by
      obtain ⟨e', h1, h2⟩ := testBit_maskOf h
      exact ⟨e', List.mem_cons_of_mem _ h1, h2⟩
    have hunf : maskOf acc (e :: es) = bif Region.binds .any e then maskOf acc es ||| (1 <<< e.on) ||| acc.getD e.on 0 else maskOf acc es := rfl
    rw [hunf] at hj
    cases hb : Region.binds .any e
    · rw [hb] at hj; exact hrec hj
    · rw [hb] at hj
      simp only [cond_true, Nat.testBit_or, Bool.or_eq_true] at hj
      rcases hj with (hj | hj) | hj
      · exact hrec hj
      · refine ⟨e, List.mem_cons_self, hb, .inl ?_⟩
        rw [Nat.one_shiftLeft, Nat.testBit_two_pow] at hj
        exact (of_decide_eq_true hj).symm
      · exact ⟨e, List.mem_cons_self, hb, .inr hj⟩

theorem masks_ok {S : Nat → Prop} : ∀ (l : List Oper) (acc : List Nat), (∀ k o, l[k]? = some o → S (acc.length + k) → ∀ e, e ∈ o.after.toList → Region.binds .any e = true → S e.on) →
    (∀ i m, acc[i]? = some m → S i → ∀ j, m.testBit j = true → S j) → ∀ i m, (masks l acc)[i]? = some m → S i → ∀ j, m.testBit j = true → S j
  | [], acc, _, h => h
  | o :: l, acc, hc, h => by
    refine masks_ok l _ (fun k o' hk hS => hc (k + 1) o' (by simpa using hk) (by simpa [Nat.add_assoc, Nat.add_comm 1 k] using hS)) (fun i m hi hS j hj => ?_)
    rcases Nat.lt_trichotomy i acc.length with hlt | heq | hgt
    · rw [List.getElem?_append_left hlt] at hi; exact h i m hi hS j hj
    · subst heq
      rw [List.getElem?_append_right (Nat.le_refl _)] at hi
      simp at hi; subst hi
      obtain ⟨e, h1, h2, h3⟩ := testBit_maskOf hj
      have hSe := hc 0 o rfl (by simpa using hS) e h1 h2
      rcases h3 with rfl | h3
      · exact hSe
      · have : ∃ m, acc[e.on]? = some m ∧ m.testBit j = true := by
          rw [List.getD_eq_getElem?_getD] at h3
          cases hm : acc[e.on]? with
          | none => rw [hm] at h3; simp at h3
          | some m => rw [hm] at h3; exact ⟨m, rfl, h3⟩
        obtain ⟨m, hm1, hm2⟩ := this
        exact h _ m hm1 hSe j hm2
    · rw [List.getElem?_eq_none (by simp; omega)] at hi; cases hi

/-- What a listing has run is closed. -/
def ClosedL (ops : Array Oper) (listed : Array Bool) : Prop :=
  ∀ i o, ops[i]? = some o → listed.getD i false = true → ∀ e, e ∈ o.after → Region.binds .any e = true → listed.getD e.on false = true

theorem forced_spec {ops : Array Oper} {listed : Array Bool} (hc : ClosedL ops listed) {j i : Nat} (hf : forced (masks ops.toList []) j i = true) (hi : listed.getD i false = true) : listed.getD j false = true := by
  unfold forced at hf
  rw [List.getD_eq_getElem?_getD] at hf
  cases hm : (masks ops.toList [])[i]? with
  | none => rw [hm] at hf; simp at hf
  | some m =>
    rw [hm] at hf
    exact masks_ok (S := fun i => listed.getD i false = true) ops.toList [] (fun k o hk hS e he hb => hc k o (by simpa using hk) (by simpa using hS) e (by simpa using he) hb) (fun i m hi => by simp at hi) i m hm hi j hf

/-- The same of an operation that may run next: what it needs has run. -/
theorem forced_ready {ops : Array Oper} {listed : Array Bool} (hc : ClosedL ops listed) {j i : Nat} (hsz : listed.size = ops.size) (hr : i ∈ Region.ready .any ops listed) (hf : forced (masks ops.toList []) j i = true) (hne : j ≠ i) : listed.getD j false = true := by
  obtain ⟨h0, o, ho, hall⟩ := mem_ready.1 hr
  have hlt : i < ops.size := (Array.getElem?_eq_some_iff.1 ho).1
  have hc' : ClosedL ops (listed.setIfInBounds i true) := by
    intro k o' ho' hk e he hb
    by_cases hki : k = i
    · subst hki
      rw [ho] at ho'; cases ho'
      exact getD_set_true (hall e he hb)
    · rw [getD_set_ne false (Ne.symm hki)] at hk
      exact getD_set_true (hc k o' ho' hk e he hb)
  have := forced_spec hc' hf (by simp [hsz, hlt])
  rw [getD_set_ne false (Ne.symm hne)] at this
  exact this

theorem closed_set {ops : Array Oper} {listed : Array Bool} (hc : ClosedL ops listed) {i : Nat} (hr : i ∈ Region.ready .any ops listed) : ClosedL ops (listed.setIfInBounds i true) := by
  obtain ⟨h0, o, ho, hall⟩ := mem_ready.1 hr
  intro k o' ho' hk e he hb
  by_cases hki : k = i
  · subst hki
    rw [ho] at ho'; cases ho'
    exact getD_set_true (hall e he hb)
  · rw [getD_set_ne false (Ne.symm hki)] at hk
    exact getD_set_true (hc k o' ho' hk e he hb)

theorem all_listed {ops : Array Oper} {listed : Array Bool} (he : edgesOK ops = true) (hsz : listed.size = ops.size) (hr : Region.ready .any ops listed = []) : ∀ i, i < ops.size → listed.getD i false = true := by
  intro i
  induction i using Nat.strongRecOn with
  | _ i ih =>
    intro hi
    cases hl : listed.getD i false
    · exfalso
      have : i ∈ Region.ready .any ops listed := by
        refine mem_ready.2 ⟨?_, ops[i], Array.getElem?_eq_getElem hi, fun e hem hb => ?_⟩
        · have h1 : i < listed.size := by rw [hsz]; exact hi
          simp [h1] at hl ⊢; exact hl
        · have h1 := List.all_eq_true.1 he i (List.mem_range.2 hi)
          rw [Array.getElem?_eq_getElem hi] at h1
          have h2 := List.all_eq_true.1 h1 e (by simpa using hem)
          rw [hb] at h2
          simp only [Bool.not_true, Bool.false_or] at h2
          have hlt : e.on < i := by simpa using h2
          exact ih e.on hlt (Nat.lt_trans hlt hi)
      rw [hr] at this; cases this
    · rfl

def unl (listed : Array Bool) (n : Nat) : Nat := (List.range n).countP fun i => !listed.getD i false

theorem countP_lt {l : List Nat} {p q : Nat → Bool} (hpq : ∀ x, x ∈ l → p x = true → q x = true) {y : Nat} (hy : y ∈ l) (hq : q y = true) (hp : p y = false) : l.countP p < l.countP q := by
  induction l with
  | nil => cases hy
  | cons x l ih =>
    have hle : l.countP p ≤ l.countP q := List.countP_mono_left fun z hz => hpq z (List.mem_cons_of_mem _ hz)
    rcases List.mem_cons.1 hy with rfl | hy
    · rw [List.countP_cons_of_neg (by simp [hp]), List.countP_cons_of_pos hq]; omega
    · have := ih (fun z hz => hpq z (List.mem_cons_of_mem _ hz)) hy
      have hx := hpq x List.mem_cons_self
      cases hpx : p x
      · rw [List.countP_cons_of_neg (by simp [hpx])]
        cases hqx : q x
        · rw [List.countP_cons_of_neg (by simp [hqx])]; exact this
        · rw [List.countP_cons_of_pos hqx]; omega
      · rw [List.countP_cons_of_pos hpx, List.countP_cons_of_pos (hx hpx)]; omega

theorem unl_set {listed : Array Bool} {n i : Nat} (hsz : listed.size = n) (hi : i < n) (hl : listed.getD i true = false) : unl (listed.setIfInBounds i true) n < unl listed n := by
  refine countP_lt (y := i) (fun x hx hp => ?_) (List.mem_range.2 hi) ?_ ?_
  · by_cases hxi : i = x
    · subst hxi; simp [hsz, hi] at hp
    · rw [getD_set_ne false hxi] at hp; exact hp
  · have : i < listed.size := by omega
    simp [this] at hl ⊢; exact hl
  · simp [hsz, hi]

/- frames by what has run -/
def wr (ops : Array Oper) (t : Nat) : Option Nat := (List.range ops.size).find? fun j => match ops[j]? with | some o => o.dst == some t | none => false

def frS (ops : Array Oper) (vs : Nat → AV) (fr : FR) (S : Nat → Bool) : FR := fun t =>
  match wr ops t with
  | some j => bif S j then vs j else fr t
  | none => fr t

theorem wr_some {ops : Array Oper} {t j : Nat} (hw : wr ops t = some j) : ∃ o, ops[j]? = some o ∧ o.dst = some t := by
  unfold wr at hw
  have := List.find?_some hw
  split at this
  · rename_i o ho; exact ⟨o, ho, by simpa using this⟩
  · cases this

theorem wr_none {ops : Array Oper} {t j : Nat} {o : Oper} (hw : wr ops t = none) (ho : ops[j]? = some o) : o.dst ≠ some t := by
  unfold wr at hw
  have := List.find?_eq_none.1 hw j (List.mem_range.2 (Array.getElem?_eq_some_iff.1 ho).1)
  rw [ho] at this
  simpa using this

theorem pair_at {ops : Array Oper} {ms : List Nat} (hp : pairsOK ops ms = true) {i j : Nat} (hij : i < j) (hj : j < ops.size) : pairOK ops ms i j = true :=
  List.all_eq_true.1 (List.all_eq_true.1 hp j (List.mem_range.2 hj)) i (List.mem_range.2 hij)

theorem pair_spec {ops : Array Oper} {ms : List Nat} (hp : pairsOK ops ms = true) {i j : Nat} {x y : Oper} (hi : ops[i]? = some x) (hj : ops[j]? = some y) (hij : i < j) :
    (∀ d, x.dst = some d → y.dst ≠ some d) ∧ (∀ d, x.dst = some d → d ∈ y.looksAt ops → forced ms i j = true) ∧ (∀ d, y.dst = some d → d ∈ x.looksAt ops → forced ms i j = true) ∧
    (isEff x.op = true → isEff y.op = true → forced ms i j = true) := by
  have h := pair_at hp hij (Array.getElem?_eq_some_iff.1 hj).1
  unfold pairOK at h
  rw [hi, hj] at h
  simp only [Bool.and_eq_true] at h
  obtain ⟨⟨h1, h2⟩, h3⟩ := h
  refine ⟨fun d hd => ?_, fun d hd hm => ?_, fun d hd hm => ?_, fun hx hy => ?_⟩
  · rw [hd] at h1; simp only [Bool.and_eq_true] at h1
    intro he; rw [he] at h1; simp at h1
  · rw [hd] at h1; simp only [Bool.and_eq_true, Bool.or_eq_true] at h1
    rcases h1.2 with h4 | h4
    · simp [hm] at h4
    · exact h4
  · rw [hd] at h2; simp only [Bool.or_eq_true] at h2
    rcases h2 with h4 | h4
    · simp [hm] at h4
    · exact h4
  · rw [hx, hy] at h3; simpa using h3

theorem wr_of {ops : Array Oper} {ms : List Nat} (hp : pairsOK ops ms = true) {t j : Nat} {o : Oper} (ho : ops[j]? = some o) (hd : o.dst = some t) : wr ops t = some j := by
  cases hw : wr ops t with
  | none => exact absurd hd (wr_none hw ho)
  | some k =>
    obtain ⟨o', ho', hd'⟩ := wr_some hw
    rcases Nat.lt_trichotomy k j with h | h | h
    · exact absurd hd ((pair_spec hp ho' ho h).1 t hd')
    · rw [h]
    · exact absurd hd' ((pair_spec hp ho ho' h).1 t hd)

theorem frS_put {ops : Array Oper} {ms : List Nat} (hp : pairsOK ops ms = true) {vs : Nat → AV} {fr : FR} {S S' : Nat → Bool} {i : Nat} {o : Oper} (ho : ops[i]? = some o)
    (hS : ∀ k, S' k = (S k || k == i)) : frS ops vs fr S' = put (frS ops vs fr S) o.dst (vs i) := by
  funext t
  have hother : o.dst ≠ some t → frS ops vs fr S' t = frS ops vs fr S t := by
    intro hd
    unfold frS
    split
    · rename_i j hw
      obtain ⟨o', ho', hd'⟩ := wr_some hw
      have hji : j ≠ i := fun e => by subst e; rw [ho] at ho'; cases ho'; exact hd hd'
      rw [hS j]
      have : (j == i) = false := by simp [hji]
      rw [this, Bool.or_false]
    · rfl
  cases hd : o.dst with
  | none => rw [hother (by simp [hd])]; rfl
  | some d =>
    by_cases hdt : t = d
    · subst hdt
      have hw := wr_of hp ho hd
      simp only [frS, hw, put, hS, beq_self_eq_true, Bool.or_true, cond_true]
      simp
    · rw [hother (by rw [hd]; simp; exact fun e => hdt e.symm)]
      have : Nat.beq t d = false := by cases hb : Nat.beq t d; rfl; exact absurd (Nat.eq_of_beq_eq_true hb) hdt
      simp only [put, this]
      rfl

theorem frS_none (ops : Array Oper) (vs : Nat → AV) (fr : FR) : frS ops vs fr (fun _ => false) = fr := by
  funext t
  unfold frS
  split <;> rfl

theorem prepDraw_get (ops : Array Oper) (i : Nat) (o : Oper) (ho : ops[i]? = some o) : (prepDraw ops)[i]? = some (dpAt ops (masks ops.toList []) i o) := by
  unfold prepDraw
  rw [List.getElem?_mapIdx]
  have : ops.toList[i]? = some o := by rw [Array.getElem?_toList]; exact ho
  rw [this]; rfl
theorem prepDraw_length (ops : Array Oper) : (prepDraw ops).length = ops.size := by simp [prepDraw]

theorem frT_S {ops : Array Oper} {ms : List Nat} (hp : pairsOK ops ms = true) {vs : Nat → AV} {fr : FR} : ∀ k, k ≤ ops.size → frT (prepDraw ops) vs fr k = frS ops vs fr (fun j => Nat.blt j k)
  | 0, _ => by
    rw [frT_zero]
    have : (fun j => Nat.blt j 0) = fun _ => false := by funext j; rfl
    rw [this, frS_none]
  | k + 1, hk => by
    have ho : ops[k]? = some ops[k] := Array.getElem?_eq_getElem hk
    rw [frT_succ _ _ _ k _ (prepDraw_get ops k _ ho), frT_S hp k (by omega)]
    refine (frS_put hp (S := fun j => Nat.blt j k) (S' := fun j => Nat.blt j (k + 1)) ho (fun j => ?_)).symm
    simp only [Nat.blt]
    rw [Bool.eq_iff_iff]
    simp
    omega
end Nv
