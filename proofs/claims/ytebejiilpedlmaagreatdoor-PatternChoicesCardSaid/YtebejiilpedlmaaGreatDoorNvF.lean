/- How the store grows and changes; the operations of the abstract layer that make or write memory: soundness. -/
import Derived.Test.YtebejiilpedlmaaGreatDoorNvE
set_option linter.unusedVariables false
set_option linter.unusedSimpArgs false
namespace Nv
open Go

def updR (ρ : RHO) (b : Nat) (p : Place) : RHO := fun i => if i = b then p else ρ i
@[simp] theorem updR_same (ρ : RHO) (b : Nat) (p : Place) : updR ρ b p b = p := by simp [updR]
theorem updR_ne (ρ : RHO) {b i : Nat} (p : Place) (h : i ≠ b) : updR ρ b p i = ρ i := by simp [updR, h]

section
variable {P : Program} {ρ ρ' : RHO} {σ σ' : ST} {I I' : Nat → Prop} {w w' : World}

theorem RB.step (hr : RS P ρ I w σ) (hs : Step ρ I w σ ρ' I' w' σ') {p : Place} {blk : Blk} (hp : ∀ B, p.blk = some B → w'.heap[B]? = w.heap[B]?) (h : RB ρ σ I w p blk) : RB ρ' σ' I' w' p blk := by
  cases h with
  | box h1 h2 h3 h4 => exact .box h1 (by rw [hp _ h1]; exact h2) h3 (fun j c hj => hs.v hr (h4 j c hj))
  | arrNil h1 h2 => exact .arrNil h1 h2
  | map h1 h2 h3 h4 => exact .map h1 (by rw [hp _ h1]; exact h2) h3 (fun j y hj => let ⟨e, k1, k2, k3⟩ := h4 j y hj; ⟨e, k1, hs.vd hr k2, hs.vd hr k3⟩)
  | iter h1 h2 => exact .iter h1 (by rw [hp _ h1]; exact h2)
  | arr h1 h2 h3 h4 h5 h6 => exact .arr h1 (by rw [hp _ h1]; exact h2) h3 h4 h5 (fun j c hj => hs.vd hr (h6 j c hj))
  | dead => exact .dead

theorem lives_heap (hr : RS P ρ I w σ) {B : Nat} (h : Lives ρ σ B) : B < w.heap.size := by
  obtain ⟨i, blk, h1, h2, h3⟩ := h
  have key : ∀ {o}, w.heap[B]? = some o → B < w.heap.size := fun ho => by
    rcases Nat.lt_or_ge B w.heap.size with h | h
    · exact h
    · simp [Array.getElem?_eq_none h] at ho
  have hb := hr.blk i blk h1
  cases hb with
  | box k1 k2 => rw [h3] at k1; cases k1; exact key k2
  | arrNil k1 => rw [h3] at k1; cases k1
  | map k1 k2 => rw [h3] at k1; cases k1; exact key k2
  | iter k1 k2 => rw [h3] at k1; cases k1; exact key k2
  | arr k1 k2 => rw [h3] at k1; cases k1; exact key k2
  | dead => exact h2.elim

/-- A new block, in the world or in the store alone. -/
theorem step_push (hr : RS P ρ I w σ) (blk : Blk) (p : Place) (hsz : Ext w w') (hold : ∀ b, b < w.heap.size → w'.heap[b]? = w.heap[b]?)
    (hp : ∀ B, p.blk = some B → w.heap.size ≤ B) : Step ρ I w σ (updR ρ σ.length p) I w' (σ ++ [blk]) where
  keep b hb _ := hold b hb
  mono _ h := h
  inew _ h := .inl h
  fpn B h := by
    obtain ⟨i, bl, h1, h2, h3⟩ := h
    rcases Nat.lt_or_ge i σ.length with hi | hi
    · rw [List.getElem?_append_left hi] at h1
      rw [updR_ne _ _ (by omega)] at h3
      exact .inl ⟨i, bl, h1, h2, h3⟩
    · rw [List.getElem?_append_right hi] at h1
      have hi0 : i - σ.length = 0 := by
        rcases Nat.eq_zero_or_pos (i - σ.length) with h | h
        · exact h
        · rw [List.getElem?_eq_none (show [blk].length ≤ i - σ.length from h)] at h1; cases h1
      obtain rfl : i = σ.length := by omega
      rw [updR_same] at h3
      exact .inr (hp B h3)
  hsz := hsz.size
  env := hsz.env
  compat b bl h := by
    have hb : b < σ.length := by rcases Nat.lt_or_ge b σ.length with h' | h'; exact h'; simp [List.getElem?_eq_none h'] at h
    exact ⟨bl, by rw [List.getElem?_append_left hb]; exact h, by rw [updR_ne _ _ (by omega)]; exact Compat.refl _ _⟩

theorem rs_push (hr : RS P ρ I w σ) (blk : Blk) (p : Place) (hsz : Ext w w') (hold : ∀ b, b < w.heap.size → w'.heap[b]? = w.heap[b]?)
    (hp : ∀ B, p.blk = some B → w.heap.size ≤ B) (hb : RB (updR ρ σ.length p) (σ ++ [blk]) I w' p blk) : RS P (updR ρ σ.length p) I w' (σ ++ [blk]) := by
  have hs := step_push (w' := w') hr blk p hsz hold hp
  have split : ∀ i bl, (σ ++ [blk])[i]? = some bl → (i < σ.length ∧ σ[i]? = some bl ∧ updR ρ σ.length p i = ρ i) ∨ (i = σ.length ∧ bl = blk ∧ updR ρ σ.length p i = p) := by
    intro i bl h1
    rcases Nat.lt_or_ge i σ.length with hi | hi
    · rw [List.getElem?_append_left hi] at h1; exact .inl ⟨hi, h1, updR_ne _ _ (by omega)⟩
    · rw [List.getElem?_append_right hi] at h1
      have hi0 : i - σ.length = 0 := by
        rcases Nat.eq_zero_or_pos (i - σ.length) with h | h
        · exact h
        · rw [List.getElem?_eq_none (show [blk].length ≤ i - σ.length from h)] at h1; cases h1
      obtain rfl : i = σ.length := by omega
      simp at h1
      exact .inr ⟨rfl, h1.symm, updR_same _ _ _⟩
  refine ⟨fun i bl h => ?_, fun i j bi bj B hi hj li lj hBi hBj => ?_, fun B hl hI => ?_, fun B hI => Nat.lt_of_lt_of_le (hr.bound B hI) hsz.size, hs.tabs hr⟩
  · rcases split i bl h with ⟨hi, h1, h2⟩ | ⟨_, rfl, h2⟩
    · rw [h2]
      have hrb := hr.blk i bl h1
      by_cases hl : bl.live
      · exact RB.step hr hs (fun B hB => hold B (lives_heap hr ⟨i, bl, h1, hl, hB⟩)) hrb
      · cases bl <;> first | exact .dead | exact absurd trivial hl
    · rw [h2]; exact hb
  · rcases split i bi hi with ⟨h1, h2, h3⟩ | ⟨rfl, rfl, h3⟩ <;> rcases split j bj hj with ⟨k1, k2, k3⟩ | ⟨rfl, rfl, k3⟩
    · rw [h3] at hBi; rw [k3] at hBj; exact hr.inj i j bi bj B h2 k2 li lj hBi hBj
    · rw [h3] at hBi; rw [k3] at hBj
      have := hp B hBj
      have := lives_heap hr ⟨i, bi, h2, li, hBi⟩
      omega
    · rw [h3] at hBi; rw [k3] at hBj
      have := hp B hBi
      have := lives_heap hr ⟨j, bj, k2, lj, hBj⟩
      omega
    · rfl
  · rcases hs.fpn B hl with h | h
    · exact hr.sep B h hI
    · have := hr.bound B hI; omega

/-- A block that is written anew. -/
theorem step_updG (hr : RS P ρ I w σ) {b : Nat} {blk blk' : Blk} (hs : σ[b]? = some blk) (hl : blk.live) (p' : Place) (hc : Compat blk (ρ b) blk' p')
    (hsz : Ext w w') (hold : ∀ c, c < w.heap.size → (ρ b).blk ≠ some c → w'.heap[c]? = w.heap[c]?) (hp : ∀ B', p'.blk = some B' → (ρ b).blk = some B' ∨ w.heap.size ≤ B') :
    Step ρ I w σ (updR ρ b p') I w' (σ.set b blk') where
  keep c hc' hn := hold c hc' (fun h => hn ⟨b, blk, hs, hl, h⟩)
  mono _ h := h
  inew _ h := .inl h
  fpn c h := by
    obtain ⟨i, bl, h1, h2, h3⟩ := h
    by_cases hi : i = b
    · subst hi
      rw [updR_same] at h3
      rcases hp c h3 with h | h
      · exact .inl ⟨i, blk, hs, hl, h⟩
      · exact .inr h
    · rw [List.getElem?_set_ne (by omega)] at h1
      rw [updR_ne _ _ hi] at h3
      exact .inl ⟨i, bl, h1, h2, h3⟩
  hsz := hsz.size
  env := hsz.env
  compat i bl h := by
    by_cases hi : i = b
    · subst hi
      rw [hs] at h; cases h
      have hlt : i < σ.length := by rcases Nat.lt_or_ge i σ.length with h' | h'; exact h'; simp [List.getElem?_eq_none h'] at hs
      exact ⟨blk', by simp [hlt], by rw [updR_same]; exact hc⟩
    · exact ⟨bl, by rw [List.getElem?_set_ne (by omega)]; exact h, by rw [updR_ne _ _ hi]; exact Compat.refl _ _⟩

theorem rs_updG (hr : RS P ρ I w σ) {b : Nat} {blk blk' : Blk} (hs : σ[b]? = some blk) (hl : blk.live) (p' : Place) (hc : Compat blk (ρ b) blk' p')
    (hsz : Ext w w') (hold : ∀ c, c < w.heap.size → (ρ b).blk ≠ some c → w'.heap[c]? = w.heap[c]?) (hp : ∀ B', p'.blk = some B' → (ρ b).blk = some B' ∨ w.heap.size ≤ B')
    (hb : RB (updR ρ b p') (σ.set b blk') I w' p' blk') : RS P (updR ρ b p') I w' (σ.set b blk') := by
  have hst := step_updG (w' := w') hr hs hl p' hc hsz hold hp
  have hlt : b < σ.length := by rcases Nat.lt_or_ge b σ.length with h' | h'; exact h'; simp [List.getElem?_eq_none h'] at hs
  have split : ∀ i bl, (σ.set b blk')[i]? = some bl → (i ≠ b ∧ σ[i]? = some bl ∧ updR ρ b p' i = ρ i) ∨ (i = b ∧ bl = blk' ∧ updR ρ b p' i = p') := by
    intro i bl h1
    by_cases hi : i = b
    · subst hi; simp [hlt] at h1; exact .inr ⟨rfl, h1.symm, updR_same _ _ _⟩
    · rw [List.getElem?_set_ne (by omega)] at h1; exact .inl ⟨hi, h1, updR_ne _ _ hi⟩
  have away : ∀ i bl c, i ≠ b → σ[i]? = some bl → bl.live → (ρ i).blk = some c → (ρ b).blk ≠ some c := fun i bl c hi h1 h2 h3 he => hi (hr.inj i b bl blk c h1 hs h2 hl h3 he)
  refine ⟨fun i bl h => ?_, fun i j bi bj c hi hj li lj hBi hBj => ?_, fun c hlv hI => ?_, fun c hI => Nat.lt_of_lt_of_le (hr.bound c hI) hsz.size, hst.tabs hr⟩
  · rcases split i bl h with ⟨hi, h1, h2⟩ | ⟨_, rfl, h2⟩
    · rw [h2]
      have hrb := hr.blk i bl h1
      by_cases hlv : bl.live
      · exact RB.step hr hst (fun c hc => hold c (lives_heap hr ⟨i, bl, h1, hlv, hc⟩) (away i bl c hi h1 hlv hc)) hrb
      · cases bl <;> first | exact .dead | exact absurd trivial hlv
    · rw [h2]; exact hb
  · rcases split i bi hi with ⟨h1, h2, h3⟩ | ⟨rfl, rfl, h3⟩ <;> rcases split j bj hj with ⟨k1, k2, k3⟩ | ⟨rfl, rfl, k3⟩
    · rw [h3] at hBi; rw [k3] at hBj; exact hr.inj i j bi bj c h2 k2 li lj hBi hBj
    · rw [h3] at hBi; rw [k3] at hBj
      have h4 := away i bi c h1 h2 li hBi
      have := lives_heap hr ⟨i, bi, h2, li, hBi⟩
      rcases hp c hBj with h | h
      · exact absurd h h4
      · omega
    · rw [h3] at hBi; rw [k3] at hBj
      have h4 := away j bj c k1 k2 lj hBj
      have := lives_heap hr ⟨j, bj, k2, lj, hBj⟩
      rcases hp c hBi with h | h
      · exact absurd h h4
      · omega
    · rfl
  · rcases hst.fpn c hlv with h | h
    · exact hr.sep c h hI
    · have := hr.bound c hI; omega

theorem step_upd (hr : RS P ρ I w σ) {b B : Nat} {blk blk' : Blk} (hs : σ[b]? = some blk) (hB : (ρ b).blk = some B) (hl : blk.live) (p' : Place) (hc : Compat blk (ρ b) blk' p')
    (hsz : Ext w w') (hold : ∀ c, c < w.heap.size → c ≠ B → w'.heap[c]? = w.heap[c]?) (hp : ∀ B', p'.blk = some B' → B' = B ∨ w.heap.size ≤ B') :
    Step ρ I w σ (updR ρ b p') I w' (σ.set b blk') :=
  step_updG hr hs hl p' hc hsz (fun c h1 h2 => hold c h1 (fun h => h2 (h ▸ hB))) (fun B' h => (hp B' h).imp (fun (e : B' = B) => by rw [e]; exact hB) id)

theorem rs_upd (hr : RS P ρ I w σ) {b B : Nat} {blk blk' : Blk} (hs : σ[b]? = some blk) (hB : (ρ b).blk = some B) (hl : blk.live) (p' : Place) (hc : Compat blk (ρ b) blk' p')
    (hsz : Ext w w') (hold : ∀ c, c < w.heap.size → c ≠ B → w'.heap[c]? = w.heap[c]?) (hp : ∀ B', p'.blk = some B' → B' = B ∨ w.heap.size ≤ B')
    (hb : RB (updR ρ b p') (σ.set b blk') I w' p' blk') : RS P (updR ρ b p') I w' (σ.set b blk') :=
  rs_updG hr hs hl p' hc hsz (fun c h1 h2 => hold c h1 (fun h => h2 (h ▸ hB))) (fun B' h => (hp B' h).imp (fun (e : B' = B) => by rw [e]; exact hB) id) hb

/-- An operation that computes a value and may change the world. -/
def Eff (P : Program) (ρ : RHO) (σ : ST) (I : Nat → Prop) (w : World) (s : Sem Value) (r : Res) : Prop :=
  ∀ R : AV → ST → Prop, r.holds R → ∃ v av w' ρ' I' σ', s.run P w = .ok v w' ∧ Step ρ I w σ ρ' I' w' σ' ∧ RS P ρ' I' w' σ' ∧ V ρ' σ' I' w' av v ∧ R av σ'

theorem Pev.eff (hr : RS P ρ I w σ) {s : Sem Value} {r : Res} (h : Pev P ρ σ I w s r) : Eff P ρ σ I w s r := fun R hR =>
  let ⟨v, av, h1, h2, h3⟩ := h R hR
  ⟨v, av, w, ρ, I, σ, h1, Step.refl _ _ _ _, hr, h2, h3⟩

theorem Eff.bad {s : Sem Value} : Eff P ρ σ I w s .bad := fun _ hr => hr.elim
theorem Eff.need {s : Sem Value} {p : Prop} [Decidable p] {r : Res} (h : p → Eff P ρ σ I w s r) : Eff P ρ σ I w s (.need p r) := fun _ hr => h hr.1 _ hr.2

/-- The single cells of a value. -/
def AV.one : AV → Bool
  | .any | .agg _ | .tuple _ | .d (.agg _) => false
  | _ => true

def cellsV : AV → Option (List AV)
  | .agg cs => if cs.all AV.one then some cs else none
  | .d (.agg cs) => if (cs.map AV.d).all AV.one then some (cs.map .d) else none
  | x => if x.one then some [x] else none

theorem one_cell {a : AV} {v : Value} (h : V ρ σ I w a v) (ho : a.one = true) : v.oneCell' = true ∧ v.cells = #[v] := by
  cases h with
  | d h => cases h <;> first | exact ⟨rfl, rfl⟩ | simp [AV.one] at ho
  | any => simp [AV.one] at ho
  | agg => simp [AV.one] at ho
  | tuple => simp [AV.one] at ho
  | _ => exact ⟨rfl, rfl⟩

theorem cellsV_sound {a : AV} {cs : List AV} {v : Value} (h : V ρ σ I w a v) (hc : cellsV a = some cs) :
    cs.length = v.cells.size ∧ (∀ j c, cs[j]? = some c → V ρ σ I w c (v.cells.getD j undef)) ∧ (∀ j, j < v.cells.size → (v.cells.getD j undef).oneCell' = true) := by
  have key : ∀ (cs : List AV) (vs : Array Value), cs.length = vs.size → (∀ j c, cs[j]? = some c → V ρ σ I w c (vs.getD j undef)) → cs.all AV.one = true → ∀ j, j < vs.size → (vs.getD j undef).oneCell' = true := by
    intro cs vs h1 h2 h3 j hj
    have hlt : j < cs.length := by omega
    exact (one_cell (h2 j _ (List.getElem?_eq_getElem hlt)) (List.all_eq_true.1 h3 _ (List.getElem_mem hlt))).1
  unfold cellsV at hc
  split at hc
  · split at hc <;> try (cases hc; done)
    rename_i hall
    simp only [Option.some.injEq] at hc; subst hc
    cases h with | agg h1 h2 => exact ⟨h1, h2, key _ _ h1 h2 hall⟩
  · split at hc <;> try (cases hc; done)
    rename_i xs hall
    simp only [Option.some.injEq] at hc; subst hc
    cases h.d_inv with | agg h1 h2 =>
    rename_i us
    have h2' : ∀ j c, (xs.map AV.d)[j]? = some c → V ρ σ I w c (us.getD j undef) := fun j c hj => by
      simp only [List.getElem?_map, Option.map_eq_some_iff] at hj
      obtain ⟨x, hx, rfl⟩ := hj
      exact .d (h2 j x hx)
    have h1' : (xs.map AV.d).length = us.size := by simpa using h1
    exact ⟨h1', h2', key _ _ h1' h2' hall⟩
  · split at hc <;> try (cases hc; done)
    rename_i ho
    simp only [Option.some.injEq] at hc; subst hc
    obtain ⟨h1, h2⟩ := one_cell h ho
    rw [h2]
    refine ⟨rfl, fun j c hj => ?_, fun j hj => ?_⟩
    · cases j with
      | zero => simp at hj; subst hj; simpa using h
      | succ j => simp at hj
    · have : j = 0 := by simp at hj; omega
      subst this; simpa using h1

/- box, alloc -/
def rBox (t : Nat) (x : AV) (σ : ST) : Res :=
  match cellsV x with
  | some cs => .ok (.ptr σ.length 0) (σ ++ [.box t cs])
  | none => .bad

theorem run_newVar (t : TypeId) (v : Value) : (newVar t v).run P w = .ok ⟨w.heap.size, 0, none⟩ (World.alloc w (.cells v.cells t)) := by
  simp [newVar, newRow]

theorem push_old (w : World) (o : Obj) (b : Nat) (h : b < w.heap.size) : (World.alloc w o).heap[b]? = w.heap[b]? := by
  simp only [World.alloc, Array.getElem?_push, Nat.ne_of_lt h, if_false]
theorem push_new (w : World) (o : Obj) : (World.alloc w o).heap[w.heap.size]? = some o := by simp only [World.alloc, Array.getElem?_push, if_true]
theorem push_size (w : World) (o : Obj) : (World.alloc w o).heap.size = w.heap.size + 1 := World.size_alloc w o

theorem box_eff (hr : RS P ρ I w σ) {t : TypeId} {x : AV} {v : Value} {s : Sem Value} (h : V ρ σ I w x v)
    (hs : s.run P w = .ok (.pointer (some ⟨w.heap.size, 0, none⟩)) (World.alloc w (.cells v.cells t))) : Eff P ρ σ I w s (rBox t x σ) := by
  unfold rBox
  split
  · rename_i cs hc
    intro R hR
    obtain ⟨h1, h2, _⟩ := cellsV_sound h hc
    let p : Place := ⟨some w.heap.size, 0, 0⟩
    have hp : ∀ B, p.blk = some B → w.heap.size ≤ B := fun B hB => by cases hB; exact Nat.le_refl _
    have hsz : Ext w (World.alloc w (.cells v.cells t)) := Ext.of (by rw [push_size]; omega)
    have hst := step_push hr (.box t cs) p hsz (push_old w _) hp
    refine ⟨_, .ptr σ.length 0, _, _, I, _, hs, hst, rs_push hr (.box t cs) p hsz (push_old w _) hp ?_, ?_, hR⟩
    · exact .box rfl (push_new w _) h1 (fun j c hj => hst.v hr (h2 j c hj))
    · exact .ptr (t := t) (cs := cs) (by simp) (by simp [p])
  · exact Eff.bad

/-- A type's zero value. -/
def zeroA (P : Program) (t : TypeId) : AV :=
  match (P.info? t).bind (·.zero) with
  | some v => ofVal v
  | none => .any

theorem zero_run {t : TypeId} (h : zeroA P t ≠ .any) : ∃ v, (zeroValue t).run P w = .ok v w ∧ V ρ σ I w (zeroA P t) v := by
  unfold zeroA at *
  cases hi : P.info? t with
  | none => simp [hi] at h
  | some i =>
    cases hz : i.zero with
    | none => simp [hi, hz] at h
    | some v => exact ⟨v, by simp [zeroValue, typeInfo, hi, hz], by simp only [Option.bind_some, hz]; exact ofVal_sound v⟩

theorem cellsV_any {cs : List AV} {a : AV} (h : cellsV a = some cs) : a ≠ .any := by
  intro he; subst he; simp [cellsV, AV.one] at h

theorem rAlloc_sound (hr : RS P ρ I w σ) (t : TypeId) : Eff P ρ σ I w (Instr.alloc t true (.tuple #[])) (rBox t (zeroA P t) σ) := by
  by_cases ha : zeroA P t = .any
  · unfold rBox; rw [ha]; exact Eff.bad
  · obtain ⟨v, h1, h2⟩ := zero_run (P := P) (ρ := ρ) (σ := σ) (I := I) (w := w) ha
    exact box_eff (t := t) hr h2 (by simp [Instr.alloc, h1, run_newVar])

theorem rBox_sound (hr : RS P ρ I w σ) (t : TypeId) (x : AV) (v : Value) (h : V ρ σ I w x v) : Eff P ρ σ I w (Instr.box t v) (rBox t x σ) :=
  box_eff (t := t) hr h (by simp [Instr.box, run_newVar])
end
end Nv
