/- Part of a proof about the functions of this seat. -/
import Derived.Test.YtebejiilpedlmaaGreatDoorNvPQ
/- A nil slice seen avl a list without elements: contracts at data that says less. -/

set_option linter.unusedVariables false
set_option linter.unusedSimpArgs false
namespace Nv
open Go

def WkD (x y : DV) : Prop := x = y ∨ (x = .nilslice ∧ ∃ e, y = .list e [])

inductive WkA : AV → AV → Prop
  | refl (a : AV) : WkA a a
  | nil (e : Nat) : WkA (.d .nilslice) (.d (.list e []))
  | rows {xs ys : List DV} : xs.length = ys.length → (∀ i, i < xs.length → WkD (xs.getD i default) (ys.getD i default)) → WkA (.d (.list 1 xs)) (.d (.list 1 ys))
  | agg {cs ds : List AV} : cs.length = ds.length → (∀ i, i < cs.length → WkA (cs.getD i .any) (ds.getD i .any)) → WkA (.agg cs) (.agg ds)

section
variable {P : Program} {ρ : RHO} {σ : ST} {I : Nat → Prop} {w : World}

theorem VD.wkd {x y : DV} {v : Value} (h : WkD x y) (hv : VD I w x v) : VD I w y v := by
  rcases h with rfl | ⟨rfl, e, rfl⟩
  · exact hv
  · cases hv; exact .listNil _ _

theorem V.wk {a b : AV} (h : WkA a b) : ∀ {v : Value}, V ρ σ I w a v → V ρ σ I w b v := by
  induction h with
  | refl a => exact fun hv => hv
  | nil e => intro v hv; exact .d (VD.wkd (.inr ⟨rfl, e, rfl⟩) hv.d_inv)
  | @rows xs ys hl hx =>
    intro v hv
    cases hv.d_inv with
    | listNil _ p =>
      obtain rfl : ys = [] := List.length_eq_zero_iff.1 (by simpa using hl.symm)
      exact .d (.listNil _ _)
    | @list _ _ b off n cap us q1 q2 q0 q3 q4 =>
      have hy0 : ∀ i, i < ys.length → Uni 1 (ys.getD i default) := by
        intro i hi
        rcases hx i (by omega) with h | ⟨h, e, h'⟩
        · rw [← h]
          refine q0 _ ?_
          rw [List.getD_eq_getElem?_getD, List.getElem?_eq_getElem (by omega)]
          exact List.getElem_mem _
        · rw [h']; exact ⟨rfl, by simp [DV.isAgg]⟩
      have hy : ∀ y, y ∈ ys → Uni 1 y := by
        intro y hm
        obtain ⟨i, hi, rfl⟩ := List.getElem_of_mem hm
        have := hy0 i hi
        rwa [List.getD_eq_getElem?_getD, List.getElem?_eq_getElem hi] at this
      have key : ∀ (j : Nat) (c : DV), (flat ys)[j]? = some c → ∃ c', (flat xs)[j]? = some c' ∧ WkD c' c := by
        intro j c hj
        have hjl : j < (flat ys).length := by
          rcases Nat.lt_or_ge j (flat ys).length with h | h
          · exact h
          · rw [List.getElem?_eq_none h] at hj; cases hj
        rw [flat_len hy, Nat.mul_one] at hjl
        have e1 := flat_get hy (i := j) (o := 0) hjl (by omega)
        have e2 := flat_get q0 (i := j) (o := 0) (by omega) (by omega)
        rw [Nat.mul_one, Nat.add_zero] at e1 e2
        rw [hj] at e1
        rcases hx j (by omega) with h | ⟨h, e, h'⟩
        · rw [h, ← e1] at e2
          exact ⟨c, e2, .inl rfl⟩
        · rw [h'] at e1
          rw [h] at e2
          simp only [DV.cells, List.getElem?_cons_zero, Option.some.injEq] at e1 e2
          exact ⟨_, e2, .inr ⟨rfl, e, e1⟩⟩
      refine .d (.list us (by omega) q2 hy (fun j c hj => ?_) (fun j c hj => ?_))
      · obtain ⟨c', h1, h2⟩ := key j c hj
        exact q3 j c' h1
      · obtain ⟨c', h1, h2⟩ := key j c hj
        exact VD.wkd h2 (q4 j c' h1)
  | @agg cs ds hl _ ih =>
    intro v hv
    cases hv with | agg k1 k2 =>
    refine .agg (by omega) (fun j c hj => ?_)
    have hjl : j < ds.length := by
      rcases Nat.lt_or_ge j ds.length with h | h
      · exact h
      · rw [List.getElem?_eq_none h] at hj; cases hj
    have h1 : cs[j]? = some (cs.getD j .any) := by rw [List.getD_eq_getElem?_getD, List.getElem?_eq_getElem (by omega)]; rfl
    have := ih j (by omega) (k2 j _ h1)
    rwa [List.getD_eq_getElem?_getD, hj] at this

theorem PCall.wk {f : FuncId} {args args' : List AV} {r : AV} (h : PCall P f args' r) (hl : args.length = args'.length) (ha : ∀ i, i < args.length → WkA (args.getD i .any) (args'.getD i .any)) : PCall P f args r := by
  intro σ ρ I w vs hr hv
  refine h σ ρ I w vs hr ⟨by rw [← hl]; exact hv.1, fun j a hj => ?_⟩
  have hjl : j < args'.length := by
    rcases Nat.lt_or_ge j args'.length with h | h
    · exact h
    · rw [List.getElem?_eq_none h] at hj; cases hj
  have h1 : args[j]? = some (args.getD j .any) := by rw [List.getD_eq_getElem?_getD, List.getElem?_eq_getElem (by omega)]; rfl
  have := V.wk (ha j (by omega)) (hv.2 j _ h1)
  rwa [List.getD_eq_getElem?_getD, hj] at this
end
end Nv
/- A nil slice seen avl a list without elements, however deep it lies. -/

set_option linter.unusedVariables false
set_option linter.unusedSimpArgs false
namespace Nv
open Go

inductive WkV : DV → DV → Prop
  | refl (x : DV) : WkV x x
  | nil (e : Nat) : WkV .nilslice (.list e [])
  | list {e : Nat} {xs ys : List DV} : (flat xs).length = (flat ys).length → xs.length = ys.length → (∀ y, y ∈ ys → Uni e y) →
      (∀ (j : Nat) (x y : DV), (flat xs)[j]? = some x → (flat ys)[j]? = some y → WkV x y) → WkV (.list e xs) (.list e ys)

theorem VD.wkv {I : Nat → Prop} {w : World} {x y : DV} (h : WkV x y) : ∀ {v : Value}, VD I w x v → VD I w y v := by
  induction h with
  | refl x => exact fun hv => hv
  | nil e => intro v hv; cases hv; exact .listNil _ _
  | @list e xs ys hf hl hu hx ih =>
    intro v hv
    cases hv with
    | listNil _ p =>
      obtain rfl : ys = [] := List.length_eq_zero_iff.1 (by simpa using hl.symm)
      exact .listNil _ _
    | list us q1 q2 q0 q3 q4 =>
      have key : ∀ (j : Nat) (c : DV), (flat ys)[j]? = some c → ∃ x, (flat xs)[j]? = some x := fun j c hj => by
        have : j < (flat ys).length := by
          rcases Nat.lt_or_ge j (flat ys).length with h | h
          · exact h
          · rw [List.getElem?_eq_none h] at hj; cases hj
        exact ⟨_, List.getElem?_eq_getElem (by omega)⟩
      refine .list us (by omega) q2 hu (fun j c hj => ?_) (fun j c hj => ?_)
      · obtain ⟨x, hx'⟩ := key j c hj; exact q3 j x hx'
      · obtain ⟨x, hx'⟩ := key j c hj; exact ih j x c hx' hj (q4 j x hx')

/-- Elements side by side. -/
def All2 (R : DV → DV → Prop) : List DV → List DV → Prop
  | [], [] => True
  | x :: xs, y :: ys => R x y ∧ All2 R xs ys
  | _, _ => False
def WkE (e : Nat) (x y : DV) : Prop := x.cells.length = e ∧ Uni e y ∧ ∀ (j : Nat) (a b : DV), x.cells[j]? = some a → y.cells[j]? = some b → WkV a b
theorem WkE.refl {e : Nat} {x : DV} (h : Uni e x) : WkE e x x := ⟨h.1, h, fun j a b h1 h2 => by rw [h1] at h2; cases h2; exact .refl _⟩
theorem All2.refl {R : DV → DV → Prop} : ∀ {xs : List DV}, (∀ x, x ∈ xs → R x x) → All2 R xs xs
  | [], _ => trivial
  | x :: xs, h => ⟨h x (by simp), All2.refl fun y hy => h y (by simp [hy])⟩
theorem All2.append {R : DV → DV → Prop} : ∀ {xs ys zs ws : List DV}, All2 R xs ys → All2 R zs ws → All2 R (xs ++ zs) (ys ++ ws)
  | [], [], _, _, _, h => h
  | _ :: _, _ :: _, _, _, ⟨h1, h2⟩, h => ⟨h1, All2.append h2 h⟩
  | [], _ :: _, _, _, h, _ => h.elim
  | _ :: _, [], _, _, h, _ => h.elim
theorem wkv_list {e : Nat} : ∀ {xs ys : List DV}, All2 (WkE e) xs ys → WkV (.list e xs) (.list e ys) := by
  have key : ∀ xs ys : List DV, All2 (WkE e) xs ys → (flat xs).length = (flat ys).length ∧ xs.length = ys.length ∧ (∀ y, y ∈ ys → Uni e y) ∧
      ∀ (j : Nat) (x y : DV), (flat xs)[j]? = some x → (flat ys)[j]? = some y → WkV x y := by
    intro xs
    induction xs with
    | nil =>
      intro ys h
      cases ys with
      | nil => exact ⟨rfl, rfl, by simp, fun j x y h => by simp [flat] at h⟩
      | cons y ys => exact h.elim
    | cons x xs ih =>
      intro ys h
      cases ys with
      | nil => exact h.elim
      | cons y ys =>
        obtain ⟨⟨h1, h2, h3⟩, h4⟩ := h
        obtain ⟨k1, k2, k3, k4⟩ := ih ys h4
        have e1 : flat (x :: xs) = x.cells ++ flat xs := by simp [flat]
        have e2 : flat (y :: ys) = y.cells ++ flat ys := by simp [flat]
        refine ⟨by rw [e1, e2, List.length_append, List.length_append, h1, h2.1, k1], by simp [k2], fun z hz => ?_, fun j a b ha hb => ?_⟩
        · rcases List.mem_cons.1 hz with e | hz
          · rw [e]; exact h2
          · exact k3 z hz
        · rw [e1] at ha
          rw [e2] at hb
          rcases Nat.lt_or_ge j e with hj | hj
          · rw [List.getElem?_append_left (by omega)] at ha
            rw [List.getElem?_append_left (by rw [h2.1]; omega)] at hb
            exact h3 j a b ha hb
          · rw [List.getElem?_append_right (by omega), h1] at ha
            rw [List.getElem?_append_right (by rw [h2.1]; omega), h2.1] at hb
            exact k4 _ a b ha hb
  intro xs ys h
  obtain ⟨h1, h2, h3, h4⟩ := key xs ys h
  exact .list h1 h2 h3 h4

inductive WkB : AV → AV → Prop
  | d {x y : DV} : WkV x y → WkB (.d x) (.d y)
  | agg {cs ds : List AV} : cs.length = ds.length → (∀ i, i < cs.length → WkB (cs.getD i .any) (ds.getD i .any)) → WkB (.agg cs) (.agg ds)
theorem V.wkb {ρ : RHO} {σ : ST} {I : Nat → Prop} {w : World} {a b : AV} (h : WkB a b) : ∀ {v : Value}, V ρ σ I w a v → V ρ σ I w b v := by
  induction h with
  | d h => intro v hv; exact .d (VD.wkv h hv.d_inv)
  | @agg cs ds hl hx ih =>
    intro v hv
    cases hv with
    | agg h1 h2 =>
      refine .agg (by omega) (fun j c hj => ?_)
      have hjl : j < ds.length := by
        rcases Nat.lt_or_ge j ds.length with h | h
        · exact h
        · rw [List.getElem?_eq_none h] at hj; cases hj
      have e1 : cs[j]? = some (cs.getD j .any) := by rw [List.getD_eq_getElem?_getD, List.getElem?_eq_getElem (by omega)]; rfl
      have e2 : ds.getD j .any = c := by rw [List.getD_eq_getElem?_getD, hj]; rfl
      have := ih j (by omega) (h2 j _ e1)
      rwa [e2] at this
theorem PCall.wkb {P : Program} {f : FuncId} {args args' : List AV} {r : AV} (h : PCall P f args' r) (hl : args.length = args'.length) (ha : ∀ i, i < args.length → WkB (args.getD i .any) (args'.getD i .any)) : PCall P f args r := by
  intro σ ρ I w vs hr hv
  refine h σ ρ I w vs hr ⟨by rw [← hl]; exact hv.1, fun j a hj => ?_⟩
  have hjl : j < args'.length := by
    rcases Nat.lt_or_ge j args'.length with h | h
    · exact h
    · rw [List.getElem?_eq_none h] at hj; cases hj
  have e1 : args[j]? = some (args.getD j .any) := by rw [List.getD_eq_getElem?_getD, List.getElem?_eq_getElem (by omega)]; rfl
  have e2 : args'.getD j .any = a := by rw [List.getD_eq_getElem?_getD, hj]; rfl
  have := V.wkb (ha j (by omega)) (hv.2 j _ e1)
  rwa [e2] at this
end Nv
