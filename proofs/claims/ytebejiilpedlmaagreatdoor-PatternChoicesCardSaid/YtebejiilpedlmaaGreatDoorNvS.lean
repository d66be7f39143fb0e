/- A nil slice seen as a list without elements: contracts at data that says less. -/
import Derived.Test.YtebejiilpedlmaaGreatDoorNvQ
set_option linter.unusedVariables false
set_option linter.unusedSimpArgs false
namespace Nv
open Go

def WkD (x y : DV) : Prop := x = y ∨ (x = .nilslice ∧ ∃ e, y = .list e [])

inductive WkA : AV → AV → Prop
  | refl (a : AV) : WkA a a
  | nil (e : Nat) : WkA (.d .nilslice) (.d (.list e []))
  | rows {xs ys : List DV} : xs.length = ys.length → (∀ i, i < xs.length → WkD (xs.getD i default) (ys.getD i default)) → WkA (.d (.list 1 xs)) (.d (.list 1 ys))
  | agg {cs ds : List AV} : cs.length = ds.length → (∀ i, i < cs.length → WkA (cs.getD i .any) (ds.getD i .any)) → WkA (.agg cs) (.agg ds)

section
variable {P : Program} {ρ : RHO} {σ : ST} {I : Nat → Prop} {w : World}

theorem VD.wkd {x y : DV} {v : Value} (h : WkD x y) (hv : VD I w x v) : VD I w y v := by
  rcases h with rfl | ⟨rfl, e, rfl⟩
  · exact hv
  · cases hv; exact .listNil _ _

theorem V.wk {a b : AV} (h : WkA a b) : ∀ {v : Value}, V ρ σ I w a v → V ρ σ I w b v := by
  induction h with
  | refl a => exact fun hv => hv
  | nil e => intro v hv; exact .d (VD.wkd (.inr ⟨rfl, e, rfl⟩) hv.d_inv)
  | @rows xs ys hl hx =>
    intro v hv
    cases hv.d_inv with
    | listNil _ p =>
      obtain rfl : ys = [] := List.length_eq_zero_iff.1 (by simpa using hl.symm)
      exact .d (.listNil _ _)
    | @list _ _ b off n cap us q1 q2 q0 q3 q4 =>
      have hy0 : ∀ i, i < ys.length → Uni 1 (ys.getD i default) := by
        intro i hi
        rcases hx i (by omega) with h | ⟨h, e, h'⟩
        · rw [← h]
          refine q0 _ ?_
          rw [List.getD_eq_getElem?_getD, List.getElem?_eq_getElem (by omega)]
          exact List.getElem_mem _
        · rw [h']; exact ⟨rfl, by simp [DV.isAgg]⟩
      have hy : ∀ y, y ∈ ys → Uni 1 y := by
        intro y hm
        obtain ⟨i, hi, rfl⟩ := List.getElem_of_mem hm
        have := hy0 i hi
        rwa [List.getD_eq_getElem?_getD, List.getElem?_eq_getElem hi] at this
      have key : ∀ (j : Nat) (c : DV), (flat ys)[j]? = some c → ∃ c', (flat xs)[j]? = some c' ∧ WkD c' c := by
        intro j c hj
        have hjl : j < (flat ys).length := by
          rcases Nat.lt_or_ge j (flat ys).length with h | h
          · exact h
          · rw [List.getElem?_eq_none h] at hj; cases hj
        rw [flat_len hy, Nat.mul_one] at hjl
        have e1 := flat_get hy (i := j) (o := 0) hjl (by omega)
        have e2 := flat_get q0 (i := j) (o := 0) (by omega) (by omega)
        rw [Nat.mul_one, Nat.add_zero] at e1 e2
        rw [hj] at e1
        rcases hx j (by omega) with h | ⟨h, e, h'⟩
        · rw [h, ← e1] at e2
          exact ⟨c, e2, .inl rfl⟩
        · rw [h'] at e1
          rw [h] at e2
          simp only [DV.cells, List.getElem?_cons_zero, Option.some.injEq] at e1 e2
          exact ⟨_, e2, .inr ⟨rfl, e, e1⟩⟩
      refine .d (.list us (by omega) q2 hy (fun j c hj => ?_) (fun j c hj => ?_))
      · obtain ⟨c', h1, h2⟩ := key j c hj
        exact q3 j c' h1
      · obtain ⟨c', h1, h2⟩ := key j c hj
        exact VD.wkd h2 (q4 j c' h1)
  | @agg cs ds hl _ ih =>
    intro v hv
    cases hv with | agg k1 k2 =>
    refine .agg (by omega) (fun j c hj => ?_)
    have hjl : j < ds.length := by
      rcases Nat.lt_or_ge j ds.length with h | h
      · exact h
      · rw [List.getElem?_eq_none h] at hj; cases hj
    have h1 : cs[j]? = some (cs.getD j .any) := by rw [List.getD_eq_getElem?_getD, List.getElem?_eq_getElem (by omega)]; rfl
    have := ih j (by omega) (k2 j _ h1)
    rwa [List.getD_eq_getElem?_getD, hj] at this

theorem PCall.wk {f : FuncId} {args args' : List AV} {r : AV} (h : PCall P f args' r) (hl : args.length = args'.length) (ha : ∀ i, i < args.length → WkA (args.getD i .any) (args'.getD i .any)) : PCall P f args r := by
  intro σ ρ I w vs hr hv
  refine h σ ρ I w vs hr ⟨by rw [← hl]; exact hv.1, fun j a hj => ?_⟩
  have hjl : j < args'.length := by
    rcases Nat.lt_or_ge j args'.length with h | h
    · exact h
    · rw [List.getElem?_eq_none h] at hj; cases hj
  have h1 : args[j]? = some (args.getD j .any) := by rw [List.getD_eq_getElem?_getD, List.getElem?_eq_getElem (by omega)]; rfl
  have := V.wk (ha j (by omega)) (hv.2 j _ h1)
  rwa [List.getD_eq_getElem?_getD, hj] at this
end
end Nv
