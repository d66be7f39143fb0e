/- Ranging over a string: soundness. -/
import Derived.Test.YtebejiilpedlmaaGreatDoorNvJ4
import Derived.Laws.RangeString
set_option linter.unusedVariables false
set_option linter.unusedSimpArgs false
namespace Nv
open Go

section
variable {P : Program} {ρ ρ' : RHO} {σ σ' : ST} {I I' : Nat → Prop} {w w' : World}

def rRange (P : Program) (t : TypeId) (x : AV) (σ : ST) : Res :=
  match P.underlying t, x with
  | some .string, .d (.str s) => .ok (.itr σ.length) (σ ++ [.iter s 0])
  | _, _ => .bad

theorem rRange_sound (hr : RS P ρ I w σ) (t : TypeId) (x : AV) (v : Value) (hx : V ρ σ I w x v) : Eff P ρ σ I w (Instr.range t v) (rRange P t x σ) := by
  unfold rRange
  split
  · rename_i s ht
    cases hx.d_inv.str_inv
    intro R hR
    let p : Place := ⟨some w.heap.size, 0, 0⟩
    have hp : ∀ B, p.blk = some B → w.heap.size ≤ B := fun B hB => by cases hB; exact Nat.le_refl _
    have hsz : Ext w (World.alloc w (.stringIter ⟨s.toArray⟩ 0)) := Ext.of (by rw [push_size]; omega)
    have hst := step_push hr (.iter s 0) p hsz (push_old w _) hp
    have hrun : (Instr.range t (.string ⟨s.toArray⟩)).run P w = .ok (.pointer (some ⟨w.heap.size, 0, none⟩)) (World.alloc w (.stringIter ⟨s.toArray⟩ 0)) := by
      simp [Instr.range, run_underlying ht]
    have hnew : (World.alloc w (.stringIter ⟨s.toArray⟩ 0)).heap[w.heap.size]? = some (.stringIter ⟨s.toArray⟩ 0) := by
      show (w.heap.push _)[w.heap.size]? = _
      simp
    refine ⟨_, .itr σ.length, _, _, I, _, hrun, hst, rs_push hr (.iter s 0) p hsz (push_old w _) hp (.iter rfl hnew), .itr (s := s) (pos := 0) (by simp) (by rw [updR_same]), hR⟩
  · exact Eff.bad

def rNext (x : AV) (str : Bool) (σ : ST) : Res :=
  match x, str with
  | .itr b, true => match stGet σ b with
    | .iter s pos => bif Nat.blt pos s.length then
        .ok (.tuple [.d (.bool true), .d (.int .i64 (pos : Nat)), .d (.int .i32 ((Utf8.decode ⟨s.toArray⟩ pos).1 : Nat))]) (stSet σ b (.iter s (pos + (Utf8.decode ⟨s.toArray⟩ pos).2)))
      else .ok (.tuple [.d (.bool false)]) σ
    | _ => .bad
  | _, _ => .bad

theorem rNext_sound (hr : RS P ρ I w σ) (x : AV) (v : Value) (str : Bool) (ty : TypeId) (hx : V ρ σ I w x v) : Eff P ρ σ I w (Instr.next v str ty) (rNext x str σ) := by
  unfold rNext
  split
  · rename_i b
    split
    · rename_i s pos hst
      have hsb := stGet_some hst (by simp)
      cases hx with | itr k1 k2 =>
      rw [hsb] at k1; cases k1
      rename_i B
      have hrb := hr.blk b _ hsb
      cases hrb with | iter h1 h2 =>
      rw [k2] at h1; cases h1
      have hg : (getObj B).run P w = .ok (.stringIter ⟨s.toArray⟩ pos) w := by simp [getObj, Sem.run, h2]
      have hsl : (⟨s.toArray⟩ : ByteArray).size = s.length := by simp [ByteArray.size]
      cases hlt : Nat.blt pos s.length
      · have hn : ¬ pos < (⟨s.toArray⟩ : ByteArray).size := by
          rw [hsl]; intro h; rw [show Nat.blt pos s.length = true by simpa using h] at hlt; cases hlt
        refine Pev.eff hr (.ok (v := .tuple #[.bool false]) ?_ (.tuple rfl (fun j c hj => ?_)))
        · simp only [Instr.next, Sem.run_bind, hg, Result.andThen_ok, hn, if_false, Sem.run_pure]
        · cases j with
          | zero => simp at hj; subst hj; exact .d (.bool false)
          | succ j => simp at hj
      · have hn : pos < (⟨s.toArray⟩ : ByteArray).size := by rw [hsl]; simpa using hlt
        intro R hR
        obtain ⟨c, wd, hdec⟩ : ∃ c wd, Utf8.decode ⟨s.toArray⟩ pos = (c, wd) := ⟨_, _, rfl⟩
        rw [hdec] at hR
        have hB : B < w.heap.size := (Array.getElem?_eq_some_iff.1 h2).1
        let w' : World := { w with heap := w.heap.set! B (.stringIter ⟨s.toArray⟩ (pos + wd)) }
        have hset : (setObj B (.stringIter ⟨s.toArray⟩ (pos + wd))).run P w = .ok () w' := by simp [setObj, Sem.run, h2, w']
        have hrun : (Instr.next (.pointer (some ⟨B, 0, none⟩)) true ty).run P w = .ok (.tuple #[.bool true, .int .i64 pos, .int .i32 c]) w' := by
          simp only [Instr.next, Sem.run_bind, hg, Result.andThen_ok, hn, if_true, hdec, hset, Sem.run_pure]
          rfl
        have hnew : w'.heap[B]? = some (.stringIter ⟨s.toArray⟩ (pos + wd)) := by
          show (w.heap.set! B _)[B]? = _
          simp [hB]
        have hold : ∀ c, c < w.heap.size → c ≠ B → w'.heap[c]? = w.heap[c]? := fun c _ hc => by
          show (w.heap.set! B _)[c]? = _
          simp [Ne.symm hc]
        have hsz : Ext w w' := Ext.of (by show w.heap.size ≤ (w.heap.set! B _).size; simp)
        have hp : ∀ B', (ρ b).blk = some B' → B' = B ∨ w.heap.size ≤ B' := fun B' h => by rw [k2] at h; cases h; exact .inl rfl
        have hcmp : Compat (.iter s pos) (ρ b) (.iter s (pos + wd)) (ρ b) := ⟨rfl, rfl⟩
        have hstep := step_upd (w' := w') hr hsb k2 trivial (ρ b) hcmp hsz hold hp
        refine ⟨_, .tuple [.d (.bool true), .d (.int .i64 (pos : Nat)), .d (.int .i32 (c : Nat))], w', _, I, _, hrun, hstep, rs_upd hr hsb k2 trivial (ρ b) hcmp hsz hold hp (.iter k2 hnew), .tuple rfl (fun j x hj => ?_), hR⟩
        match j, hj with
        | 0, hj => simp at hj; subst hj; exact .d (.bool true)
        | 1, hj => simp at hj; subst hj; exact .d (.int _ _)
        | 2, hj => simp at hj; subst hj; exact .d (.int _ _)
    · exact Eff.bad
  · exact Eff.bad
end
end Nv
