/- Pointers turned to pointers of no type and back, and the address of a row's first element: soundness. -/
import Derived.Test.YtebejiilpedlmaaGreatDoorNvJ
import Derived.Lib.Builder
import Derived.Lib.UnsafeStr
set_option linter.unusedVariables false
set_option linter.unusedSimpArgs false
namespace Nv
open Go

section
variable {P : Program} {ρ ρ' : RHO} {σ σ' : ST} {I I' : Nat → Prop} {w w' : World}

theorem Step.more (hsz : Ext w w') (h : ∀ b, b < w.heap.size → w'.heap[b]? = w.heap[b]?) : Step ρ I w σ ρ I w' σ :=
  ⟨fun b hb _ => h b hb, fun _ h => h, fun _ h => .inl h, fun _ h => .inl h, hsz.size, fun b blk h => ⟨blk, h, Compat.refl _ _⟩, hsz.env⟩

theorem lt_of_heap {b : Nat} {o : Obj} (h : w.heap[b]? = some o) : b < w.heap.size := (Array.getElem?_eq_some_iff.1 h).1

theorem RS.more (hr : RS P ρ I w σ) (hsz : Ext w w') (h : ∀ b, b < w.heap.size → w'.heap[b]? = w.heap[b]?) : RS P ρ I w' σ := by
  have hs : Step ρ I w σ ρ I w' σ := Step.more hsz h
  refine ⟨fun i blk hi => ?_, hr.inj, hr.sep, fun B hB => Nat.lt_of_lt_of_le (hr.bound B hB) hsz.size, hs.tabs hr⟩
  have hb := hr.blk i blk hi
  cases hb with
  | box h1 h2 h3 h4 => exact .box h1 (by rw [h _ (lt_of_heap h2)]; exact h2) h3 (fun j c hj => hs.v hr (h4 j c hj))
  | arrNil h1 h2 => exact .arrNil h1 h2
  | map h1 h2 h3 h4 => exact .map h1 (by rw [h _ (lt_of_heap h2)]; exact h2) h3 (fun j y hj => let ⟨e, k1, k2, k3⟩ := h4 j y hj; ⟨e, k1, hs.vd hr k2, hs.vd hr k3⟩)
  | iter h1 h2 => exact .iter h1 (by rw [h _ (lt_of_heap h2)]; exact h2)
  | arr h1 h2 h3 h4 h5 h6 => exact .arr h1 (by rw [h _ (lt_of_heap h2)]; exact h2) h3 h4 h5 (fun j c hj => hs.vd hr (h6 j c hj))
  | dead => exact .dead

/-- Whether a variable of a type lies at a place of a box. -/
def liesB (P : Program) (e n o u : Nat) : Bool := liesAt P P.depth e (n / P.cellsOf e) o u 1

def rConvU (P : Program) (s d : TypeId) (b o : Nat) (σ : ST) : Res :=
  match P.underlying s, P.underlying d with
  | some (.pointer t), some .unsafePointer => match stGet σ b with
    | .box e cs => .need (0 < P.cellsOf t ∧ o < cs.length) (.ok (.ptr b o) σ)
    | _ => .bad
  | some .unsafePointer, some (.pointer u) => match stGet σ b with
    | .box e cs => .need (0 < P.cellsOf u ∧ liesB P e cs.length o u = true) (.ok (.ptr b o) σ)
    | _ => .bad
  | _, _ => .bad

theorem info_of {t : TypeId} (h : 0 < P.cellsOf t) : ∃ j, P.info? t = some j ∧ j.size ≠ 0 := by
  unfold Program.cellsOf at h
  cases hi : P.info? t with
  | none => simp [hi] at h
  | some i => exact ⟨i, rfl, by simp [hi] at h; omega⟩

theorem rConvU_sound (hr : RS P ρ I w σ) (s d : TypeId) (b o : Nat) (v : Value) (hx : V ρ σ I w (.ptr b o) v) : Pev P ρ σ I w (convert s d v) (rConvU P s d b o σ) := by
  unfold rConvU
  split
  · rename_i t hs hd
    split
    · rename_i e cs hst
      have hsb := stGet_some hst (by simp)
      refine .need fun ⟨hz, ho⟩ => ?_
      obtain ⟨j, hj, hj0⟩ := info_of hz
      cases hx with | ptr k1 k2 =>
      rw [hsb] at k1; cases k1
      rename_i B
      obtain ⟨us, q1, q2, q3⟩ := hr.box hsb k2
      have hsh : w.shape? B = some (e, us.size) := by simp [World.shape?, q1]
      exact .ok (Lib.run_to_unsafe w ⟨B, o, none⟩ hs hd hj hj0 hsh (by show o < us.size; omega)) (.ptr hsb k2)
    · exact .bad
  · rename_i u hs hd
    split
    · rename_i e cs hst
      have hsb := stGet_some hst (by simp)
      refine .need fun ⟨hz, hl⟩ => ?_
      obtain ⟨j, hj, hj0⟩ := info_of hz
      cases hx with | ptr k1 k2 =>
      rw [hsb] at k1; cases k1
      rename_i B
      obtain ⟨us, q1, q2, q3⟩ := hr.box hsb k2
      have hsh : w.shape? B = some (e, us.size) := by simp [World.shape?, q1]
      refine .ok (Lib.run_from_unsafe w ⟨B, o, none⟩ hs hd hj hsh ?_) (.ptr hsb k2)
      rw [← q2]; exact hl
    · exact .bad
  · exact .bad

/-- A conversion. -/
def rCv (P : Program) (s d : TypeId) (x : AV) (σ : ST) : Res :=
  match x with
  | .ptr b o => rConvU P s d b o σ
  | x => rConv P s d x σ
@[go_sem] theorem rCv_ptr (s d : TypeId) (b o : Nat) (σ : ST) : rCv P s d (.ptr b o) σ = rConvU P s d b o σ := nrfl rfl
@[go_sem] theorem rCv_d (s d : TypeId) (x : DV) (σ : ST) : rCv P s d (.d x) σ = rConv P s d (.d x) σ := nrfl rfl
theorem rCv_sound (hr : RS P ρ I w σ) (s d : TypeId) (x : AV) (v : Value) (hx : V ρ σ I w x v) : Pev P ρ σ I w (convert s d v) (rCv P s d x σ) := by
  unfold rCv
  split
  · exact rConvU_sound hr s d _ _ v hx
  · exact rConv_sound s d _ v hx

/- the first element's address -/
def rUSD (P : Program) (ty : TypeId) (x : AV) (σ : ST) : Res :=
  match P.underlying ty, x with
  | some (.pointer _), .d .nilslice => .ok .aptr σ
  | some (.pointer _), .own b g off n => match stGet σ b with
    | .arr g' e xs => .need (g = g') (bif Nat.beq n 0 then .ok .aptr σ else .ok (.eptr b g off 0) σ)
    | _ => .bad
  | _, _ => .bad

theorem rUSD_sound (hr : RS P ρ I w σ) (ts : Array TypeId) (ty : TypeId) (x : AV) (v : Value) (hx : V ρ σ I w x v) : Eff P ρ σ I w (Builtin.unsafeSliceData_ ts ty #[v]) (rUSD P ty x σ) := by
  unfold rUSD
  split
  · cases hx.d_inv
    exact Pev.eff hr (.ok (Lib.run_unsafeSliceData_nil w ts ty 0 0) (.aptr _))
  · rename_i pe b g off n hp
    split
    · rename_i g' e xs hst
      have hsb := stGet_some hst (by simp)
      refine .need fun hg => ?_
      subst hg
      have pos : ∀ (a : Addr) (c : Nat), c ≠ 0 → V ρ σ I w (bif Nat.beq n 0 then .aptr else .eptr b g off 0) (.pointer (some a)) →
          Eff P ρ σ I w (Builtin.unsafeSliceData_ ts ty #[.slice (some a) n c]) (bif Nat.beq n 0 then .ok .aptr σ else .ok (.eptr b g off 0) σ) := by
        intro a c hc hv
        have h := Lib.run_unsafeSliceData_row (P := P) w ts ty a n c hc
        cases hb : Nat.beq n 0
        · rw [hb] at hv; exact Pev.eff hr (.ok h hv)
        · rw [hb] at hv; exact Pev.eff hr (.ok h hv)
      have zero : ∀ (a : Addr), n = 0 → (∃ sh, w.shape? a.block = some sh) →
          Eff P ρ σ I w (Builtin.unsafeSliceData_ ts ty #[.slice (some a) n 0]) (bif Nat.beq n 0 then .ok .aptr σ else .ok (.eptr b g off 0) σ) := by
        rintro a rfl ⟨sh, hsh⟩ R hR
        have h := Lib.run_unsafeSliceData_zero (P := P) w ts ty pe hp a 0 sh hsh
        have hsz : Ext w (w.alloc (.view a pe)) := Ext.of (by rw [push_size]; omega)
        exact ⟨_, .aptr, _, ρ, I, σ, h, Step.more hsz (push_old w _), hr.more hsz (push_old w _), .aptr _, hR⟩
      cases hx with
      | ownOld k1 k2 => rw [hsb] at k1; cases k1; exact absurd (k2 _ _ _ rfl) (by omega)
      | @ownNil _ _ _ _ _ p k1 k2 =>
        cases p with
        | none => exact Pev.eff hr (.ok (Lib.run_unsafeSliceData_nil w ts ty 0 0) (.aptr _))
        | some a =>
          have hlt := (k2 a rfl).2
          obtain ⟨o, ho⟩ : ∃ o, w.heap[a.block]? = some o := ⟨_, Array.getElem?_eq_getElem hlt⟩
          have hdef : Builtin.unsafeSliceData_ ts ty #[.slice (some a) 0 0] =
              (do
                if (0 : Nat) ≠ 0 then pure (.pointer (some a))
                else if (← viewAt a.block).isSome then pure (.pointer (some a))
                else pure (.pointer (some ⟨← newObj (.view a (← elemOf ty)), 0, none⟩))) := rfl
          have fresh : (Builtin.unsafeSliceData_ ts ty #[.slice (some a) 0 0]).run P w = .ok (.pointer (some ⟨w.heap.size, 0, none⟩)) (w.alloc (.view a pe)) →
              Eff P ρ σ I w (Builtin.unsafeSliceData_ ts ty #[.slice (some a) 0 0]) (bif Nat.beq 0 0 then .ok .aptr σ else .ok (.eptr b g off 0) σ) := by
            intro h R hR
            have hsz : Ext w (w.alloc (.view a pe)) := Ext.of (by rw [push_size]; omega)
            exact ⟨_, .aptr, _, ρ, I, σ, h, Step.more hsz (push_old w _), hr.more hsz (push_old w _), .aptr _, hR⟩
          have hg : (∀ us t f, o ≠ .cells us t f) → (getObj a.block).run P w = .ok o w := by
            intro h
            cases o <;> first | exact absurd rfl (h _ _ _) | simp [getObj, Sem.run, ho]
          cases o with
          | cells us t f => exact zero a rfl ⟨(t, us.size), by simp [World.shape?, ho]⟩
          | view a' t => exact Pev.eff hr (.ok (v := .pointer (some a)) (by rw [hdef]; simp [viewAt, World.shape?, ho, hg (by simp)]) (.aptr _))
          | _ => exact fresh (by rw [hdef]; simp [viewAt, World.shape?, ho, hg (by simp), elemOf, run_underlying hp])
      | own k1 k2 k3 k4 =>
        rw [hsb] at k1; cases k1
        rename_i B cap
        obtain ⟨us, q1, q2, q3, q4, q5⟩ := hr.arr hsb k2
        by_cases hc : cap = 0
        · subst hc
          exact zero _ (by omega) ⟨_, by simp [World.shape?, q1]; rfl⟩
        · refine pos _ cap hc ?_
          cases hb : Nat.beq n 0
          · exact .eptr hsb k2
          · exact .aptr _
    · exact Eff.bad
  · exact Eff.bad

end
end Nv
