/- A string turned to its runes: soundness. -/
import Derived.Test.YtebejiilpedlmaaGreatDoorNvJ3
import Derived.Laws.IdiomStrings
set_option linter.unusedVariables false
set_option linter.unusedSimpArgs false
namespace Nv
open Go

section
variable {P : Program} {ρ ρ' : RHO} {σ σ' : ST} {I I' : Nat → Prop} {w w' : World}

def valD : Value → DV
  | .int k n => .int k n
  | _ => default

def runesD (s : List UInt8) : List DV := (Conv.runesFrom ⟨s.toArray⟩ s.length 0 #[]).toList.map valD

theorem runes_ints (s : ByteArray) : ∀ (bound i : Nat) (acc : Array Value), (∀ v, v ∈ acc → ∃ n, v = .int .i32 n) → ∀ v, v ∈ Conv.runesFrom s bound i acc → ∃ n, v = .int .i32 n
  | 0, _, acc, h => by simpa [Conv.runesFrom] using h
  | bound + 1, i, acc, h => by
    unfold Conv.runesFrom
    split
    · refine runes_ints s bound _ _ (fun v hv => ?_)
      rcases Array.mem_push.1 hv with hv | hv
      · exact h v hv
      · exact ⟨_, hv⟩
    · exact h

def rRunes (P : Program) (el : TypeId) (s : List UInt8) (σ : ST) : Res :=
  match P.underlying el with
  | some (.int .i32) => .need (P.cellsOf el = 1 ∧ s.length ≤ 70368744177664) (newArr σ 1 el (runesD s))
  | _ => .bad

theorem rRunes_sound (hr : RS P ρ I w σ) (src dst el : TypeId) (s : List UInt8) (hs : P.underlying src = some .string) (hd : P.underlying dst = some (.slice el)) :
    Eff P ρ σ I w (convert src dst (.string ⟨s.toArray⟩)) (rRunes P el s σ) := by
  unfold rRunes
  split
  · rename_i he
    refine Eff.need fun ⟨hc, hlim⟩ => ?_
    have hsz : (⟨s.toArray⟩ : ByteArray).size = s.length := by simp [ByteArray.size]
    have hle := size_runesFrom ⟨s.toArray⟩ s.length 0 #[]
    simp only [List.size_toArray, List.length_nil, Nat.zero_add] at hle
    have hrun := run_runes_of_string (P := P) w src dst el ⟨s.toArray⟩ hs hd he (by rw [hsz]; omega)
    rw [hsz] at hrun
    generalize hR : Conv.runesFrom ⟨s.toArray⟩ s.length 0 #[] = R at *
    have hints : ∀ v, v ∈ R → ∃ n, v = .int .i32 n := by rw [← hR]; exact runes_ints _ _ _ _ (by simp)
    have hx : runesD s = R.toList.map valD := by unfold runesD; rw [hR]
    have hxl : (runesD s).length = R.size := by rw [hx]; simp
    have hge := grownCap_ge w R.size 0 el
    have hflat : flat (runesD s) = runesD s := by
      rw [hx]
      have : ∀ l : List Value, (∀ v, v ∈ l → ∃ n, v = .int .i32 n) → flat (l.map valD) = l.map valD := by
        intro l
        induction l with
        | nil => intro _; rfl
        | cons v l ih =>
          intro h
          obtain ⟨n, rfl⟩ := h v (by simp)
          show DV.cells (valD _) ++ flat (l.map valD) = _
          rw [ih (fun u hu => h u (by simp [hu]))]; rfl
      exact this _ (fun v hv => hints v (by simpa using hv))
    rw [← hxl] at hrun
    refine newArr_eff hr (cap := grownCap w R.size 0 el) (us := R ++ Array.replicate (grownCap w R.size 0 el - R.size) (.int .i32 0)) (e := 1) (w' := _) ?_ ⟨w.drawn + 1, rfl⟩ (by simp; omega) (by rw [hxl]; exact hge) (fun x hm => ?_) (fun j c hj => ?_)
    · rw [hxl] at hrun ⊢; exact hrun
    · rw [hx] at hm
      obtain ⟨v, hv, rfl⟩ := List.mem_map.1 hm
      obtain ⟨n, rfl⟩ := hints v (by simpa using hv)
      exact ⟨rfl, by simp [valD, DV.isAgg]⟩
    · rw [hflat, hx, List.getElem?_map, Option.map_eq_some_iff] at hj
      obtain ⟨v, hv, rfl⟩ := hj
      have hv' : R[j]? = some v := by simpa using hv
      have hjl : j < R.size := (Array.getElem?_eq_some_iff.1 hv').1
      obtain ⟨n, rfl⟩ := hints v (Array.mem_of_getElem? hv')
      rw [Array.getD_eq_getD_getElem?, Array.getElem?_append_left hjl, hv']
      exact .int _ _
  · exact Eff.bad

/-- A conversion that may make memory. -/
def rCvA (P : Program) (s d : TypeId) (x : AV) (σ : ST) : Res :=
  match P.underlying s, P.underlying d, x with
  | some .string, some (.slice el), .d (.str t) => rRunes P el t σ
  | _, _, x => rCv P s d x σ

theorem rCvA_sound (hr : RS P ρ I w σ) (s d : TypeId) (x : AV) (v : Value) (hx : V ρ σ I w x v) : Eff P ρ σ I w (convert s d v) (rCvA P s d x σ) := by
  unfold rCvA
  split
  · rename_i el t hs hd
    cases hx.d_inv.str_inv
    exact rRunes_sound hr s d el t hs hd
  · exact Pev.eff hr (rCv_sound hr s d _ v hx)

/-- Where the conversion that makes no memory comes to something, it is this one. -/
theorem rCvA_of {s d : TypeId} {x : AV} (h : rCv P s d x σ ≠ .bad) : rCvA P s d x σ = rCv P s d x σ := by
  unfold rCvA
  split
  · rename_i el t hs hd
    exact absurd (by simp [rCv, rConv, hs, hd]) h
  · rfl
end
end Nv
