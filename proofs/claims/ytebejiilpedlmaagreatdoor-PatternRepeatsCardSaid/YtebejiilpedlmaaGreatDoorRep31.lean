/- Part of a proof about the functions of this seat. -/
import Derived.Test.YtebejiilpedlmaaGreatDoorZ31
set_option linter.unusedVariables false
set_option linter.unusedSimpArgs false
set_option maxRecDepth 100000
namespace Go.Proofs.YtebejiilpedlmaaGreatDoor
open Go Nv Pat

/- A repetition as a join of copies. -/
def emptyT : Tree := .mk 1 [] [] 0 0
def optT (x : Tree) : Tree := .mk 4 [] [x, emptyT] 0 0
def repT (x : Tree) (n m : Nat) : Tree := .mk 5 [] [x] n m
def joinsT (x : Tree) (n m : Nat) : Tree := .mk 3 [] (emptyT :: emptyT :: (List.replicate n x ++ List.replicate (m - n) (optT x))) 0 0

theorem lang_empty (w : List Int) : Lang emptyT w ↔ Eps w := by simp [emptyT, Lang, Eps]
theorem lang_opt (x : Tree) (w : List Int) : Lang (optT x) w ↔ Lang x w ∨ Eps w := by
  simp [optT, Lang, LangC, emptyT, Eps]
theorem langJ_rep (x : Tree) : ∀ (n : Nat) (w : List Int), LangJ (List.replicate n x) w ↔ Pow (Lang x) n w
  | 0, w => (langJ_nil w).trans (pow_zero _ w).symm
  | n + 1, w => by
    rw [List.replicate_succ, langJ_cons, pow_succ]
    exact cat_congr (fun _ => Iff.rfl) (langJ_rep x n) w
theorem langJ_opt (x : Tree) : ∀ (k : Nat) (w : List Int), LangJ (List.replicate k (optT x)) w ↔ ∃ i, i ≤ k ∧ Pow (Lang x) i w
  | 0, w => by
    rw [List.replicate_zero, langJ_nil]
    constructor
    · intro h; exact ⟨0, Nat.le_refl _, h⟩
    · rintro ⟨i, hi, h⟩; obtain rfl : i = 0 := by omega
      exact h
  | k + 1, w => by
    rw [List.replicate_succ, langJ_cons]
    constructor
    · rintro ⟨u, v, rfl, hu, hv⟩
      obtain ⟨i, hi, hv⟩ := (langJ_opt x k v).1 hv
      rcases (lang_opt x u).1 hu with hu | hu
      · exact ⟨i + 1, by omega, u, v, rfl, hu, hv⟩
      · obtain rfl : u = [] := hu
        exact ⟨i, by omega, by simpa using hv⟩
    · rintro ⟨i, hi, h⟩
      cases i with
      | zero =>
        obtain rfl : w = [] := h
        exact ⟨[], [], rfl, (lang_opt x []).2 (.inr rfl), (langJ_opt x k []).2 ⟨0, by omega, rfl⟩⟩
      | succ i =>
        obtain ⟨u, v, rfl, hu, hv⟩ := h
        exact ⟨u, v, rfl, (lang_opt x u).2 (.inl hu), (langJ_opt x k v).2 ⟨i, by omega, hv⟩⟩

theorem rep_joins (x : Tree) (n m : Nat) (h : n ≤ m) (w : List Int) : Lang (repT x n m) w ↔ Lang (joinsT x n m) w := by
  have e : (fun u => Lang x u) = Lang x := rfl
  have e1 : Lang (repT x n m) w ↔ ∃ k : Nat, n ≤ k ∧ k ≤ m ∧ Pow (Lang x) k w := by
    simp only [repT, Lang, LangP, e]
    constructor
    · rintro ⟨k, h1, h2, h3⟩; exact ⟨k, by omega, by omega, h3⟩
    · rintro ⟨k, h1, h2, h3⟩; exact ⟨k, by omega, .inr (by omega), h3⟩
  have e2 : Lang (joinsT x n m) w ↔ LangJ (emptyT :: emptyT :: (List.replicate n x ++ List.replicate (m - n) (optT x))) w := by
    simp [joinsT, Lang]
  have e3 : ∀ (l : List Tree) (w : List Int), LangJ (emptyT :: l) w ↔ LangJ l w := fun l w =>
    (langJ_cons emptyT l w).trans ((cat_congr lang_empty (fun _ => Iff.rfl) w).trans (eps_cat _ w))
  rw [e1, e2, e3, e3, langJ_append]
  constructor
  · rintro ⟨k, h1, h2, h3⟩
    obtain ⟨d, rfl⟩ : ∃ d, k = n + d := ⟨k - n, by omega⟩
    obtain ⟨u, v, rfl, hu, hv⟩ := (pow_add (Lang x) n d w).1 h3
    exact ⟨u, v, rfl, (langJ_rep x n u).2 hu, (langJ_opt x (m - n) v).2 ⟨d, by omega, hv⟩⟩
  · rintro ⟨u, v, rfl, hu, hv⟩
    obtain ⟨d, hd, hv⟩ := (langJ_opt x (m - n) v).1 hv
    exact ⟨n + d, by omega, by omega, (pow_add (Lang x) n d _).2 ⟨u, v, rfl, (langJ_rep x n u).1 hu, hv⟩⟩
end Go.Proofs.YtebejiilpedlmaaGreatDoor
