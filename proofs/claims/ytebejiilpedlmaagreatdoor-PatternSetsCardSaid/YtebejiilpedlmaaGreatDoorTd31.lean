/- Part of a proof about the functions of this seat. -/
import Derived.Test.YtebejiilpedlmaaGreatDoorNO31
import Derived.Test.YtebejiilpedlmaaGreatDoorNvR
set_option linter.unusedVariables false
set_option linter.unusedSimpArgs false
set_option maxRecDepth 100000
namespace Go.Proofs.YtebejiilpedlmaaGreatDoor
open Go Nv Pat
/- What comes in, as trees. -/
theorem int_td {n : Nat} {t : TypeId} {k : IntKind} {ds : List DV} (ht : Tryz.prog.underlying t = some (.int k)) (h : TD Tryz.prog n t ds) : ∃ z, ds = [.int k z] ∧ (Lit.int k z).wf = true := by
  cases n with
  | zero => exact h.elim
  | succ n => simp only [TD, ht] at h; exact h
theorem str_td {n : Nat} {t : TypeId} {ds : List DV} (ht : Tryz.prog.underlying t = some .string) (h : TD Tryz.prog n t ds) : ∃ s, ds = [.str s] := by
  cases n with
  | zero => exact h.elim
  | succ n => simp only [TD, ht] at h; obtain ⟨s, h, _⟩ := h; exact ⟨s, h⟩
theorem rows_of {α : Type} {Q : DV → Prop} {f : α → DV} : ∀ {xs : List DV}, (∀ x, x ∈ xs → ∃ a, x = f a) → ∃ l : List α, xs = l.map f
  | [], _ => ⟨[], rfl⟩
  | x :: xs, h => by
    obtain ⟨a, rfl⟩ := h x (by simp)
    obtain ⟨l, rfl⟩ := rows_of (Q := Q) (xs := xs) fun y hy => h y (by simp [hy])
    exact ⟨a :: l, rfl⟩
theorem range_td {n : Nat} {cs : List DV} (h : TD Tryz.prog n 44 cs) : ∃ r : Int × Int, cs = [.int .i32 r.1, .int .i32 r.2] := by
  cases n with
  | zero => exact h.elim
  | succ n =>
    simp only [TD, go_sem, List.mem_cons, List.not_mem_nil, or_false, forall_eq_or_imp, forall_eq] at h
    obtain ⟨hl, h0, h1⟩ := h
    match cs, hl with
    | [a, b], _ =>
      simp only [List.drop, List.take] at h0 h1
      obtain ⟨z0, e0, _⟩ := int_td Tryz.underlying21 h0
      obtain ⟨z1, e1, _⟩ := int_td Tryz.underlying21 h1
      simp only [List.cons.injEq, and_true] at e0 e1
      exact ⟨(z0, z1), by rw [e0, e1]⟩
theorem set_td {n : Nat} {ds : List DV} (h : TD Tryz.prog n 22 ds) : ∃ s, ds = [setD s] := by
  cases n with
  | zero => exact h.elim
  | succ n =>
    simp only [TD, go_sem] at h
    obtain ⟨xs, rfl, _, hx⟩ := h
    obtain ⟨l, rfl⟩ := rows_of (Q := fun _ => True) (f := rgD) fun x hm => by
      obtain ⟨cs, rfl, hc⟩ := hx x hm
      obtain ⟨r, rfl⟩ := range_td hc
      exact ⟨r, by simp only [ofCells, go_sem, rgD]⟩
    exact ⟨l, rfl⟩
theorem node_td : ∀ (n : Nat) {cs : List DV}, TD Tryz.prog n 25 cs → ∃ t : Tree, cs = nodeC t
  | 0, _, h => h.elim
  | 1, _, h => by
    simp only [TD, go_sem, List.mem_cons, List.not_mem_nil, or_false, forall_eq_or_imp, forall_eq] at h
  | n + 2, cs, h => by
    unfold TD at h
    simp only [go_sem, List.mem_cons, List.not_mem_nil, or_false, forall_eq_or_imp, forall_eq] at h
    obtain ⟨hl, h0, h1, h2, h3, h4⟩ := h
    match cs, hl with
    | [a, b, c, d, e], _ =>
      simp only [List.drop, List.take] at h0 h1 h2 h3 h4
      obtain ⟨z0, e0, _⟩ := int_td Tryz.underlying3 h0
      obtain ⟨s, e1⟩ := set_td h1
      obtain ⟨z3, e3, _⟩ := int_td Tryz.underlying3 h3
      obtain ⟨z4, e4, _⟩ := int_td Tryz.underlying3 h4
      unfold TD at h2
      simp only [go_sem] at h2
      obtain ⟨xs, e2, _, hx⟩ := h2
      obtain ⟨l, rfl⟩ := rows_of (Q := fun _ => True) (f := nodeD) fun x hm => by
        obtain ⟨cs, rfl, hc⟩ := hx x hm
        obtain ⟨t, rfl⟩ := node_td n hc
        exact ⟨t, by simp only [ofCells, go_sem, nodeD_eq]⟩
      simp only [List.cons.injEq, and_true] at e0 e1 e2 e3 e4
      exact ⟨.mk z0 s l z3 z4, by rw [e0, e1, e2, e3, e4]; simp only [nodeC, Tree.kind, Tree.set, Tree.sub, Tree.min, Tree.max]⟩
theorem nodes_td {n : Nat} {ds : List DV} (h : TD Tryz.prog n 23 ds) : ∃ l : List Tree, ds = [.list 5 (l.map nodeD)] := by
  cases n with
  | zero => exact h.elim
  | succ n =>
    unfold TD at h
    simp only [go_sem] at h
    obtain ⟨xs, rfl, _, hx⟩ := h
    obtain ⟨l, rfl⟩ := rows_of (Q := fun _ => True) (f := nodeD) fun x hm => by
      obtain ⟨cs, rfl, hc⟩ := hx x hm
      obtain ⟨t, rfl⟩ := node_td n hc
      exact ⟨t, by simp only [ofCells, go_sem, nodeD_eq]⟩
    exact ⟨l, rfl⟩
end Go.Proofs.YtebejiilpedlmaaGreatDoor
