/- The law ClassifyMost of the package narratorlaw37 returns true for every input, and its arguments read afterwards as they read before; the package variables that the row lists hold what the program lays in them. -/
import Derived.Test.YtegnibocbgngjaaDoorB37
import Derived.Test.YtegnibocbgngjaaDoorRows
import Derived.Test.YtegnibocbgngjaaDoorCards
import Derived.Test.YtegnibocbgngjaaDoorTie
import Derived.Test.YtegnibocbgngjaaDoorNvR
import Derived.Lay
import Derived.MakeChecks
import Derived.Stop.Joined
import Derived.SevenTiedAt
set_option linter.unusedVariables false
set_option linter.unusedSimpArgs false
set_option maxRecDepth 100000
namespace Go.Proofs.YtegnibocbgngjaaDoor
open Go Nv
open Go.ChangeShapes Go.WideShapes Go.ChangeAt Go.RowKit

theorem int_td {n : Nat} {t : TypeId} {k : IntKind} {ds : List DV} (ht : Tryd.prog.underlying t = some (.int k)) (h : TD Tryd.prog n t ds) : ∃ z, ds = [.int k z] := by
  cases n with
  | zero => exact h.elim
  | succ n =>
    simp only [TD, ht] at h
    obtain ⟨z, h, _⟩ := h
    exact ⟨z, h⟩
theorem verdict_td {n : Nat} {cs : List DV} (h : TD Tryd.prog n 25 cs) : ∃ v : Vd, cs = v.cs := by
  cases n with
  | zero => exact h.elim
  | succ n =>
    simp only [TD, go_sem, List.mem_cons, List.not_mem_nil, or_false, forall_eq_or_imp, forall_eq] at h
    obtain ⟨hl, h0, h1, h2⟩ := h
    match cs, hl with
    | [a, b, c], _ =>
      simp only [List.drop, List.take] at h0 h1 h2
      obtain ⟨z0, e0⟩ := int_td Tryd.underlying3 h0
      obtain ⟨z1, e1⟩ := int_td Tryd.underlying3 h1
      obtain ⟨z2, e2⟩ := int_td Tryd.underlying3 h2
      simp only [List.cons.injEq, and_true] at e0 e1 e2
      exact ⟨⟨z0, z1, z2⟩, by rw [e0, e1, e2]; rfl⟩
theorem verdicts_td {n : Nat} {ds : List DV} (h : TD Tryd.prog n 22 ds) : ∃ l : List Vd, avOf Tryd.prog 22 ds = verdicts l := by
  cases n with
  | zero => exact h.elim
  | succ n =>
    simp only [TD, go_sem] at h
    obtain ⟨xs, rfl, _, hx⟩ := h
    have : ∀ xs : List DV, (∀ x, x ∈ xs → ∃ cs, x = ofCells Tryd.prog 25 cs ∧ TD Tryd.prog n 25 cs) → ∃ l : List Vd, xs = l.map Vd.dv := by
      intro xs
      induction xs with
      | nil => intro _; exact ⟨[], rfl⟩
      | cons x xs ih =>
        intro h
        obtain ⟨cs, rfl, hc⟩ := h x (by simp)
        obtain ⟨g, rfl⟩ := verdict_td hc
        obtain ⟨l, rfl⟩ := ih (fun y hy => h y (by simp [hy]))
        exact ⟨g :: l, by simp only [ofCells, go_sem, List.map_cons, Vd.dv]⟩
    obtain ⟨l, rfl⟩ := this xs hx
    exact ⟨l, by simp only [avOf, go_sem, verdicts, List.headD_cons]⟩

theorem lifted (os : Os) (started : os.Started) (H : Type) (enc : TypeId × Value → H) :
    ReturnsInHanded {} Tryd.checked os 3 .any (fun w args => (Rows.classifyMostSpec.pre enc Tryd.prog Tryd.f3 [] false w args ∧ laidMetH Tryd.prog Rows.classifyMostRow.laid w) ∧ sizedMet enc Tryd.prog Tryd.f3 (OpenSpec.ofChange Rows.classifyMostSpec) false w args)
      (Rows.classifyMostSpec.post enc Tryd.prog Tryd.f3 false true false false) := by
  refine returnsInHanded_of_change_and (C := Tryd.checked) (X := fun w _ => laidMetH Tryd.prog Rows.classifyMostRow.laid w) (fun _ _ _ hh h => h.of_heap hh) (by kernel_rfl) started (by kernel_rfl) Tryd.func3
    (ChangeSpec.witness_shaped (enc := enc) (C := Tryd.checked) (os := os) (X := fun w _ => laidMetH Tryd.prog Rows.classifyMostRow.laid w) false (World.laidAll Tryd.prog os Rows.classifyMostRow.laid) #[.slice none 0 0] 8 (World.laidAll_os _ _ _) (World.shaped_of_ZipB (by kernel_rfl) (by kernel_rfl)) (by kernel_rfl) (by kernel_rfl) (by kernel_rfl)
      (by rw [MakeChecks.laidMetH_plain _ _ _ (by kernel_rfl)]; exact laidMet_laidAll _ (by kernel_rfl) (by kernel_rfl))) ?_
  intro W base args ds gs before hval0 hW _ _ hL _
  have hval : ∀ (j : Nat) t v, Tryd.f3.params[j]? = some t → args[j]? = some v → Value.okWide Tryd.prog W .any base t v := hval0
  have hW' := hW
  obtain ⟨p, q, hA0, hV, rfl, hfz, hnd⟩ := hW
  have hA : DataW.TrodAll enc Tryd.prog W 0 (fun _ => true) true Tryd.f3.params.toList args.toList ds p := hA0
  rw [Tryd.params3] at hA hval
  obtain ⟨v0, d0, rfl, rfl, h0⟩ := trodAll_one hA
  obtain ⟨rfl, rfl⟩ := trodVars_none hV
  obtain ⟨c0, t0, hv0⟩ := read_arg (ρ := fun _ => ⟨none, 0, 0⟩) (n := 4) (t := 22) (by kernel_rfl) h0 (hval 0 22 v0 rfl rfl)
  obtain ⟨l0, hl0⟩ := verdicts_td t0
  rw [hl0] at hv0
  clear hA0 hval0
  refine ((law3 l0).calls (W := W) (vs := #[v0]) ⟨rfl, fun j a hj => ?_⟩).mono fun e W' ⟨he, hB⟩ => ?_
  · match j, hj with
    | 0, hj => simp at hj; subst hj; exact hv0
    | j + 1, hj => simp at hj
  · subst he
    refine ⟨_, rfl, law_post (tb := 4) (by kernel_rfl) ?_ rfl hW' rfl rfl rfl rfl Tryd.underlying4 hB⟩
    rw [Tryd.params3]
    intro t ht
    simp only [List.mem_cons, List.not_mem_nil, or_false] at ht
    rcases ht with rfl <;> exact ⟨by kernel_rfl, of_decide_eq_true (by kernel_rfl)⟩

theorem ClassifyMost_row_holds : Rows.ClassifyMostSaid :=
  OpenClaim.holds_of_wide 3 Tryd.f3 rfl rfl rfl rfl rfl rfl rfl ⟨rfl, rfl, rfl, rfl, rfl⟩ rfl rfl rfl rfl rfl (by kernel_rfl) Tryd.func3 (by kernel_rfl)
    (of_decide_eq_true (by kernel_rfl)) (by unfold Func.isWrapper; first | (rw [if_pos (by decide +kernel)]; kernel_rfl) | (rw [if_neg (by decide +kernel)]; exact ⟨rfl, rfl⟩))
    (fun os started H enc _ => lifted os started H enc)

theorem ClassifyMost_holds : Rows.ClassifyMostCardSaid :=
  Claim7.holds_tied_plain_at .later [] [.data, .pinned] true (true, "f9bad2d5490229d8522a6075539025be0c929a4c2ffeb4387961dc255da2144d") true
    ClassifyMost_row_holds (fun _ h => by cases h) (by kernel_rfl) (fun _ h => by cases h) classifyMost_row_tie rfl ⟨rfl, rfl⟩ (by kernel_rfl) rfl
    (fun f fn hf hfn => by
      obtain rfl : f = 3 := Option.some.inj ((show Tryd.prog.funcNamed Tryd.f3.name = some 3 by kernel_rfl).symm.trans hf) |>.symm
      obtain rfl : fn = Tryd.f3 := (Option.some.inj (Tryd.func3.symm.trans hfn)).symm
      exact ⟨by kernel_rfl, fun j t ht => by
        rw [Tryd.params3] at ht
        have hm : t ∈ [22] := by simpa using Array.mem_of_getElem? ht
        have hall : ([22].all fun u => !Tryd.prog.wantsStandIn u) = true := by kernel_rfl
        exact (show Tryd.prog.wantsStandIn t = false by simpa using List.all_eq_true.1 hall t hm)⟩)
    (by kernel_rfl)
end Go.Proofs.YtegnibocbgngjaaDoor
