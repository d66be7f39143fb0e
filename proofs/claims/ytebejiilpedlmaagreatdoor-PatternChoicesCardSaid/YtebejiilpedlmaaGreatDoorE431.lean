/- The law PatternChoices of the package narratorlaw31 returns true for every input, and its arguments read afterwards as they read before; the package variables that the row lists hold what the program lays in them. -/
import Derived.Test.YtebejiilpedlmaaGreatDoorZ31
import Derived.Test.YtebejiilpedlmaaGreatDoorKn31
import Derived.Test.YtebejiilpedlmaaGreatDoorTab31
import Derived.Test.YtebejiilpedlmaaGreatDoorTd31
import Derived.Test.YtebejiilpedlmaaGreatDoorRows
import Derived.Test.YtebejiilpedlmaaGreatDoorCards
import Derived.Test.YtebejiilpedlmaaGreatDoorTie
import Derived.Test.YtebejiilpedlmaaGreatDoorNvR
import Derived.Lay
import Derived.MakeChecks
import Derived.Stop.Joined
import Derived.SevenTiedAt
set_option linter.unusedVariables false
set_option linter.unusedSimpArgs false
set_option maxRecDepth 100000
namespace Go.Proofs.YtebejiilpedlmaaGreatDoor
open Go Nv
open Go.ChangeShapes Go.WideShapes Go.ChangeAt Go.RowKit

theorem liftedPatternChoices (os : Os) (started : os.Started) (H : Type) (enc : TypeId × Value → H) :
    ReturnsInHanded {} Tryz.checked os 4 .any (fun w args => (Rows.patternChoicesSpec.pre enc Tryz.prog Tryz.f4 [] false w args ∧ laidMetH Tryz.prog Rows.patternChoicesRow.laid w) ∧ sizedMet enc Tryz.prog Tryz.f4 (OpenSpec.ofChange Rows.patternChoicesSpec) false w args)
      (Rows.patternChoicesSpec.post enc Tryz.prog Tryz.f4 false true false false) := by
  refine handed_laid (C := Tryz.checked) (X := fun w => laidMetH Tryz.prog Rows.patternChoicesRow.laid w) (fun _ _ hh h => h.of_heap hh) (by kernel_rfl) started (by kernel_rfl) Tryz.func4
    (ChangeSpec.witness_shaped (enc := enc) (C := Tryz.checked) (os := os) (X := fun w _ => laidMetH Tryz.prog Rows.patternChoicesRow.laid w) false (World.laidAll Tryz.prog os Rows.patternChoicesRow.laid) #[.slice none 0 0, .string ⟨#[]⟩] 8 (World.laidAll_os _ _ _) (World.shaped_of_ZipB (by kernel_rfl) (by kernel_rfl)) (by kernel_rfl) (by kernel_rfl) (by kernel_rfl)
      (by rw [MakeChecks.laidMetH_plain _ _ _ (by kernel_rfl)]; exact laidMet_laidAll _ (by kernel_rfl) (by kernel_rfl))) ?_
  intro W base args ds gs before hval0 hW hz hsh hL
  have hval : ∀ (j : Nat) t v, Tryz.f4.params[j]? = some t → args[j]? = some v → Value.okWide Tryz.prog W .any base t v := hval0
  have hW' := hW
  have hT : Tabs Tryz.prog (fun b => b < W.heap.size) W := by
    rw [MakeChecks.laidMetH_plain _ _ _ (by kernel_rfl)] at hL
    exact tabs_of hsh fun r T X => utf8Tabs_of_readsT T X (Go.Lib.laidMet.reads hL (by rw [← first_eq]; simp [Rows.patternChoicesRow])) (Go.Lib.laidMet.reads hL (by rw [← accept_eq]; simp [Rows.patternChoicesRow]))
  obtain ⟨p, q, hA0, hV, rfl, hfz, hnd⟩ := hW
  have hA : DataW.TrodAll enc Tryz.prog W 0 (fun _ => true) true Tryz.f4.params.toList args.toList ds p := hA0
  rw [Tryz.params4] at hA hval
  obtain ⟨v0, vs0, d0, ds0, p0, q0, hargs, rfl, rfl, h0, r0⟩ := trodAll_cons hA
  obtain ⟨v1, vs1, d1, ds1, p1, q1, rfl, rfl, rfl, h1, r1⟩ := trodAll_cons r0
  obtain ⟨rfl, rfl, rfl⟩ := trodAll_nil r1
  obtain rfl : args = #[v0, v1] := by cases args; simp_all
  obtain ⟨rfl, rfl⟩ := trodVars_none hV
  obtain ⟨n0, c0, t0, hv0⟩ := read_arg (ρ := fun _ => ⟨none, 0, 0⟩) (S := [25, 23, 22, 44, 21, 3, 9, 5]) (t := 23) (by kernel_rfl) (by kernel_rfl) h0 (hval 0 23 v0 rfl rfl)
  obtain ⟨l0, rfl⟩ := nodes_td t0
  simp only [avOf, go_sem, nodeC, List.map_cons, List.map_nil, List.headD_cons] at hv0
  obtain ⟨n1, c1, t1, hv1⟩ := read_arg (ρ := fun _ => ⟨none, 0, 0⟩) (S := [25, 23, 22, 44, 21, 3, 9, 5]) (t := 9) (by kernel_rfl) (by kernel_rfl) h1 (hval 1 9 v1 rfl rfl)
  obtain ⟨s1, rfl⟩ := str_td Tryz.underlying9 t1
  simp only [avOf, go_sem, nodeC, List.map_cons, List.map_nil, List.headD_cons] at hv1
  have b1 := str_sized hz (j := 1) (by rw [Tryz.params4]; rfl) rfl Tryz.underlying9 (hval 1 9 v1 rfl rfl) h1 hv1
  clear hA0 hval0
  refine ((law4 awake11 l0 s1).calls (W := W) (vs := #[v0, v1]) ⟨rfl, fun j a hj => ?_⟩ hT).mono fun e W' ⟨he, hB⟩ => ?_
  · match j, hj with
    | 0, hj => simp at hj; subst hj; exact hv0
    | 1, hj => simp at hj; subst hj; exact hv1
    | j + 2, hj => simp at hj
  · subst he
    refine ⟨_, rfl, law_post (tb := 4) (by kernel_rfl) ?_ rfl hW' rfl rfl rfl rfl Tryz.underlying4 hB⟩
    rw [Tryz.params4]
    intro t ht
    simp only [List.mem_cons, List.not_mem_nil, or_false] at ht
    rcases ht with rfl | rfl <;> exact ⟨by kernel_rfl, of_decide_eq_true (by kernel_rfl)⟩

theorem PatternChoices_row_holds : Rows.PatternChoicesSaid :=
  OpenClaim.holds_of_wide 4 Tryz.f4 rfl rfl rfl rfl rfl rfl rfl ⟨rfl, rfl, rfl, rfl, rfl⟩ rfl rfl rfl rfl rfl (by kernel_rfl) Tryz.func4 (by kernel_rfl)
    (of_decide_eq_true (by kernel_rfl)) (by unfold Func.isWrapper; first | (rw [if_pos (by decide +kernel)]; kernel_rfl) | (rw [if_neg (by decide +kernel)]; exact ⟨rfl, rfl⟩))
    (fun os started H enc _ => liftedPatternChoices os started H enc)

theorem PatternChoices_holds : Rows.PatternChoicesCardSaid :=
  Claim7.holds_tied_plain_at .later [] [.data, .data, .data, .data, .pinned] true (true, "d69808b254779cf5bcc3e27d0b219155c4ab8ebfaf462bdc330a14b8f310a33c") true
    PatternChoices_row_holds (fun _ h => by cases h) (by kernel_rfl) (fun _ h => by cases h) patternChoices_row_tie rfl ⟨rfl, rfl⟩ (by kernel_rfl) rfl
    (fun f fn hf hfn => by
      obtain rfl : f = 4 := Option.some.inj ((show Tryz.prog.funcNamed Tryz.f4.name = some 4 by kernel_rfl).symm.trans hf) |>.symm
      obtain rfl : fn = Tryz.f4 := (Option.some.inj (Tryz.func4.symm.trans hfn)).symm
      exact ⟨by kernel_rfl, fun j t ht => by
        rw [Tryz.params4] at ht
        have hm : t ∈ [23, 9] := by simpa using Array.mem_of_getElem? ht
        have hall : ([23, 9].all fun u => !Tryz.prog.wantsStandIn u) = true := by kernel_rfl
        exact (show Tryz.prog.wantsStandIn t = false by simpa using List.all_eq_true.1 hall t hm)⟩)
    (by kernel_rfl)
end Go.Proofs.YtebejiilpedlmaaGreatDoor
