/- The law SearchLetters of the package narratorlaw56 returns true for every input, and its arguments read afterwards as they read before; the package variables that the row lists hold what the program lays in them. -/
import Derived.Test.YtfnddhbiolpmgaaGreatDoorG25Hh56
import Derived.Test.YtfnddhbiolpmgaaGreatDoorG20Pars
import Derived.Test.YtfnddhbiolpmgaaGreatDoorRows
import Derived.Test.YtfnddhbiolpmgaaGreatDoorCards
import Derived.Test.YtfnddhbiolpmgaaGreatDoorTie
import Derived.Test.YtfnddhbiolpmgaaGreatDoorG19NvR
import Derived.Lay
import Derived.MakeChecks
import Derived.Stop.Joined
import Derived.SevenTiedAt
set_option linter.unusedVariables false
set_option linter.unusedSimpArgs false
set_option maxRecDepth 100000
namespace Go.Proofs.YtfnddhbiolpmgaaGreatDoor
open Go Nv
open Go.ChangeShapes Go.WideShapes Go.ChangeAt Go.RowKit
theorem liftedSearchLetters (os : Os) (started : os.Started) (H : Type) (enc : TypeId × Value → H) :
    ReturnsInHanded {} Tryz.checked os 3 .any (fun w args => (Rows.searchLettersSpec.pre enc Tryz.prog Tryz.f3 [] false w args ∧ laidMetH Tryz.prog Rows.searchLettersRow.laid w) ∧ sizedMet enc Tryz.prog Tryz.f3 (OpenSpec.ofChange Rows.searchLettersSpec) false w args)
      (Rows.searchLettersSpec.post enc Tryz.prog Tryz.f3 false true false false) := by
  refine handed_laid (C := Tryz.checked) (X := fun w => laidMetH Tryz.prog Rows.searchLettersRow.laid w) (fun _ _ hh h => h.of_heap hh) (by kernel_rfl) started (by kernel_rfl) Tryz.func3
    (ChangeSpec.witness_shaped (enc := enc) (C := Tryz.checked) (os := os) (X := fun w _ => laidMetH Tryz.prog Rows.searchLettersRow.laid w) false (World.laidAll Tryz.prog os Rows.searchLettersRow.laid) #[.slice none 0 0, .slice none 0 0] 8 (World.laidAll_os _ _ _) (World.shaped_of_ZipB (by kernel_rfl) (by kernel_rfl)) (by kernel_rfl) (by kernel_rfl) (by kernel_rfl)
      (by rw [MakeChecks.laidMetH_plain _ _ _ (by kernel_rfl)]; exact laidMet_laidAll _ (by kernel_rfl) (by kernel_rfl))) ?_
  intro W base args ds gs before hval0 hW hz hsh hL
  have hval : ∀ (j : Nat) t v, Tryz.f3.params[j]? = some t → args[j]? = some v → Value.okWide Tryz.prog W .any base t v := hval0
  have hW' := hW
  have hT : Tabs Tryz.prog (fun b => b < W.heap.size) W := by
    rw [MakeChecks.laidMetH_plain _ _ _ (by kernel_rfl)] at hL
    exact tabs_of hsh (fun r T X => utf8Tabs_of_readsT T X (Go.Lib.laidMet.reads hL (by rw [← first_eq]; simp [Rows.searchLettersRow])) (Go.Lib.laidMet.reads hL (by rw [← accept_eq]; simp [Rows.searchLettersRow]))) (fun h => absurd (h.symm.trans (show (Tryz.prog.globalNamed powN).isSome = false by kernel_rfl)) (by decide))
  obtain ⟨p, q, hA0, hV, rfl, hfz, hnd⟩ := hW
  have hA : DataW.TrodAll enc Tryz.prog W 0 (fun _ => true) true Tryz.f3.params.toList args.toList ds p := hA0
  rw [Tryz.params3] at hA hval
  obtain ⟨v0, vs0, d0, ds0, p0, q0, hargs, rfl, rfl, h0, r0⟩ := trodAll_cons hA
  obtain ⟨v1, vs1, d1, ds1, p1, q1, rfl, rfl, rfl, h1, r1⟩ := trodAll_cons r0
  obtain ⟨rfl, rfl, rfl⟩ := trodAll_nil r1
  obtain rfl : args = #[v0, v1] := by cases args; simp_all
  obtain ⟨rfl, rfl⟩ := trodVars_none hV
  obtain ⟨n0, c0, t0, hv0⟩ := read_arg (ρ := fun _ => ⟨none, 0, 0⟩) (S := [22, 5]) (t := 22) (by kernel_rfl) (by kernel_rfl) h0 (hval 0 22 v0 rfl rfl)
  obtain ⟨x, rfl⟩ := txt_td t0
  simp only [avOf, go_sem, spanV, List.map_cons, List.map_nil, List.headD_cons] at hv0
  obtain ⟨n1, c1, t1, hv1⟩ := read_arg (ρ := fun _ => ⟨none, 0, 0⟩) (S := [22, 5]) (t := 22) (by kernel_rfl) (by kernel_rfl) h1 (hval 1 22 v1 rfl rfl)
  obtain ⟨y, rfl⟩ := txt_td t1
  simp only [avOf, go_sem, spanV, List.map_cons, List.map_nil, List.headD_cons] at hv1
  clear hA0 hval0
  refine ((law3 x y).calls (W := W) (vs := #[v0, v1]) ⟨rfl, fun j a hj => ?_⟩ hT).mono fun e W' ⟨he, hB⟩ => ?_
  · match j, hj with
    | 0, hj => simp at hj; subst hj; exact hv0
    | 1, hj => simp at hj; subst hj; exact hv1
    | j + 2, hj => simp at hj
  · subst he
    refine ⟨_, rfl, law_post (tb := 4) (by kernel_rfl) ?_ rfl hW' rfl rfl rfl rfl Tryz.underlying4 hB⟩
    rw [Tryz.params3]
    intro t ht
    simp only [List.mem_cons, List.not_mem_nil, or_false] at ht
    rcases ht with rfl | rfl <;> exact ⟨by kernel_rfl, of_decide_eq_true (by kernel_rfl)⟩
theorem SearchLetters_row_holds : Rows.SearchLettersSaid :=
  OpenClaim.holds_of_wide 3 Tryz.f3 rfl rfl rfl rfl rfl rfl rfl ⟨rfl, rfl, rfl, rfl, rfl⟩ rfl rfl rfl rfl rfl (by kernel_rfl) Tryz.func3 (by kernel_rfl)
    (of_decide_eq_true (by kernel_rfl)) (by unfold Func.isWrapper; first | (rw [if_pos (by decide +kernel)]; kernel_rfl) | (rw [if_neg (by decide +kernel)]; exact ⟨rfl, rfl⟩))
    (fun os started H enc _ => liftedSearchLetters os started H enc)
theorem SearchLetters_holds : Rows.SearchLettersCardSaid :=
  Claim7.holds_tied_plain_at .later [] [.data, .pinned] true (true, "c05cb87068cfc496147c20f498f672a51ace9e991c47f3e3ea316325a0a0e8fc") true
    SearchLetters_row_holds (fun _ h => by cases h) (by kernel_rfl) (fun _ h => by cases h) searchLetters_row_tie rfl ⟨rfl, rfl⟩ (by kernel_rfl) rfl
    (fun f fn hf hfn => by
      obtain rfl : f = 3 := Option.some.inj ((show Tryz.prog.funcNamed Tryz.f3.name = some 3 by kernel_rfl).symm.trans hf) |>.symm
      obtain rfl : fn = Tryz.f3 := (Option.some.inj (Tryz.func3.symm.trans hfn)).symm
      exact ⟨by kernel_rfl, fun j t ht => by
        rw [Tryz.params3] at ht
        have hm : t ∈ [22, 22] := by simpa using Array.mem_of_getElem? ht
        have hall : ([22, 22].all fun u => !Tryz.prog.wantsStandIn u) = true := by kernel_rfl
        exact (show Tryz.prog.wantsStandIn t = false by simpa using List.all_eq_true.1 hall t hm)⟩)
    (by kernel_rfl)
end Go.Proofs.YtfnddhbiolpmgaaGreatDoor
