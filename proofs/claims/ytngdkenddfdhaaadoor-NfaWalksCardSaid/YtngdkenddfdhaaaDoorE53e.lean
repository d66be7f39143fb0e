/- The law NfaWalks of the package narratorlaw32 returns true for every input, and its arguments read afterwards as they read before; the package variables that the row lists hold what the program lays in them. -/
import Derived.Test.YtngdkenddfdhaaaDoorG23Dd3e
import Derived.Test.YtngdkenddfdhaaaDoorG22Fq3e
import Derived.Test.YtngdkenddfdhaaaDoorRows
import Derived.Test.YtngdkenddfdhaaaDoorCards
import Derived.Test.YtngdkenddfdhaaaDoorTie
import Derived.Lay
import Derived.MakeChecks
import Derived.Stop.Joined
import Derived.SevenTiedAt
set_option linter.unusedVariables false
set_option linter.unusedSimpArgs false
set_option maxRecDepth 100000
namespace Go.Proofs.YtngdkenddfdhaaaDoor
open Go Nv
open Go.ChangeShapes Go.WideShapes Go.ChangeAt Go.RowKit
theorem liftedNfaWalks (os : Os) (started : os.Started) (H : Type) (enc : TypeId × Value → H) :
    ReturnsInHanded {} Tryd.checked os 5 .any (fun w args => (Rows.nfaWalksSpec.pre enc Tryd.prog Tryd.f5 [] false w args ∧ laidMetH Tryd.prog Rows.nfaWalksRow.laid w) ∧ sizedMet enc Tryd.prog Tryd.f5 (OpenSpec.ofChange Rows.nfaWalksSpec) false w args)
      (Rows.nfaWalksSpec.post enc Tryd.prog Tryd.f5 false true false false) := by
  refine handed_laid (C := Tryd.checked) (X := fun w => laidMetH Tryd.prog Rows.nfaWalksRow.laid w) (fun _ _ hh h => h.of_heap hh) (by kernel_rfl) started (by kernel_rfl) Tryd.func5
    (ChangeSpec.witness_shaped (enc := enc) (C := Tryd.checked) (os := os) (X := fun w _ => laidMetH Tryd.prog Rows.nfaWalksRow.laid w) false (World.laidAll Tryd.prog os Rows.nfaWalksRow.laid) #[.agg #[.int .i64 0, .int .i64 0, .slice none 0 0, .slice none 0 0], .slice none 0 0] 8 (World.laidAll_os _ _ _) (World.shaped_of_ZipB (by kernel_rfl) (by kernel_rfl)) (by kernel_rfl) (by kernel_rfl) (by kernel_rfl)
      (by rw [MakeChecks.laidMetH_plain _ _ _ (by kernel_rfl)]; exact laidMet_laidAll _ (by kernel_rfl) (by kernel_rfl))) ?_
  intro W base args ds gs before hval0 hW hz hsh hL
  have hval : ∀ (j : Nat) t v, Tryd.f5.params[j]? = some t → args[j]? = some v → Value.okWide Tryd.prog W .any base t v := hval0
  have hW' := hW
  have hT : Tabs Tryd.prog (fun b => b < W.heap.size) W := by
    rw [MakeChecks.laidMetH_plain _ _ _ (by kernel_rfl)] at hL
    exact tabs_of hsh (fun r T X => utf8Tabs_of_readsT T X (Go.Lib.laidMet.reads hL (by rw [← first_eq]; simp [Rows.nfaWalksRow])) (Go.Lib.laidMet.reads hL (by rw [← accept_eq]; simp [Rows.nfaWalksRow]))) (fun h => absurd (h.symm.trans (show (Tryd.prog.globalNamed powN).isSome = false by kernel_rfl)) (by decide))
  obtain ⟨p, q, hA0, hV, rfl, hfz, hnd⟩ := hW
  have hA : DataW.TrodAll enc Tryd.prog W 0 (fun _ => true) true Tryd.f5.params.toList args.toList ds p := hA0
  rw [Tryd.params5] at hA hval
  obtain ⟨v0, vs0, d0, ds0, p0, q0, hargs, rfl, rfl, h0, r0⟩ := trodAll_cons hA
  obtain ⟨v1, vs1, d1, ds1, p1, q1, rfl, rfl, rfl, h1, r1⟩ := trodAll_cons r0
  obtain ⟨rfl, rfl, rfl⟩ := trodAll_nil r1
  obtain rfl : args = #[v0, v1] := by cases args; simp_all
  obtain ⟨rfl, rfl⟩ := trodVars_none hV
  obtain ⟨n0, c0, t0, hv0⟩ := read_arg (ρ := fun _ => ⟨none, 0, 0⟩) (S := [25, 22, 23, 40, 26, 45, 43, 21, 3, 37, 5]) (t := 25) (by kernel_rfl) (by kernel_rfl) h0 (hval 0 25 v0 rfl rfl)
  obtain ⟨A, rfl⟩ := au_td t0
  simp only [avOf, go_sem, auC, List.map_cons, List.map_nil, List.headD_cons] at hv0
  obtain ⟨n1, c1, t1, hv1⟩ := read_arg (ρ := fun _ => ⟨none, 0, 0⟩) (S := [25, 22, 23, 40, 26, 45, 43, 21, 3, 37, 5]) (t := 37) (by kernel_rfl) (by kernel_rfl) h1 (hval 1 37 v1 rfl rfl)
  obtain ⟨l, rfl⟩ := txt_td t1
  simp only [avOf, go_sem, auC, List.map_cons, List.map_nil, List.headD_cons] at hv1
  clear hA0 hval0
  refine ((law5 A l).calls (W := W) (vs := #[v0, v1]) ⟨rfl, fun j a hj => ?_⟩ hT).mono fun e W' ⟨he, hB⟩ => ?_
  · match j, hj with
    | 0, hj => simp at hj; subst hj; exact hv0
    | 1, hj => simp at hj; subst hj; exact hv1
    | j + 2, hj => simp at hj
  · subst he
    refine ⟨_, rfl, law_post (tb := 4) (by kernel_rfl) ?_ rfl hW' rfl rfl rfl rfl Tryd.underlying4 hB⟩
    rw [Tryd.params5]
    intro t ht
    simp only [List.mem_cons, List.not_mem_nil, or_false] at ht
    rcases ht with rfl | rfl <;> exact ⟨by kernel_rfl, of_decide_eq_true (by kernel_rfl)⟩
theorem NfaWalks_row_holds : Rows.NfaWalksSaid :=
  OpenClaim.holds_of_wide 5 Tryd.f5 rfl rfl rfl rfl rfl rfl rfl ⟨rfl, rfl, rfl, rfl, rfl⟩ rfl rfl rfl rfl rfl (by kernel_rfl) Tryd.func5 (by kernel_rfl)
    (of_decide_eq_true (by kernel_rfl)) (by unfold Func.isWrapper; first | (rw [if_pos (by decide +kernel)]; kernel_rfl) | (rw [if_neg (by decide +kernel)]; exact ⟨rfl, rfl⟩))
    (fun os started H enc _ => liftedNfaWalks os started H enc)
theorem NfaWalks_holds : Rows.NfaWalksCardSaid :=
  Claim7.holds_tied_plain_at .later [] [.data, .pinned] true (true, "0051148f5bca56fbbb17278bc616109b9bc8ddbc620dd5ce1b6034976d08f899") true
    NfaWalks_row_holds (fun _ h => by cases h) (by kernel_rfl) (fun _ h => by cases h) nfaWalks_row_tie rfl ⟨rfl, rfl⟩ (by kernel_rfl) rfl
    (fun f fn hf hfn => by
      obtain rfl : f = 5 := Option.some.inj ((show Tryd.prog.funcNamed Tryd.f5.name = some 5 by kernel_rfl).symm.trans hf) |>.symm
      obtain rfl : fn = Tryd.f5 := (Option.some.inj (Tryd.func5.symm.trans hfn)).symm
      exact ⟨by kernel_rfl, fun j t ht => by
        rw [Tryd.params5] at ht
        have hm : t ∈ [25, 37] := by simpa using Array.mem_of_getElem? ht
        have hall : ([25, 37].all fun u => !Tryd.prog.wantsStandIn u) = true := by kernel_rfl
        exact (show Tryd.prog.wantsStandIn t = false by simpa using List.all_eq_true.1 hall t hm)⟩)
    (by kernel_rfl)
end Go.Proofs.YtngdkenddfdhaaaDoor
