/- The law NfaAlgebra of the package narratorlaw32 returns true for every input, and its arguments read afterwards as they read before; the package variables that the row lists hold what the program lays in them. -/
import Derived.Test.YtngdkenddfdhaaaGreatDoorG24Td32
import Derived.Test.YtngdkenddfdhaaaGreatDoorG22Fq32
import Derived.Test.YtngdkenddfdhaaaGreatDoorRows
import Derived.Test.YtngdkenddfdhaaaGreatDoorCards
import Derived.Test.YtngdkenddfdhaaaGreatDoorTie
import Derived.Lay
import Derived.MakeChecks
import Derived.Stop.Joined
import Derived.SevenTiedAt
set_option linter.unusedVariables false
set_option linter.unusedSimpArgs false
set_option maxRecDepth 100000
namespace Go.Proofs.YtngdkenddfdhaaaGreatDoor
open Go Nv
open Go.ChangeShapes Go.WideShapes Go.ChangeAt Go.RowKit
theorem liftedNfaAlgebra (os : Os) (started : os.Started) (H : Type) (enc : TypeId × Value → H) :
    ReturnsInHanded {} Tryz.checked os 5 .any (fun w args => (Rows.nfaAlgebraSpec.pre enc Tryz.prog Tryz.f5 [] false w args ∧ laidMetH Tryz.prog Rows.nfaAlgebraRow.laid w) ∧ sizedMet enc Tryz.prog Tryz.f5 (OpenSpec.ofChange Rows.nfaAlgebraSpec) false w args)
      (Rows.nfaAlgebraSpec.post enc Tryz.prog Tryz.f5 false true false false) := by
  refine handed_laid (C := Tryz.checked) (X := fun w => laidMetH Tryz.prog Rows.nfaAlgebraRow.laid w) (fun _ _ hh h => h.of_heap hh) (by kernel_rfl) started (by kernel_rfl) Tryz.func5
    (ChangeSpec.witness_shaped (enc := enc) (C := Tryz.checked) (os := os) (X := fun w _ => laidMetH Tryz.prog Rows.nfaAlgebraRow.laid w) false (World.laidAll Tryz.prog os Rows.nfaAlgebraRow.laid) #[.agg #[.int .i64 0, .slice none 0 0, .slice none 0 0, .int .i64 0, .int .i64 0], .agg #[.int .i64 0, .slice none 0 0, .slice none 0 0, .int .i64 0, .int .i64 0], .string ⟨#[]⟩, .string ⟨#[]⟩] 8 (World.laidAll_os _ _ _) (World.shaped_of_ZipB (by kernel_rfl) (by kernel_rfl)) (by kernel_rfl) (by kernel_rfl) (by kernel_rfl)
      (by rw [MakeChecks.laidMetH_plain _ _ _ (by kernel_rfl)]; exact laidMet_laidAll _ (by kernel_rfl) (by kernel_rfl))) ?_
  intro W base args ds gs before hval0 hW hz hsh hL
  have hval : ∀ (j : Nat) t v, Tryz.f5.params[j]? = some t → args[j]? = some v → Value.okWide Tryz.prog W .any base t v := hval0
  have hW' := hW
  have hT : Tabs Tryz.prog (fun b => b < W.heap.size) W := by
    rw [MakeChecks.laidMetH_plain _ _ _ (by kernel_rfl)] at hL
    exact tabs_of hsh (fun r T X => utf8Tabs_of_readsT T X (Go.Lib.laidMet.reads hL (by rw [← first_eq]; simp [Rows.nfaAlgebraRow])) (Go.Lib.laidMet.reads hL (by rw [← accept_eq]; simp [Rows.nfaAlgebraRow]))) (fun h => absurd (h.symm.trans (show (Tryz.prog.globalNamed powN).isSome = false by kernel_rfl)) (by decide))
  obtain ⟨p, q, hA0, hV, rfl, hfz, hnd⟩ := hW
  have hA : DataW.TrodAll enc Tryz.prog W 0 (fun _ => true) true Tryz.f5.params.toList args.toList ds p := hA0
  rw [Tryz.params5] at hA hval
  obtain ⟨v0, vs0, d0, ds0, p0, q0, hargs, rfl, rfl, h0, r0⟩ := trodAll_cons hA
  obtain ⟨v1, vs1, d1, ds1, p1, q1, rfl, rfl, rfl, h1, r1⟩ := trodAll_cons r0
  obtain ⟨v2, vs2, d2, ds2, p2, q2, rfl, rfl, rfl, h2, r2⟩ := trodAll_cons r1
  obtain ⟨v3, vs3, d3, ds3, p3, q3, rfl, rfl, rfl, h3, r3⟩ := trodAll_cons r2
  obtain ⟨rfl, rfl, rfl⟩ := trodAll_nil r3
  obtain rfl : args = #[v0, v1, v2, v3] := by cases args; simp_all
  obtain ⟨rfl, rfl⟩ := trodVars_none hV
  obtain ⟨n0, c0, t0, hv0⟩ := read_arg (ρ := fun _ => ⟨none, 0, 0⟩) (S := [25, 23, 22, 57, 21, 3, 9, 5]) (t := 25) (by kernel_rfl) (by kernel_rfl) h0 (hval 0 25 v0 rfl rfl)
  obtain ⟨l0, rfl⟩ := node_td _ t0
  simp only [avOf, go_sem, nodeC, List.map_cons, List.map_nil, List.headD_cons] at hv0
  obtain ⟨n1, c1, t1, hv1⟩ := read_arg (ρ := fun _ => ⟨none, 0, 0⟩) (S := [25, 23, 22, 57, 21, 3, 9, 5]) (t := 25) (by kernel_rfl) (by kernel_rfl) h1 (hval 1 25 v1 rfl rfl)
  obtain ⟨l1, rfl⟩ := node_td _ t1
  simp only [avOf, go_sem, nodeC, List.map_cons, List.map_nil, List.headD_cons] at hv1
  obtain ⟨n2, c2, t2, hv2⟩ := read_arg (ρ := fun _ => ⟨none, 0, 0⟩) (S := [25, 23, 22, 57, 21, 3, 9, 5]) (t := 9) (by kernel_rfl) (by kernel_rfl) h2 (hval 2 9 v2 rfl rfl)
  obtain ⟨s2, rfl⟩ := str_td Tryz.underlying9 t2
  simp only [avOf, go_sem, nodeC, List.map_cons, List.map_nil, List.headD_cons] at hv2
  have b2 := str_sized hz (j := 2) (by rw [Tryz.params5]; rfl) rfl Tryz.underlying9 (hval 2 9 v2 rfl rfl) h2 hv2
  obtain ⟨n3, c3, t3, hv3⟩ := read_arg (ρ := fun _ => ⟨none, 0, 0⟩) (S := [25, 23, 22, 57, 21, 3, 9, 5]) (t := 9) (by kernel_rfl) (by kernel_rfl) h3 (hval 3 9 v3 rfl rfl)
  obtain ⟨s3, rfl⟩ := str_td Tryz.underlying9 t3
  simp only [avOf, go_sem, nodeC, List.map_cons, List.map_nil, List.headD_cons] at hv3
  have b3 := str_sized hz (j := 3) (by rw [Tryz.params5]; rfl) rfl Tryz.underlying9 (hval 3 9 v3 rfl rfl) h3 hv3
  clear hA0 hval0
  refine ((law5 l0 l1 s2 s3 b2 b3).calls (W := W) (vs := #[v0, v1, v2, v3]) ⟨rfl, fun j a hj => ?_⟩ hT).mono fun e W' ⟨he, hB⟩ => ?_
  · match j, hj with
    | 0, hj => simp at hj; subst hj; exact hv0
    | 1, hj => simp at hj; subst hj; exact hv1
    | 2, hj => simp at hj; subst hj; exact hv2
    | 3, hj => simp at hj; subst hj; exact hv3
    | j + 4, hj => simp at hj
  · subst he
    refine ⟨_, rfl, law_post (tb := 4) (by kernel_rfl) ?_ rfl hW' rfl rfl rfl rfl Tryz.underlying4 hB⟩
    rw [Tryz.params5]
    intro t ht
    simp only [List.mem_cons, List.not_mem_nil, or_false] at ht
    rcases ht with rfl | rfl | rfl | rfl <;> exact ⟨by kernel_rfl, of_decide_eq_true (by kernel_rfl)⟩
theorem NfaAlgebra_row_holds : Rows.NfaAlgebraSaid :=
  OpenClaim.holds_of_wide 5 Tryz.f5 rfl rfl rfl rfl rfl rfl rfl ⟨rfl, rfl, rfl, rfl, rfl⟩ rfl rfl rfl rfl rfl (by kernel_rfl) Tryz.func5 (by kernel_rfl)
    (of_decide_eq_true (by kernel_rfl)) (by unfold Func.isWrapper; first | (rw [if_pos (by decide +kernel)]; kernel_rfl) | (rw [if_neg (by decide +kernel)]; exact ⟨rfl, rfl⟩))
    (fun os started H enc _ => liftedNfaAlgebra os started H enc)
theorem NfaAlgebra_holds : Rows.NfaAlgebraCardSaid :=
  Claim7.holds_tied_plain_at .later [] [.data, .pinned] true (true, "902a46a3926c1312a578f88bf996447d944b9a7b77fc77a7c7905e7372199c74") true
    NfaAlgebra_row_holds (fun _ h => by cases h) (by kernel_rfl) (fun _ h => by cases h) nfaAlgebra_row_tie rfl ⟨rfl, rfl⟩ (by kernel_rfl) rfl
    (fun f fn hf hfn => by
      obtain rfl : f = 5 := Option.some.inj ((show Tryz.prog.funcNamed Tryz.f5.name = some 5 by kernel_rfl).symm.trans hf) |>.symm
      obtain rfl : fn = Tryz.f5 := (Option.some.inj (Tryz.func5.symm.trans hfn)).symm
      exact ⟨by kernel_rfl, fun j t ht => by
        rw [Tryz.params5] at ht
        have hm : t ∈ [25, 25, 9, 9] := by simpa using Array.mem_of_getElem? ht
        have hall : ([25, 25, 9, 9].all fun u => !Tryz.prog.wantsStandIn u) = true := by kernel_rfl
        exact (show Tryz.prog.wantsStandIn t = false by simpa using List.all_eq_true.1 hall t hm)⟩)
    (by kernel_rfl)
end Go.Proofs.YtngdkenddfdhaaaGreatDoor
