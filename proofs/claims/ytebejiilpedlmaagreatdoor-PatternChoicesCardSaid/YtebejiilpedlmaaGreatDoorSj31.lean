/- Part of a proof about the functions of this seat. -/
import Derived.Shelf.Strings.OnBuilder
import Derived.Shelf.LaysM
import Derived.Test.YtebejiilpedlmaaGreatDoorProg
import Derived.KernelRfl
import Derived.Test.YtebejiilpedlmaaGreatDoorNvPQ
set_option linter.unusedVariables false
set_option linter.unusedSimpArgs false
set_option maxRecDepth 100000
namespace Go.Proofs.YtebejiilpedlmaaGreatDoor
open Go.Shelf
def Tryz.lays156_ren : Go.Shelf.Ren := ⟨fun | 156 => 41 | 165 => 62 | 166 => 63 | 169 => 64 | 240 => 73 | 241 => 74 | 276 => 81 | 277 => 82 | n => n, fun | 31 => 65 | 9 => 9 | 3 => 3 | 4 => 4 | 0 => 0 | 20 => 20 | 72 => 92 | 76 => 96 | 70 => 90 | 37 => 62 | 75 => 95 | 127 => 106 | 164 => 110 | 5 => 5 | 80 => 98 | n => n, fun | n => n⟩
theorem Tryz.lays156 : Go.Proofs.Lays.n156 Tryz.prog Tryz.lays156_ren where
  mixed := by kernel_rfl
  f156 := Tryz.func41.trans (congrArg some (by kernel_rfl))
  f165 := Tryz.func62.trans (congrArg some (by kernel_rfl))
  f166 := Tryz.func63.trans (congrArg some (by kernel_rfl))
  f169 := Tryz.func64.trans (congrArg some (by kernel_rfl))
  f240 := Tryz.func73.trans (congrArg some (by kernel_rfl))
  f241 := Tryz.func74.trans (congrArg some (by kernel_rfl))
  f276 := Tryz.func81.trans (congrArg some (by kernel_rfl))
  f277 := Tryz.func82.trans (congrArg some (by kernel_rfl))
  t0 := Tryz.underlying0
  a0 := Tryz.isAgg0
  z0 := Tryz.sizeOf0
  v0 := Tryz.zeroValue0
  t3 := Tryz.underlying3
  a3 := Tryz.isAgg3
  z3 := Tryz.sizeOf3
  v3 := Tryz.zeroValue3
  t4 := Tryz.underlying4
  a4 := Tryz.isAgg4
  z4 := Tryz.sizeOf4
  v4 := Tryz.zeroValue4
  t9 := Tryz.underlying9
  a9 := Tryz.isAgg9
  z9 := Tryz.sizeOf9
  v9 := Tryz.zeroValue9
  t20 := Tryz.underlying20
  a20 := Tryz.isAgg20
  z20 := Tryz.sizeOf20
  v20 := Tryz.zeroValue20
  t31 := Tryz.underlying65
  a31 := Tryz.isAgg65
  z31 := Tryz.sizeOf65
  v31 := Tryz.zeroValue65
  t37 := Tryz.underlying62
  a37 := Tryz.isAgg62
  z37 := Tryz.sizeOf62
  v37 := Tryz.zeroValue62
  t70 := Tryz.underlying90
  a70 := Tryz.isAgg90
  z70 := Tryz.sizeOf90
  v70 := Tryz.zeroValue90
  t72 := Tryz.underlying92
  a72 := Tryz.isAgg92
  z72 := Tryz.sizeOf92
  v72 := Tryz.zeroValue92
  t75 := Tryz.underlying95
  a75 := Tryz.isAgg95
  z75 := Tryz.sizeOf95
  v75 := Tryz.zeroValue95
  t76 := Tryz.underlying96
  a76 := Tryz.isAgg96
  z76 := Tryz.sizeOf96
  v76 := Tryz.zeroValue96
  t127 := Tryz.underlying106
  a127 := Tryz.isAgg106
  z127 := Tryz.sizeOf106
  v127 := Tryz.zeroValue106
  t164 := Tryz.underlying110
  a164 := Tryz.isAgg110
  z164 := Tryz.sizeOf110
  v164 := Tryz.zeroValue110
open Go.RowKit Go.Lib Nv
theorem extra156 : Builder.Extra Tryz.prog Tryz.lays156_ren where
  sizeBuilder := by kernel_rfl
  liesBuilder := by kernel_rfl
  t5 := by kernel_rfl
  a5 := fun w => by kernel_rfl
  z5 := fun w => by kernel_rfl
  v5 := fun w => by kernel_rfl
  infoByte := by kernel_rfl
  cellsByte := by kernel_rfl
  sizeByte := by kernel_rfl
  neB5 := by decide +kernel

/-- Strings laid side by side. -/
theorem PCall.of_strs {P : Go.Program} {f : Go.FuncId} {xs : List (List UInt8)} {sep : List UInt8} {r : AV} (hr : sc r = true)
    (h0 : ∀ (a : Option Go.Addr) (c : Nat) (w : Go.World), xs = [] → Go.Calls P f #[.slice a 0 c, .string ⟨sep.toArray⟩] w fun e w' => e = .returned (scv r) ∧ Below w.heap.size w w')
    (h : ∀ (b o c : Nat) (w : Go.World), (∀ (j : Nat) x, xs[j]? = some x → w.cell? ⟨b, o + j, none⟩ = some (.string ⟨x.toArray⟩)) → b < w.heap.size → xs.length ≤ c →
      Go.Calls P f #[.slice (some ⟨b, o, none⟩) xs.length c, .string ⟨sep.toArray⟩] w fun e w' => e = .returned (scv r) ∧ Below w.heap.size w w') :
    PCall P f [.d (.list 1 (xs.map DV.str)), .d (.str sep)] r := by
  intro σ ρ I w vs hrs hv
  have hv0 := (hv.2 0 _ rfl).d_inv
  have hv1 := (hv.2 1 _ rfl).d_inv.str_inv
  have hsz : vs.size = 2 := by have := hv.1; simpa using this.symm
  obtain ⟨v0, v1, rfl⟩ : ∃ v0 v1, vs = #[v0, v1] := by
    obtain ⟨l⟩ := vs
    match l, hsz with
    | [a, b], _ => exact ⟨a, b, rfl⟩
  simp only [Array.getD_eq_getD_getElem?, List.size_toArray, List.length_cons, List.length_nil, List.getElem?_toArray, List.getElem?_cons_zero, List.getElem?_cons_succ, Option.getD_some] at hv0 hv1
  subst hv1
  generalize hl : xs.map DV.str = l at hv0
  cases hv0 with
  | listNil _ p =>
    have hx : xs = [] := by simpa using hl
    refine (h0 p 0 w hx).mono ?_
    rintro e w' ⟨rfl, hb⟩
    exact ⟨ρ, I, σ, .ret r, Step.more ⟨hb.size, ⟨hb.os, hb.tape, hb.output⟩⟩ hb.block, hrs.more ⟨hb.size, ⟨hb.os, hb.tape, hb.output⟩⟩ hb.block, sc_V _ _ _ _ hr, rfl, rfl⟩
  | @list _ _ b o n c us q1 q2 q0 q3 q4 =>
    have hn : n = xs.length := by rw [q1, ← hl, List.length_map]
    rw [hn] at q2 ⊢
    have hf : ∀ (j : Nat) x, xs[j]? = some x → (flat l)[j]? = some (.str x) := by
      intro j x hj
      have hfl : flat l = l := by
        rw [← hl]
        clear hl h h0 q0 q1 q2 q3 q4 hj hv hn
        induction xs with
        | nil => rfl
        | cons y ys ih => simp only [List.map_cons, flat, List.flatMap_cons, DV.cells] at ih ⊢; rw [ih]; rfl
      rw [hfl, ← hl, List.getElem?_map, hj]; rfl
    have hcells : ∀ (j : Nat) x, xs[j]? = some x → w.cell? ⟨b, o + j, none⟩ = some (.string ⟨x.toArray⟩) := by
      intro j x hj
      rw [(q3 j _ (hf j x hj)).2, (q4 j _ (hf j x hj)).str_inv]
    cases hxs : xs with
    | nil =>
      subst hxs
      refine (h0 (some ⟨b, o, none⟩) c w rfl).mono ?_
      rintro e w' ⟨rfl, hb⟩
      exact ⟨ρ, I, σ, .ret r, Step.more ⟨hb.size, ⟨hb.os, hb.tape, hb.output⟩⟩ hb.block, hrs.more ⟨hb.size, ⟨hb.os, hb.tape, hb.output⟩⟩ hb.block, sc_V _ _ _ _ hr, rfl, rfl⟩
    | cons y ys =>
      have hb : b < w.heap.size := hrs.bound _ (q3 0 _ (hf 0 y (by rw [hxs]; rfl))).1
      rw [← hxs]
      refine (h b o c w hcells hb q2).mono ?_
      rintro e w' ⟨rfl, hb⟩
      exact ⟨ρ, I, σ, .ret r, Step.more ⟨hb.size, ⟨hb.os, hb.tape, hb.output⟩⟩ hb.block, hrs.more ⟨hb.size, ⟨hb.os, hb.tape, hb.output⟩⟩ hb.block, sc_V _ _ _ _ hr, rfl, rfl⟩

theorem join_call (xs : List (List UInt8)) (sep : List UInt8) (hN : xs.length ≤ 140737488355328) (hlen : (Lib.join xs sep).length ≤ 140737488355328) :
    PCall Tryz.prog 41 [.d (.list 1 (xs.map DV.str)), .d (.str sep)] (.d (.str (Lib.join xs sep))) := by
  have e : (xs.map fun x => (⟨x.toArray⟩ : ByteArray)).map (·.data.toList) = xs := by rw [List.map_map]; exact (List.map_congr_left fun x _ => rfl).trans (List.map_id _)
  refine PCall.of_strs rfl (fun a c w hx => ?_) (fun b o c w hc hb hle => ?_)
  · subst hx
    exact (Any.strings_Join_none Tryz.lays156 extra156 a c ⟨sep.toArray⟩ w).mono fun e w' ⟨h1, h2⟩ => ⟨h1, h2 ▸ Below.refl _ _⟩
  · have := Any.strings_Join Tryz.lays156 extra156 b o c (xs.map fun x => ⟨x.toArray⟩) ⟨sep.toArray⟩ w (fun j x hj => by
      rw [List.getElem?_map, Option.map_eq_some_iff] at hj
      obtain ⟨y, hy, rfl⟩ := hj
      exact hc j y hy) hb (by simpa using hN) (by simpa using hle) (by rw [e]; exact hlen)
    rw [e, List.length_map] at this
    exact this
end Go.Proofs.YtebejiilpedlmaaGreatDoor
