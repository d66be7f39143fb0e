/- Part of a proof about the functions of this seat. -/
import Derived.Shelf.Strings.OnBuilder
import Derived.Shelf.LaysM
import Derived.Test.YtebejiilpedlmaaDoorProg
import Derived.KernelRfl
import Derived.Test.YtebejiilpedlmaaDoorNvPQ
set_option linter.unusedVariables false
set_option linter.unusedSimpArgs false
set_option maxRecDepth 100000
namespace Go.Proofs.YtebejiilpedlmaaDoor
open Go.Shelf
def Tryd.lays156_ren : Go.Shelf.Ren := ⟨fun | 156 => 26 | 165 => 40 | 166 => 41 | 169 => 42 | 240 => 49 | 241 => 50 | 276 => 55 | 277 => 56 | n => n, fun | 31 => 57 | 9 => 9 | 3 => 3 | 4 => 4 | 0 => 0 | 20 => 20 | 72 => 80 | 76 => 84 | 70 => 77 | 37 => 78 | 75 => 83 | 127 => 93 | 164 => 95 | 5 => 5 | 80 => 86 | n => n, fun | n => n⟩
theorem Tryd.lays156 : Go.Proofs.Lays.n156 Tryd.prog Tryd.lays156_ren where
  mixed := by kernel_rfl
  f156 := Tryd.func26.trans (congrArg some (by kernel_rfl))
  f165 := Tryd.func40.trans (congrArg some (by kernel_rfl))
  f166 := Tryd.func41.trans (congrArg some (by kernel_rfl))
  f169 := Tryd.func42.trans (congrArg some (by kernel_rfl))
  f240 := Tryd.func49.trans (congrArg some (by kernel_rfl))
  f241 := Tryd.func50.trans (congrArg some (by kernel_rfl))
  f276 := Tryd.func55.trans (congrArg some (by kernel_rfl))
  f277 := Tryd.func56.trans (congrArg some (by kernel_rfl))
  t0 := Tryd.underlying0
  a0 := Tryd.isAgg0
  z0 := Tryd.sizeOf0
  v0 := Tryd.zeroValue0
  t3 := Tryd.underlying3
  a3 := Tryd.isAgg3
  z3 := Tryd.sizeOf3
  v3 := Tryd.zeroValue3
  t4 := Tryd.underlying4
  a4 := Tryd.isAgg4
  z4 := Tryd.sizeOf4
  v4 := Tryd.zeroValue4
  t9 := Tryd.underlying9
  a9 := Tryd.isAgg9
  z9 := Tryd.sizeOf9
  v9 := Tryd.zeroValue9
  t20 := Tryd.underlying20
  a20 := Tryd.isAgg20
  z20 := Tryd.sizeOf20
  v20 := Tryd.zeroValue20
  t31 := Tryd.underlying57
  a31 := Tryd.isAgg57
  z31 := Tryd.sizeOf57
  v31 := Tryd.zeroValue57
  t37 := Tryd.underlying78
  a37 := Tryd.isAgg78
  z37 := Tryd.sizeOf78
  v37 := Tryd.zeroValue78
  t70 := Tryd.underlying77
  a70 := Tryd.isAgg77
  z70 := Tryd.sizeOf77
  v70 := Tryd.zeroValue77
  t72 := Tryd.underlying80
  a72 := Tryd.isAgg80
  z72 := Tryd.sizeOf80
  v72 := Tryd.zeroValue80
  t75 := Tryd.underlying83
  a75 := Tryd.isAgg83
  z75 := Tryd.sizeOf83
  v75 := Tryd.zeroValue83
  t76 := Tryd.underlying84
  a76 := Tryd.isAgg84
  z76 := Tryd.sizeOf84
  v76 := Tryd.zeroValue84
  t127 := Tryd.underlying93
  a127 := Tryd.isAgg93
  z127 := Tryd.sizeOf93
  v127 := Tryd.zeroValue93
  t164 := Tryd.underlying95
  a164 := Tryd.isAgg95
  z164 := Tryd.sizeOf95
  v164 := Tryd.zeroValue95
open Go.RowKit Go.Lib Nv
theorem extra156 : Builder.Extra Tryd.prog Tryd.lays156_ren where
  sizeBuilder := by kernel_rfl
  liesBuilder := by kernel_rfl
  t5 := by kernel_rfl
  a5 := fun w => by kernel_rfl
  z5 := fun w => by kernel_rfl
  v5 := fun w => by kernel_rfl
  infoByte := by kernel_rfl
  cellsByte := by kernel_rfl
  sizeByte := by kernel_rfl
  neB5 := by decide +kernel

/-- Strings laid side by side. -/
theorem PCall.of_strs {P : Go.Program} {f : Go.FuncId} {xs : List (List UInt8)} {sep : List UInt8} {r : AV} (hr : sc r = true)
    (h0 : ∀ (a : Option Go.Addr) (c : Nat) (w : Go.World), xs = [] → Go.Calls P f #[.slice a 0 c, .string ⟨sep.toArray⟩] w fun e w' => e = .returned (scv r) ∧ Below w.heap.size w w')
    (h : ∀ (b o c : Nat) (w : Go.World), (∀ (j : Nat) x, xs[j]? = some x → w.cell? ⟨b, o + j, none⟩ = some (.string ⟨x.toArray⟩)) → b < w.heap.size → xs.length ≤ c →
      Go.Calls P f #[.slice (some ⟨b, o, none⟩) xs.length c, .string ⟨sep.toArray⟩] w fun e w' => e = .returned (scv r) ∧ Below w.heap.size w w') :
    PCall P f [.d (.list 1 (xs.map DV.str)), .d (.str sep)] r := by
  intro σ ρ I w vs hrs hv
  have hv0 := (hv.2 0 _ rfl).d_inv
  have hv1 := (hv.2 1 _ rfl).d_inv.str_inv
  have hsz : vs.size = 2 := by have := hv.1; simpa using this.symm
  obtain ⟨v0, v1, rfl⟩ : ∃ v0 v1, vs = #[v0, v1] := by
    obtain ⟨l⟩ := vs
    match l, hsz with
    | [a, b], _ => exact ⟨a, b, rfl⟩
  simp only [Array.getD_eq_getD_getElem?, List.size_toArray, List.length_cons, List.length_nil, List.getElem?_toArray, List.getElem?_cons_zero, List.getElem?_cons_succ, Option.getD_some] at hv0 hv1
  subst hv1
  generalize hl : xs.map DV.str = l at hv0
  cases hv0 with
  | listNil _ p =>
    have hx : xs = [] := by simpa using hl
    refine (h0 p 0 w hx).mono ?_
    rintro e w' ⟨rfl, hb⟩
    exact ⟨ρ, I, σ, .ret r, Step.more ⟨hb.size, ⟨hb.os, hb.tape, hb.output⟩⟩ hb.block, hrs.more ⟨hb.size, ⟨hb.os, hb.tape, hb.output⟩⟩ hb.block, sc_V _ _ _ _ hr, rfl, rfl⟩
  | @list _ _ b o n c us q1 q2 q0 q3 q4 =>
    have hn : n = xs.length := by rw [q1, ← hl, List.length_map]
    rw [hn] at q2 ⊢
    have hf : ∀ (j : Nat) x, xs[j]? = some x → (flat l)[j]? = some (.str x) := by
      intro j x hj
      have hfl : flat l = l := by
        rw [← hl]
        clear hl h h0 q0 q1 q2 q3 q4 hj hv hn
        induction xs with
        | nil => rfl
        | cons y ys ih => simp only [List.map_cons, flat, List.flatMap_cons, DV.cells] at ih ⊢; rw [ih]; rfl
      rw [hfl, ← hl, List.getElem?_map, hj]; rfl
    have hcells : ∀ (j : Nat) x, xs[j]? = some x → w.cell? ⟨b, o + j, none⟩ = some (.string ⟨x.toArray⟩) := by
      intro j x hj
      rw [(q3 j _ (hf j x hj)).2, (q4 j _ (hf j x hj)).str_inv]
    cases hxs : xs with
    | nil =>
      subst hxs
      refine (h0 (some ⟨b, o, none⟩) c w rfl).mono ?_
      rintro e w' ⟨rfl, hb⟩
      exact ⟨ρ, I, σ, .ret r, Step.more ⟨hb.size, ⟨hb.os, hb.tape, hb.output⟩⟩ hb.block, hrs.more ⟨hb.size, ⟨hb.os, hb.tape, hb.output⟩⟩ hb.block, sc_V _ _ _ _ hr, rfl, rfl⟩
    | cons y ys =>
      have hb : b < w.heap.size := hrs.bound _ (q3 0 _ (hf 0 y (by rw [hxs]; rfl))).1
      rw [← hxs]
      refine (h b o c w hcells hb q2).mono ?_
      rintro e w' ⟨rfl, hb⟩
      exact ⟨ρ, I, σ, .ret r, Step.more ⟨hb.size, ⟨hb.os, hb.tape, hb.output⟩⟩ hb.block, hrs.more ⟨hb.size, ⟨hb.os, hb.tape, hb.output⟩⟩ hb.block, sc_V _ _ _ _ hr, rfl, rfl⟩

theorem join_call (xs : List (List UInt8)) (sep : List UInt8) (hN : xs.length ≤ 140737488355328) (hlen : (Lib.join xs sep).length ≤ 140737488355328) :
    PCall Tryd.prog 26 [.d (.list 1 (xs.map DV.str)), .d (.str sep)] (.d (.str (Lib.join xs sep))) := by
  have e : (xs.map fun x => (⟨x.toArray⟩ : ByteArray)).map (·.data.toList) = xs := by rw [List.map_map]; exact (List.map_congr_left fun x _ => rfl).trans (List.map_id _)
  refine PCall.of_strs rfl (fun a c w hx => ?_) (fun b o c w hc hb hle => ?_)
  · subst hx
    exact (Any.strings_Join_none Tryd.lays156 extra156 a c ⟨sep.toArray⟩ w).mono fun e w' ⟨h1, h2⟩ => ⟨h1, h2 ▸ Below.refl _ _⟩
  · have := Any.strings_Join Tryd.lays156 extra156 b o c (xs.map fun x => ⟨x.toArray⟩) ⟨sep.toArray⟩ w (fun j x hj => by
      rw [List.getElem?_map, Option.map_eq_some_iff] at hj
      obtain ⟨y, hy, rfl⟩ := hj
      exact hc j y hy) hb (by simpa using hN) (by simpa using hle) (by rw [e]; exact hlen)
    rw [e, List.length_map] at this
    exact this
end Go.Proofs.YtebejiilpedlmaaDoor
