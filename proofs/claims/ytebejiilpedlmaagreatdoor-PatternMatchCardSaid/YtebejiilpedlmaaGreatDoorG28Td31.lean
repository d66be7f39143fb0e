/- Part of a proof about the functions of this seat. -/
import Derived.Shelf.Strings.OnBuilder
import Derived.Shelf.LaysM
import Derived.Test.YtebejiilpedlmaaGreatDoorProg
import Derived.KernelRfl
import Derived.Test.YtebejiilpedlmaaGreatDoorG10Q31
import Derived.Test.YtebejiilpedlmaaGreatDoorG09Base31
import Derived.Test.YtebejiilpedlmaaGreatDoorG27Sh31
import Derived.Test.YtebejiilpedlmaaGreatDoorG22Vu31
set_option linter.unusedVariables false
set_option linter.unusedSimpArgs false
set_option maxRecDepth 100000
namespace Go.Proofs.YtebejiilpedlmaaGreatDoor
open Go.Shelf
def Tryz.lays156_ren : Go.Shelf.Ren := ⟨fun | 156 => 41 | 165 => 62 | 166 => 63 | 169 => 64 | 240 => 73 | 241 => 74 | 276 => 81 | 277 => 82 | n => n, fun | 31 => 65 | 9 => 9 | 3 => 3 | 4 => 4 | 0 => 0 | 20 => 20 | 72 => 92 | 76 => 96 | 70 => 90 | 37 => 62 | 75 => 95 | 127 => 106 | 164 => 110 | 5 => 5 | 80 => 98 | n => n, fun | n => n⟩
theorem Tryz.lays156 : Go.Proofs.Lays.n156 Tryz.prog Tryz.lays156_ren where
  mixed := by kernel_rfl
  f156 := Tryz.func41.trans (congrArg some (by kernel_rfl))
  f165 := Tryz.func62.trans (congrArg some (by kernel_rfl))
  f166 := Tryz.func63.trans (congrArg some (by kernel_rfl))
  f169 := Tryz.func64.trans (congrArg some (by kernel_rfl))
  f240 := Tryz.func73.trans (congrArg some (by kernel_rfl))
  f241 := Tryz.func74.trans (congrArg some (by kernel_rfl))
  f276 := Tryz.func81.trans (congrArg some (by kernel_rfl))
  f277 := Tryz.func82.trans (congrArg some (by kernel_rfl))
  t0 := Tryz.underlying0
  a0 := Tryz.isAgg0
  z0 := Tryz.sizeOf0
  v0 := Tryz.zeroValue0
  t3 := Tryz.underlying3
  a3 := Tryz.isAgg3
  z3 := Tryz.sizeOf3
  v3 := Tryz.zeroValue3
  t4 := Tryz.underlying4
  a4 := Tryz.isAgg4
  z4 := Tryz.sizeOf4
  v4 := Tryz.zeroValue4
  t9 := Tryz.underlying9
  a9 := Tryz.isAgg9
  z9 := Tryz.sizeOf9
  v9 := Tryz.zeroValue9
  t20 := Tryz.underlying20
  a20 := Tryz.isAgg20
  z20 := Tryz.sizeOf20
  v20 := Tryz.zeroValue20
  t31 := Tryz.underlying65
  a31 := Tryz.isAgg65
  z31 := Tryz.sizeOf65
  v31 := Tryz.zeroValue65
  t37 := Tryz.underlying62
  a37 := Tryz.isAgg62
  z37 := Tryz.sizeOf62
  v37 := Tryz.zeroValue62
  t70 := Tryz.underlying90
  a70 := Tryz.isAgg90
  z70 := Tryz.sizeOf90
  v70 := Tryz.zeroValue90
  t72 := Tryz.underlying92
  a72 := Tryz.isAgg92
  z72 := Tryz.sizeOf92
  v72 := Tryz.zeroValue92
  t75 := Tryz.underlying95
  a75 := Tryz.isAgg95
  z75 := Tryz.sizeOf95
  v75 := Tryz.zeroValue95
  t76 := Tryz.underlying96
  a76 := Tryz.isAgg96
  z76 := Tryz.sizeOf96
  v76 := Tryz.zeroValue96
  t127 := Tryz.underlying106
  a127 := Tryz.isAgg106
  z127 := Tryz.sizeOf106
  v127 := Tryz.zeroValue106
  t164 := Tryz.underlying110
  a164 := Tryz.isAgg110
  z164 := Tryz.sizeOf110
  v164 := Tryz.zeroValue110
open Go.RowKit Go.Lib Nv
theorem extra156 : Builder.Extra Tryz.prog Tryz.lays156_ren where
  sizeBuilder := by kernel_rfl
  liesBuilder := by kernel_rfl
  t5 := by kernel_rfl
  a5 := fun w => by kernel_rfl
  z5 := fun w => by kernel_rfl
  v5 := fun w => by kernel_rfl
  infoByte := by kernel_rfl
  cellsByte := by kernel_rfl
  sizeByte := by kernel_rfl
  neB5 := by decide +kernel

/-- Strings laid side by side. -/
theorem PCall.of_strs {P : Go.Program} {f : Go.FuncId} {xs : List (List UInt8)} {sep : List UInt8} {r : AV} (hr : sc r = true)
    (h0 : ∀ (a : Option Go.Addr) (c : Nat) (w : Go.World), xs = [] → Go.Calls P f #[.slice a 0 c, .string ⟨sep.toArray⟩] w fun e w' => e = .returned (scv r) ∧ Below w.heap.size w w')
    (h : ∀ (b o c : Nat) (w : Go.World), (∀ (j : Nat) x, xs[j]? = some x → w.cell? ⟨b, o + j, none⟩ = some (.string ⟨x.toArray⟩)) → b < w.heap.size → xs.length ≤ c →
      Go.Calls P f #[.slice (some ⟨b, o, none⟩) xs.length c, .string ⟨sep.toArray⟩] w fun e w' => e = .returned (scv r) ∧ Below w.heap.size w w') :
    PCall P f [.d (.list 1 (xs.map DV.str)), .d (.str sep)] r := by
  intro σ ρ I w vs hrs hv
  have hv0 := (hv.2 0 _ rfl).d_inv
  have hv1 := (hv.2 1 _ rfl).d_inv.str_inv
  have hsz : vs.size = 2 := by have := hv.1; simpa using this.symm
  obtain ⟨v0, v1, rfl⟩ : ∃ v0 v1, vs = #[v0, v1] := by
    obtain ⟨l⟩ := vs
    match l, hsz with
    | [a, b], _ => exact ⟨a, b, rfl⟩
  simp only [Array.getD_eq_getD_getElem?, List.size_toArray, List.length_cons, List.length_nil, List.getElem?_toArray, List.getElem?_cons_zero, List.getElem?_cons_succ, Option.getD_some] at hv0 hv1
  subst hv1
  generalize hl : xs.map DV.str = l at hv0
  cases hv0 with
  | listNil _ p =>
    have hx : xs = [] := by simpa using hl
    refine (h0 p 0 w hx).mono ?_
    rintro e w' ⟨rfl, hb⟩
    exact ⟨ρ, I, σ, .ret r, Step.more ⟨hb.size, ⟨hb.os, hb.tape, hb.output⟩⟩ hb.block, hrs.more ⟨hb.size, ⟨hb.os, hb.tape, hb.output⟩⟩ hb.block, sc_V _ _ _ _ hr, rfl, rfl⟩
  | @list _ _ b o n c us q1 q2 q0 q3 q4 =>
    have hn : n = xs.length := by rw [q1, ← hl, List.length_map]
    rw [hn] at q2 ⊢
    have hf : ∀ (j : Nat) x, xs[j]? = some x → (flat l)[j]? = some (.str x) := by
      intro j x hj
      have hfl : flat l = l := by
        rw [← hl]
        clear hl h h0 q0 q1 q2 q3 q4 hj hv hn
        induction xs with
        | nil => rfl
        | cons y ys ih => simp only [List.map_cons, flat, List.flatMap_cons, DV.cells] at ih ⊢; rw [ih]; rfl
      rw [hfl, ← hl, List.getElem?_map, hj]; rfl
    have hcells : ∀ (j : Nat) x, xs[j]? = some x → w.cell? ⟨b, o + j, none⟩ = some (.string ⟨x.toArray⟩) := by
      intro j x hj
      rw [(q3 j _ (hf j x hj)).2, (q4 j _ (hf j x hj)).str_inv]
    cases hxs : xs with
    | nil =>
      subst hxs
      refine (h0 (some ⟨b, o, none⟩) c w rfl).mono ?_
      rintro e w' ⟨rfl, hb⟩
      exact ⟨ρ, I, σ, .ret r, Step.more ⟨hb.size, ⟨hb.os, hb.tape, hb.output⟩⟩ hb.block, hrs.more ⟨hb.size, ⟨hb.os, hb.tape, hb.output⟩⟩ hb.block, sc_V _ _ _ _ hr, rfl, rfl⟩
    | cons y ys =>
      have hb : b < w.heap.size := hrs.bound _ (q3 0 _ (hf 0 y (by rw [hxs]; rfl))).1
      rw [← hxs]
      refine (h b o c w hcells hb q2).mono ?_
      rintro e w' ⟨rfl, hb⟩
      exact ⟨ρ, I, σ, .ret r, Step.more ⟨hb.size, ⟨hb.os, hb.tape, hb.output⟩⟩ hb.block, hrs.more ⟨hb.size, ⟨hb.os, hb.tape, hb.output⟩⟩ hb.block, sc_V _ _ _ _ hr, rfl, rfl⟩

theorem join_call (xs : List (List UInt8)) (sep : List UInt8) (hN : xs.length ≤ 140737488355328) (hlen : (Lib.join xs sep).length ≤ 140737488355328) :
    PCall Tryz.prog 41 [.d (.list 1 (xs.map DV.str)), .d (.str sep)] (.d (.str (Lib.join xs sep))) := by
  have e : (xs.map fun x => (⟨x.toArray⟩ : ByteArray)).map (·.data.toList) = xs := by rw [List.map_map]; exact (List.map_congr_left fun x _ => rfl).trans (List.map_id _)
  refine PCall.of_strs rfl (fun a c w hx => ?_) (fun b o c w hc hb hle => ?_)
  · subst hx
    exact (Any.strings_Join_none Tryz.lays156 extra156 a c ⟨sep.toArray⟩ w).mono fun e w' ⟨h1, h2⟩ => ⟨h1, h2 ▸ Below.refl _ _⟩
  · have := Any.strings_Join Tryz.lays156 extra156 b o c (xs.map fun x => ⟨x.toArray⟩) ⟨sep.toArray⟩ w (fun j x hj => by
      rw [List.getElem?_map, Option.map_eq_some_iff] at hj
      obtain ⟨y, hy, rfl⟩ := hj
      exact hc j y hy) hb (by simpa using hN) (by simpa using hle) (by rw [e]; exact hlen)
    rw [e, List.length_map] at this
    exact this
end Go.Proofs.YtebejiilpedlmaaGreatDoor
set_option linter.unusedVariables false
set_option maxRecDepth 100000
namespace Go.Proofs.YtebejiilpedlmaaGreatDoor
open Go Nv

def hF (d : Nat) : Nat → Hint := fun i => bif Nat.beq i d then .freeze else .no
def hints : Nat → Nat → Hint
  | 28 => hF 20
  | 44 => hF 32
  | 67 => hF 6
  | 76 => hF 40
  | 59 => hF 3
  | 85 => hF 39
  | _ => fun _ => .no
def gcs : Nat → Bool
  | 11 => true
  | 14 => true
  | 17 => true
  | 18 => true
  | 34 => true
  | 13 => true
  | 25 => true
  | 26 => true
  | 51 => true
  | 43 => true
  | 66 => true
  | 12 => true
  | 41 => true
  | 105 => true
  | 106 => true
  | 113 => true
  | 42 => true
  | 40 => true
  | _ => false
def strsOf : List DV → Option (List (List UInt8))
  | [] => some []
  | .str s :: l => (strsOf l).map (s :: ·)
  | _ => none
theorem strsOf_eq : ∀ {l : List DV} {xs : List (List UInt8)}, strsOf l = some xs → l = xs.map DV.str
  | [], xs, h => by simp only [strsOf, Option.some.injEq] at h; subst h; rfl
  | x :: l, xs, h => by
    cases x <;> simp only [strsOf, Option.map_eq_some_iff, reduceCtorEq] at h
    obtain ⟨ys, hy, rfl⟩ := h
    rw [strsOf_eq hy]; rfl
def spec (g : Nat) (args : List AV) : Option AV :=
  bif Nat.beq g 72 then match args with
    | [.d (.str s), .d (.str [c])] => some (.d (.bool (decide (0 ≤ Lib.indexByte s c))))
    | _ => none
  else bif Nat.beq g 41 then match args with
    | [.d (.list 1 l), .d (.str sep)] => match strsOf l with
      | some xs => bif Nat.ble xs.length 1000 && Nat.ble (Lib.join xs sep).length 100000 then some (.d (.str (Lib.join xs sep))) else none
      | none => none
    | _ => none
  else none
noncomputable def E31 : Eenv := ⟨stdTab Tryz.prog hints gcs, spec, fun g => Nat.beq g 81⟩
theorem E31_ok : EnvOK Tryz.prog E31 := by
  refine ⟨stdTab_ok foll, ?_, ?_⟩
  · intro g args r h
    simp only [E31, spec] at h
    cases hg : Nat.beq g 72
    · rw [hg] at h
      simp only [cond_false] at h
      cases hg2 : Nat.beq g 41
      · rw [hg2] at h; cases h
      · have := Nat.eq_of_beq_eq_true hg2
        subst this
        rw [hg2] at h
        simp only [cond_true] at h
        split at h
        · split at h
          · rename_i xs hx
            cases hc : (Nat.ble xs.length 1000 && Nat.ble (Lib.join xs _).length 100000)
            · rw [hc] at h; cases h
            · rw [hc] at h
              simp only [Bool.and_eq_true, Nat.ble_eq] at hc
              simp only [cond_true, Option.some.injEq] at h
              subst h
              rw [strsOf_eq hx]
              exact ⟨join_call xs _ (by omega) (by omega), by kernel_rfl⟩
          · cases h
        · cases h
    · have := Nat.eq_of_beq_eq_true hg
      subst this
      rw [hg] at h
      simp only [cond_true] at h
      split at h
      · simp only [Option.some.injEq] at h; subst h; exact ⟨contains_one _ _, by kernel_rfl⟩
      · cases h
  · intro g h
    have : g = 81 := Nat.eq_of_beq_eq_true h
    subst this
    exact ⟨⟨Tryz.f81, Tryz.func81, by kernel_rfl, by kernel_rfl, by kernel_rfl, by kernel_rfl⟩, by kernel_rfl⟩
end Go.Proofs.YtebejiilpedlmaaGreatDoor
set_option linter.unusedVariables false
set_option maxRecDepth 100000
namespace Go.Proofs.YtebejiilpedlmaaGreatDoor
open Go Nv
def kI (n : Int) : DV := .int .i64 n
def kR (a b : Int) : DV := .agg [.int .i32 a, .int .i32 b]
def kS (a b : Int) : DV := .agg [kI 2, .list 2 [kR a b], .nilslice, kI 0, kI 0]
def kN1 : AV := .agg [.d (kI 4), .d .nilslice, .d (.list 5 [kS 97 97, .agg [kI 5, .nilslice, .list 5 [kS 98 98], kI 0, kI (-1)]]), .d (kI 0), .d (kI 0)]
def kN3 : AV := .agg [.d (kI 3), .d .nilslice, .d (.list 5 [kS 120 120, .agg [kI 5, .nilslice, .list 5 [kS 97 98], kI 1, kI (-1)]]), .d (kI 0), .d (kI 0)]
def kN0 : AV := .agg [.d (kI 0), .d .nilslice, .d .nilslice, .d (kI 0), .d (kI 0)]
def kP1 : List UInt8 := [97, 124, 98, 42]
def kP2 : List UInt8 := [91, 99, 45, 97, 98, 93]
def kP3 : List UInt8 := [40, 120, 41, 91, 98, 97, 93, 123, 49, 44, 125]
theorem kparse1 : PCall Tryz.prog 14 [.d (.str kP1)] (.tuple [kN1, .d (kI 0)]) := ev_pcall E31_ok (n := 400) (by kernel_rfl)
theorem kparse2 : PCall Tryz.prog 14 [.d (.str kP2)] (.tuple [kN0, .d (kI 3)]) := ev_pcall E31_ok (n := 400) (by kernel_rfl)
theorem kparse3 : PCall Tryz.prog 14 [.d (.str kP3)] (.tuple [kN3, .d (kI 0)]) := ev_pcall E31_ok (n := 600) (by kernel_rfl)
theorem kformat : PCall Tryz.prog 12 [kN3] (.tuple [.d (.str [120, 91, 97, 45, 98, 93, 43]), .d (kI 0)]) := ev_pcall E31_ok (n := 600) (by kernel_rfl)
theorem kmatch1 : PCall Tryz.prog 17 [kN1, .d (.str [97])] (.d (.bool true)) := ev_pcall E31_ok (n := 600) (by kernel_rfl)
theorem kmatch2 : PCall Tryz.prog 17 [kN1, .d (.str [])] (.d (.bool true)) := ev_pcall E31_ok (n := 600) (by kernel_rfl)
theorem kmatch3 : PCall Tryz.prog 17 [kN1, .d (.str [98, 98, 98])] (.d (.bool true)) := ev_pcall E31_ok (n := 600) (by kernel_rfl)
theorem kmatch4 : PCall Tryz.prog 17 [kN1, .d (.str [97, 98])] (.d (.bool false)) := ev_pcall E31_ok (n := 600) (by kernel_rfl)
def kK : List Known := ⟨14, [.d (.str kP1)], .tuple [kN1, .d (kI 0)]⟩ :: ⟨14, [.d (.str kP2)], .tuple [kN0, .d (kI 3)]⟩ :: ⟨14, [.d (.str kP3)], .tuple [kN3, .d (kI 0)]⟩ ::
  ⟨12, [kN3], .tuple [.d (.str [120, 91, 97, 45, 98, 93, 43]), .d (kI 0)]⟩ :: ⟨17, [kN1, .d (.str [97])], .d (.bool true)⟩ :: ⟨17, [kN1, .d (.str [])], .d (.bool true)⟩ ::
  ⟨17, [kN1, .d (.str [98, 98, 98])], .d (.bool true)⟩ :: ⟨17, [kN1, .d (.str [97, 98])], .d (.bool false)⟩ :: []
noncomputable def EK31 : Eenv := E31.know kK
theorem EK31_ok : EnvOK Tryz.prog EK31 := E31_ok.know ⟨⟨kparse1, by kernel_rfl⟩, ⟨kparse2, by kernel_rfl⟩, ⟨kparse3, by kernel_rfl⟩, ⟨kformat, by kernel_rfl⟩, ⟨kmatch1, by kernel_rfl⟩, ⟨kmatch2, by kernel_rfl⟩, ⟨kmatch3, by kernel_rfl⟩, ⟨kmatch4, by kernel_rfl⟩, trivial⟩
theorem awake11 : PCall Tryz.prog 11 [] (.d (.bool true)) := ev_pcall EK31_ok (n := 400) (by kernel_rfl)
end Go.Proofs.YtebejiilpedlmaaGreatDoor
set_option linter.unusedVariables false
set_option linter.unusedSimpArgs false
set_option maxRecDepth 100000
namespace Go.Proofs.YtebejiilpedlmaaGreatDoor
open Go Nv Pat
/- What comes in, as trees. -/
theorem int_td {n : Nat} {t : TypeId} {k : IntKind} {ds : List DV} (ht : Tryz.prog.underlying t = some (.int k)) (h : TD Tryz.prog n t ds) : ∃ z, ds = [.int k z] ∧ (Lit.int k z).wf = true := by
  cases n with
  | zero => exact h.elim
  | succ n => simp only [TD, ht] at h; exact h
theorem str_td {n : Nat} {t : TypeId} {ds : List DV} (ht : Tryz.prog.underlying t = some .string) (h : TD Tryz.prog n t ds) : ∃ s, ds = [.str s] := by
  cases n with
  | zero => exact h.elim
  | succ n => simp only [TD, ht] at h; obtain ⟨s, h, _⟩ := h; exact ⟨s, h⟩
theorem rows_of {α : Type} {Q : DV → Prop} {f : α → DV} : ∀ {xs : List DV}, (∀ x, x ∈ xs → ∃ a, x = f a) → ∃ l : List α, xs = l.map f
  | [], _ => ⟨[], rfl⟩
  | x :: xs, h => by
    obtain ⟨a, rfl⟩ := h x (by simp)
    obtain ⟨l, rfl⟩ := rows_of (Q := Q) (xs := xs) fun y hy => h y (by simp [hy])
    exact ⟨a :: l, rfl⟩
theorem range_td {n : Nat} {cs : List DV} (h : TD Tryz.prog n 44 cs) : ∃ r : Int × Int, cs = [.int .i32 r.1, .int .i32 r.2] := by
  cases n with
  | zero => exact h.elim
  | succ n =>
    simp only [TD, go_sem, List.mem_cons, List.not_mem_nil, or_false, forall_eq_or_imp, forall_eq] at h
    obtain ⟨hl, h0, h1⟩ := h
    match cs, hl with
    | [a, b], _ =>
      simp only [List.drop, List.take] at h0 h1
      obtain ⟨z0, e0, _⟩ := int_td Tryz.underlying21 h0
      obtain ⟨z1, e1, _⟩ := int_td Tryz.underlying21 h1
      simp only [List.cons.injEq, and_true] at e0 e1
      exact ⟨(z0, z1), by rw [e0, e1]⟩
theorem set_td {n : Nat} {ds : List DV} (h : TD Tryz.prog n 22 ds) : ∃ s, ds = [setD s] := by
  cases n with
  | zero => exact h.elim
  | succ n =>
    simp only [TD, go_sem] at h
    obtain ⟨xs, rfl, _, hx⟩ := h
    obtain ⟨l, rfl⟩ := rows_of (Q := fun _ => True) (f := rgD) fun x hm => by
      obtain ⟨cs, rfl, hc⟩ := hx x hm
      obtain ⟨r, rfl⟩ := range_td hc
      exact ⟨r, by simp only [ofCells, go_sem, rgD]⟩
    exact ⟨l, rfl⟩
theorem node_td : ∀ (n : Nat) {cs : List DV}, TD Tryz.prog n 25 cs → ∃ t : Tree, cs = nodeC t
  | 0, _, h => h.elim
  | 1, _, h => by
    simp only [TD, go_sem, List.mem_cons, List.not_mem_nil, or_false, forall_eq_or_imp, forall_eq] at h
  | n + 2, cs, h => by
    unfold TD at h
    simp only [go_sem, List.mem_cons, List.not_mem_nil, or_false, forall_eq_or_imp, forall_eq] at h
    obtain ⟨hl, h0, h1, h2, h3, h4⟩ := h
    match cs, hl with
    | [a, b, c, d, e], _ =>
      simp only [List.drop, List.take] at h0 h1 h2 h3 h4
      obtain ⟨z0, e0, _⟩ := int_td Tryz.underlying3 h0
      obtain ⟨s, e1⟩ := set_td h1
      obtain ⟨z3, e3, _⟩ := int_td Tryz.underlying3 h3
      obtain ⟨z4, e4, _⟩ := int_td Tryz.underlying3 h4
      unfold TD at h2
      simp only [go_sem] at h2
      obtain ⟨xs, e2, _, hx⟩ := h2
      obtain ⟨l, rfl⟩ := rows_of (Q := fun _ => True) (f := nodeD) fun x hm => by
        obtain ⟨cs, rfl, hc⟩ := hx x hm
        obtain ⟨t, rfl⟩ := node_td n hc
        exact ⟨t, by simp only [ofCells, go_sem, nodeD_eq]⟩
      simp only [List.cons.injEq, and_true] at e0 e1 e2 e3 e4
      exact ⟨.mk z0 s l z3 z4, by rw [e0, e1, e2, e3, e4]; simp only [nodeC, Tree.kind, Tree.set, Tree.sub, Tree.min, Tree.max]⟩
theorem nodes_td {n : Nat} {ds : List DV} (h : TD Tryz.prog n 23 ds) : ∃ l : List Tree, ds = [.list 5 (l.map nodeD)] := by
  cases n with
  | zero => exact h.elim
  | succ n =>
    unfold TD at h
    simp only [go_sem] at h
    obtain ⟨xs, rfl, _, hx⟩ := h
    obtain ⟨l, rfl⟩ := rows_of (Q := fun _ => True) (f := nodeD) fun x hm => by
      obtain ⟨cs, rfl, hc⟩ := hx x hm
      obtain ⟨t, rfl⟩ := node_td n hc
      exact ⟨t, by simp only [ofCells, go_sem, nodeD_eq]⟩
    exact ⟨l, rfl⟩
end Go.Proofs.YtebejiilpedlmaaGreatDoor
