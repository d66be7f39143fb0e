/- A string over a row of the call's own: soundness. -/
import Derived.Test.YtebejiilpedlmaaGreatDoorNvJ2
set_option linter.unusedVariables false
set_option linter.unusedSimpArgs false
namespace Nv
open Go

section
variable {P : Program} {ρ ρ' : RHO} {σ σ' : ST} {I I' : Nat → Prop} {w w' : World}

/- bytes -/
def isB : DV → Bool
  | .int .u8 n => decide (0 ≤ n ∧ n < 256)
  | _ => false
def ofB : DV → UInt8
  | .int _ n => n.toNat.toUInt8
  | _ => 0
@[go_sem] theorem isB_u8 (b : UInt8) : isB (.int .u8 (b.toNat : Nat)) = true := by
  have := b.toNat_lt
  simp [isB]; omega
@[go_sem] theorem ofB_u8 (b : UInt8) : ofB (.int .u8 (b.toNat : Nat)) = b := by simp [ofB]
theorem isB_cell {x : DV} (h : isB x = true) : x = .int .u8 ((ofB x).toNat : Nat) := by
  cases x <;> simp [isB] at h
  rename_i k n
  cases k <;> simp [isB] at h
  simp only [ofB, UInt8.toNat_ofNat']
  congr 1
  omega

def rUStr (P : Program) (t : TypeId) (x n : AV) (σ : ST) : Res :=
  match P.underlying t, x, n with
  | some (.pointer _), .aptr, .d (.int .i64 n) => .need (n = 0) (.ok (.d (.str [])) σ)
  | some (.pointer el), .eptr b g i o, .d (.int .i64 n) => match stGet σ b with
    | .arr g' e xs => .need (g = g' ∧ o = 0 ∧ e.n = 1 ∧ e.t = el ∧ P.cellsOf el = 1 ∧ 0 < n ∧ i + n.toNat ≤ xs.length ∧ n ≤ 9223372036854775807 ∧ ((xs.drop i).take n.toNat).all isB = true)
        (.ok (.d (.str (((xs.drop i).take n.toNat).map ofB))) (stSet σ b .dead))
    | _ => .bad
  | _, _, _ => .bad

theorem liesAt_bytes_at {e : TypeId} (hc : P.cellsOf e = 1) (count off n : Nat) (hn : off + n ≤ count) : liesAt P P.depth e count off e n = true := by
  have hd : P.depth = (2 * (P.types.size + Made.depth) + 1) + 1 := rfl
  rw [hd]
  simp only [liesAt, Bool.or_eq_true]
  left
  rw [hd]
  simp [rowAt, hc, hn, sameLayout, Nat.mod_one]

theorem run_unsafeString_at (ts : Array TypeId) (pt ty e : TypeId) (ht : ts[0]? = some pt) (hp : P.underlying pt = some (.pointer e)) (hc : P.cellsOf e = 1) (g off cells : Nat) (hsh : w.shape? g = some (e, cells)) (l : List UInt8) (h0 : l ≠ []) (hn : off + l.length ≤ cells) (h63 : l.length ≤ 9223372036854775807)
    (hcell : ∀ j x, l[j]? = some x → w.cell? ((⟨g, off, none⟩ : Addr).add j) = some (.int .u8 x.toNat)) :
    (Builtin.unsafeString_ ts ty #[.pointer (some ⟨g, off, none⟩), .int .i64 l.length]).run P w = .ok (.string ⟨l.toArray⟩) (w.freeze ⟨g, off, none⟩ l.length) := by
  have hl : l.length ≠ 0 := by simpa using h0
  have hlb := Lib.run_loadBytes (P := P) w l ⟨g, off, none⟩ .empty hcell
  have hlies := liesAt_bytes_at (P := P) hc (cells / P.cellsOf e) off l.length (by rw [hc]; simpa using hn)
  have h63' : ¬ (9223372036854775807 : Int) < (l.length : Int) := by omega
  obtain ⟨s1, s2, s3, s4, hdef⟩ : ∃ s1 s2 s3 s4 : String, Builtin.unsafeString_ ts ty #[.pointer (some ⟨g, off, none⟩), .int .i64 l.length] =
      (do
        let n ← asInt (.int .i64 l.length)
        let some pt := ts[0]? | stuck s1
        if n < 0 then runtimePanic (.error s2)
        if n > IntKind.i64.max then unsupported (.unsafePointer s3)
        if n = 0 then pure (.string .empty)
        else if ← variablesAt ⟨g, off, none⟩ (← elemOf pt) n.toNat then do
          let s ← loadBytes ⟨g, off, none⟩ .empty n.toNat
          freeze ⟨g, off, none⟩ n.toNat
          pure (.string s)
        else unsupported (.unsafePointer s4)) := ⟨_, _, _, _, rfl⟩
  rw [hdef]
  have hmax : IntKind.i64.max = 9223372036854775807 := rfl
  have hneg : ¬ (l.length : Int) < 0 := by omega
  simp [asInt, asIntOf, hmax, h63', hneg, hl, variablesAt, hsh, elemOf, run_underlying hp, hlies, hlb, ht]

theorem run_unsafeString_no (ts : Array TypeId) (pt ty : TypeId) (ht : ts[0]? = some pt) (p : Option Addr) : (Builtin.unsafeString_ ts ty #[.pointer p, .int .i64 0]).run P w = .ok (.string .empty) w := by
  have hmax : IntKind.i64.max = 9223372036854775807 := rfl
  cases p with
  | none =>
    obtain ⟨s1, s2, s3, s4, hdef⟩ : ∃ s1 s2 s3 s4 : String, Builtin.unsafeString_ ts ty #[.pointer none, .int .i64 0] =
        (do
          let n ← asInt (.int .i64 0)
          let some pt := ts[0]? | stuck s1
          if n < 0 then runtimePanic (.error s2)
          if n > IntKind.i64.max then unsupported (.unsafePointer s3)
          if n = 0 then pure (.string .empty)
          else runtimePanic (.error s4)) := ⟨_, _, _, _, rfl⟩
    rw [hdef]
    simp [asInt, asIntOf, hmax, ht]
  | some a =>
    obtain ⟨s1, s2, s3, s4, hdef⟩ : ∃ s1 s2 s3 s4 : String, Builtin.unsafeString_ ts ty #[.pointer (some a), .int .i64 0] =
        (do
          let n ← asInt (.int .i64 0)
          let some pt := ts[0]? | stuck s1
          if n < 0 then runtimePanic (.error s2)
          if n > IntKind.i64.max then unsupported (.unsafePointer s3)
          if n = 0 then pure (.string .empty)
          else if ← variablesAt a (← elemOf pt) n.toNat then do
            let s ← loadBytes a .empty n.toNat
            freeze a n.toNat
            pure (.string s)
          else unsupported (.unsafePointer s4)) := ⟨_, _, _, _, rfl⟩
    rw [hdef]
    simp [asInt, asIntOf, hmax, ht]

theorem rUStr_sound (hr : RS P ρ I w σ) (t ty : TypeId) (ts : Array TypeId) (x n : AV) (v u : Value) (ht : ts[0]? = some t) (hx : V ρ σ I w x v) (hn : V ρ σ I w n u) :
    Eff P ρ σ I w (Builtin.unsafeString_ ts ty #[v, u]) (rUStr P t x n σ) := by
  unfold rUStr
  split
  · rename_i pe n hp
    cases hn.d_inv.int_inv
    cases hx with | aptr p =>
    refine Eff.need fun h0 => ?_
    subst h0
    exact Pev.eff hr (.ok (run_unsafeString_no ts t ty ht p) (.d (.str [])))
  · rename_i el b g i o n hp
    cases hn.d_inv.int_inv
    split
    · rename_i g' e xs hst
      have hsb := stGet_some hst (by simp)
      have hblt : b < σ.length := by rcases Nat.lt_or_ge b σ.length with h' | h'; exact h'; simp [List.getElem?_eq_none h'] at hsb
      refine Eff.need fun ⟨hg, ho, he1, het, hc, hn0, hin, hnm, hall⟩ => ?_
      subst hg ho het
      cases hx with
      | eptrOld k1 k2 => rw [hsb] at k1; cases k1; exact absurd (k2 _ _ _ rfl) (by omega)
      | eptr k1 k2 =>
        rw [hsb] at k1; cases k1
        rename_i B
        obtain ⟨us, q1, q2, q3, q4, q5⟩ := hr.arr hsb k2
        rw [he1, Nat.mul_one] at q2
        rw [he1, Nat.mul_one, Nat.add_zero]
        have hcl : ∀ ys : List DV, (∀ y ∈ ys, isB y = true) → flat ys = ys := by
          intro ys h
          induction ys with
          | nil => rfl
          | cons y ys ih =>
            have h1 : y.cells = [y] := by rw [isB_cell (h y (by simp))]; rfl
            show y.cells ++ flat ys = _
            rw [h1, ih (fun z hz => h z (by simp [hz]))]; rfl
        have hall' : ∀ y ∈ (xs.drop i).take n.toNat, isB y = true := by simpa using hall
        have hlen : ((xs.drop i).take n.toNat).length = n.toNat := by simp; omega
        have hflat : ∀ j x, ((xs.drop i).take n.toNat)[j]? = some x → (flat xs)[i + j]? = some x := by
          intro j x hj
          have h1 : (flat ((xs.drop i).take n.toNat))[j]? = some x := by rw [hcl _ hall']; exact hj
          rw [flat_take (fun x hx => q4 x (List.mem_of_mem_drop hx)), flat_drop q4, he1, Nat.mul_one, Nat.mul_one, List.getElem?_take] at h1
          split at h1
          · rwa [List.getElem?_drop] at h1
          · cases h1
        obtain ⟨l, hl⟩ : ∃ l, l = ((xs.drop i).take n.toNat).map ofB := ⟨_, rfl⟩
        rw [← hl]
        have hll : l.length = n.toNat := by rw [hl, List.length_map, hlen]
        have hrun := run_unsafeString_at (P := P) (w := w) ts t ty e.t ht hp hc B ((ρ b).base + i) us.size (by simp [World.shape?, q1]) l (by intro h; rw [h] at hll; simp at hll; omega) (by rw [hll]; omega) (by rw [hll]; omega) (by
          intro j x hj
          simp only [hl, List.getElem?_map, Option.map_eq_some_iff] at hj
          obtain ⟨y, hy, rfl⟩ := hj
          have hy' := hflat j y hy
          have hyB : isB y = true := hall' y (List.mem_of_getElem? hy)
          have hvd := q5 _ _ hy'
          rw [isB_cell hyB] at hvd
          have hv := hvd.int_inv
          have hj' : j < n.toNat := by
            rcases Nat.lt_or_ge j n.toNat with h | h
            · exact h
            · rw [List.getElem?_eq_none (by omega)] at hy; cases hy
          have : (ρ b).base + i + j < us.size := by omega
          rw [Addr.add_lit]
          rw [← Nat.add_assoc] at hv
          rw [cell_of_heap q1 this, hv])
        have hnn : ((n.toNat : Nat) : Int) = n := by omega
        rw [hll, hnn] at hrun
        intro R hR
        have hfz : ∀ B', B' ≠ B → (w.freeze ⟨B, (ρ b).base + i, none⟩ n.toNat).heap[B']? = w.heap[B']? := by
          intro B' hne
          unfold World.freeze
          split
          · rfl
          · simp only [Array.getElem?_modify]; rw [if_neg (by omega)]
        have hfs : (w.freeze ⟨B, (ρ b).base + i, none⟩ n.toNat).heap.size = w.heap.size := by
          unfold World.freeze
          split
          · rfl
          · simp
        have hfe : Around w (w.freeze ⟨B, (ρ b).base + i, none⟩ n.toNat) := by
          unfold World.freeze
          split
          · exact Around.refl w
          · exact ⟨rfl, rfl, rfl⟩
        generalize hw' : w.freeze ⟨B, (ρ b).base + i, none⟩ n.toNat = w' at *
        have hstep : Step ρ I w σ ρ I w' (stSet σ b .dead) := by
          refine ⟨fun B' _ hl => hfz B' (fun h => hl (by subst h; exact ⟨b, _, hsb, trivial, k2⟩)), fun _ h => h, fun B h => .inl h, fun B h => ?_, Nat.le_of_eq hfs.symm, fun i bl h => ?_, hfe⟩
          · obtain ⟨i, bl, h1, h2, h3⟩ := h
            by_cases hi : i = b
            · subst hi; simp [stSet, hblt] at h1; subst h1; exact h2.elim
            · rw [stSet, List.getElem?_set_ne (by omega)] at h1; exact .inl ⟨i, bl, h1, h2, h3⟩
          · by_cases hi : i = b
            · subst hi; rw [hsb] at h; cases h; exact ⟨.dead, by simp [stSet, hblt], trivial⟩
            · exact ⟨bl, by rw [stSet, List.getElem?_set_ne (by omega)]; exact h, Compat.refl _ _⟩
        have hrs : RS P ρ I w' (stSet σ b .dead) := by
          refine ⟨fun i bl h => ?_, fun i j bi bj B hi hj li lj hBi hBj => ?_, fun B hl hI => ?_, fun B hI => hfs ▸ hr.bound B hI, hstep.tabs hr⟩
          · by_cases hi : i = b
            · subst hi; simp [stSet, hblt] at h; subst h; exact .dead
            · rw [stSet, List.getElem?_set_ne (by omega)] at h
              by_cases hlive : bl.live
              · exact RB.step hr hstep (fun B' hB' => hfz B' (fun he => hi (hr.inj i b bl _ B h hsb hlive trivial (by rw [hB', he]) k2))) (hr.blk i bl h)
              · cases bl <;> first | exact .dead | exact absurd trivial hlive
          · by_cases hi' : i = b
            · subst hi'; simp [stSet, hblt] at hi; subst hi; exact li.elim
            · by_cases hj' : j = b
              · subst hj'; simp [stSet, hblt] at hj; subst hj; exact lj.elim
              · rw [stSet, List.getElem?_set_ne (by omega)] at hi hj
                exact hr.inj i j bi bj B hi hj li lj hBi hBj
          · obtain ⟨i, bl, h1, h2, h3⟩ := hl
            by_cases hi : i = b
            · subst hi; simp [stSet, hblt] at h1; subst h1; exact h2.elim
            · rw [stSet, List.getElem?_set_ne (by omega)] at h1
              exact hr.sep B ⟨i, bl, h1, h2, h3⟩ hI
        refine ⟨.string ⟨l.toArray⟩, .d (.str l), w', ρ, I, stSet σ b .dead, ?_, hstep, hrs, .d (.str l), ?_⟩
        · exact hrun
        · exact hR
    · exact Eff.bad
  · exact Eff.bad
end
end Nv
