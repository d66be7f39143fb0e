/- Maps keyed by strings: soundness. -/
import Derived.Test.YtebejiilpedlmaaGreatDoorNvJ5
import Derived.MapKept
set_option linter.unusedVariables false
set_option linter.unusedSimpArgs false
namespace Nv
open Go

section
variable {P : Program} {ρ ρ' : RHO} {σ σ' : ST} {I I' : Nat → Prop} {w w' : World}

def rMakeMap (σ : ST) : Res := .ok (.map σ.length) (σ ++ [.map []])

theorem rMakeMap_sound (hr : RS P ρ I w σ) (t : TypeId) : Eff P ρ σ I w (Instr.makeMap t none) (rMakeMap σ) := by
  unfold rMakeMap
  intro R hR
  let p : Place := ⟨some w.heap.size, 0, 0⟩
  have hp : ∀ B, p.blk = some B → w.heap.size ≤ B := fun B hB => by cases hB; exact Nat.le_refl _
  have hsz : Ext w (World.alloc w (.map #[] 0)) := Ext.of (by rw [push_size]; omega)
  have hst := step_push hr (.map []) p hsz (push_old w _) hp
  exact ⟨_, .map σ.length, _, _, I, _, RowKit.run_makeMap t w, hst, rs_push hr (.map []) p hsz (push_old w _) hp (.map rfl (push_new w _) rfl (by simp)), .map (es := []) (by simp) (by rw [updR_same]), hR⟩

/-- The place of a key. -/
def keyAt (s : List UInt8) : List (DV × DV) → Nat → Option (Option Nat)
  | [], _ => some none
  | (.str t, _) :: es, i => bif decide (s = t) then some (some i) else keyAt s es (i + 1)
  | _ :: _, _ => none

theorem keyAt_spec (s : List UInt8) : ∀ (es : List (DV × DV)) (l : List MapEntry) (i : Nat) (a : Option Nat), keyAt s es i = some a → l.length = es.length →
    (∀ (j : Nat) (y : DV × DV), es[j]? = some y → ∃ e : MapEntry, l[j]? = some e ∧ VD I w y.1 e.key ∧ VD I w y.2 e.val) →
    ∃ r, Instr.findNow .string (.string ⟨s.toArray⟩) l i = some r ∧ (match a with | none => r = none | some j => i ≤ j ∧ j - i < es.length ∧ ∃ e : MapEntry, l[j - i]? = some e ∧ r = some (j, e.val) ∧ e.key = .string ⟨s.toArray⟩)
  | [], l, i, a, h, hl, _ => by
    simp only [keyAt, Option.some.injEq] at h
    obtain rfl : l = [] := List.length_eq_zero_iff.1 hl
    subst h
    exact ⟨none, rfl, rfl⟩
  | (k, x) :: es, [], i, a, h, hl, _ => by simp at hl
  | (k, x) :: es, e :: l, i, a, h, hl, hv => by
    obtain ⟨e', h1, h2, h3⟩ := hv 0 (k, x) rfl
    simp only [List.getElem?_cons_zero, Option.some.injEq] at h1
    subst h1
    cases k <;> simp only [keyAt] at h <;> try (cases h; done)
    rename_i t
    have hk := h2.str_inv
    have hcmp : ((⟨s.toArray⟩ : ByteArray) == ⟨t.toArray⟩) = decide (s = t) := by
      show (s.toArray == t.toArray) = _
      rw [Bool.eq_iff_iff]; simp
    cases hd : decide (s = t)
    · rw [hd] at h
      simp only [cond_false] at h
      obtain ⟨r, g1, g2⟩ := keyAt_spec s es l (i + 1) a h (by simpa using hl) (fun j y hj => hv (j + 1) y (by simpa using hj))
      refine ⟨r, ?_, ?_⟩
      · simp only [Instr.findNow, Instr.sameNow, hk, hcmp, hd]; exact g1
      · cases a with
        | none => exact g2
        | some j =>
          obtain ⟨c1, c2, e', c3, c4, c5⟩ := g2
          refine ⟨by omega, by simp only [List.length_cons]; omega, e', ?_, c4, c5⟩
          rw [show j - i = (j - (i + 1)) + 1 by omega]; simpa using c3
    · rw [hd] at h
      simp only [cond_true, Option.some.injEq] at h
      subst h
      have hst : s = t := of_decide_eq_true hd
      refine ⟨some (i, e.val), ?_, Nat.le_refl _, by simp, e, by simp, rfl, by rw [hk, hst]⟩
      simp only [Instr.findNow, Instr.sameNow, hk, hcmp, hd]

def lookV (ok : Bool) (v : AV) (b : Bool) (σ : ST) : Res := .ok (bif ok then .tuple [v, .d (.bool b)] else v) σ

def rLookup (P : Program) (t : TypeId) (x k : AV) (ok : Bool) (σ : ST) : Res :=
  match P.underlying t, x, k with
  | some (.map kt et), .map b, .d (.str s) => match P.underlying kt, stGet σ b with
    | some .string, .map es => match keyAt s es 0 with
      | some (some j) => lookV ok (.d (es.getD j default).2) true σ
      | some none => .need (zeroA P et ≠ .any) (lookV ok (zeroA P et) false σ)
      | none => .bad
    | _, _ => .bad
  | _, _, _ => .bad

theorem rLookup_sound (hr : RS P ρ I w σ) (t : TypeId) (x k : AV) (vx vk : Value) (ok : Bool) (hx : V ρ σ I w x vx) (hk : V ρ σ I w k vk) : Pev P ρ σ I w (Instr.lookup t vx vk ok) (rLookup P t x k ok σ) := by
  unfold rLookup
  split
  · rename_i kt et b s ht
    split
    · rename_i es hkt hst
      have hsb := stGet_some hst (by simp)
      cases hk.d_inv.str_inv
      cases hx with | map k1 k2 =>
      rw [hsb] at k1; cases k1
      rename_i B
      have hrb := hr.blk b _ hsb
      cases hrb with | @map _ _ clock ents h1 h2 h3 h4 =>
      rw [k2] at h1; cases h1
      have hg : (getObj B).run P w = .ok (.map ents clock) w := by simp [getObj, Sem.run, h2]
      have hck := MapKept.run_checkKey (P := P) (w := w) (k := .string ⟨s.toArray⟩) hkt (by trivial) ents.isEmpty 9999
      have hents : ∀ (j : Nat) (y : DV × DV), es[j]? = some y → ∃ e : MapEntry, ents.toList[j]? = some e ∧ VD I w y.1 e.key ∧ VD I w y.2 e.val := fun j y hj => by
        obtain ⟨e, q1, q2, q3⟩ := h4 j y hj
        exact ⟨e, by simpa using q1, q2, q3⟩
      have tup : ∀ {a : AV} {u : Value} {bb : Bool}, V ρ σ I w a u → V ρ σ I w (bif ok then .tuple [a, .d (.bool bb)] else a) (if ok then .tuple #[u, .bool bb] else u) := by
        intro a u bb ha
        cases ok
        · exact ha
        · refine .tuple rfl (fun j c hj => ?_)
          match j, hj with
          | 0, hj => simp at hj; subst hj; exact ha
          | 1, hj => simp at hj; subst hj; exact .d (.bool bb)
      split
      · rename_i j hj
        obtain ⟨r, g1, c1, c2, e, c3, rfl, c5⟩ := keyAt_spec s es ents.toList 0 _ hj (by simpa using h3) hents
        have hf := MapKept.run_findKey (P := P) (w := w) hkt g1
        simp only [Nat.sub_zero] at c2 c3
        have hy : es[j]? = some (es.getD j default) := by rw [List.getD_eq_getElem?_getD, List.getElem?_eq_getElem c2]; rfl
        obtain ⟨e', q1, q2, q3⟩ := hents j _ hy
        rw [c3] at q1
        simp only [Option.some.injEq] at q1; subst q1
        refine .ok (v := if ok then .tuple #[e.val, .bool true] else e.val) ?_ (tup (.d q3))
        simp [Instr.lookup, run_underlying ht, hg, hck, hf]
      · rename_i hj
        obtain ⟨r, g1, rfl⟩ := keyAt_spec s es ents.toList 0 _ hj (by simpa using h3) hents
        have hf := MapKept.run_findKey (P := P) (w := w) hkt g1
        refine .need fun hz => ?_
        obtain ⟨z, z1, z2⟩ := zero_run (P := P) (ρ := ρ) (σ := σ) (I := I) (w := w) hz
        refine .ok (v := if ok then .tuple #[z, .bool false] else z) ?_ (tup z2)
        simp [Instr.lookup, run_underlying ht, hg, hck, hf, z1]
      · exact .bad
    · exact .bad
  · exact .bad

def rMapUpdate (P : Program) (t : TypeId) (m k x : AV) (σ : ST) : Res :=
  match P.underlying t, m, k, x with
  | some (.map kt _), .map b, .d (.str s), .d y => match P.underlying kt, stGet σ b with
    | some .string, .map es => match keyAt s es 0 with
      | some (some j) => .ok .any (stSet σ b (.map (es.set j (.str s, y))))
      | some none => .ok .any (stSet σ b (.map (es ++ [(.str s, y)])))
      | none => .bad
    | _, _ => .bad
  | _, _, _, _ => .bad

theorem rMapUpdate_sound (hr : RS P ρ I w σ) (t : TypeId) (m k x : AV) (vm vk vx : Value) (hm : V ρ σ I w m vm) (hk : V ρ σ I w k vk) (hx : V ρ σ I w x vx) : EffU P ρ σ I w (Instr.mapUpdate t vm vk vx) (rMapUpdate P t m k x σ) := by
  unfold rMapUpdate
  split
  · rename_i kt et b s y ht
    split
    · rename_i es hkt hst
      have hsb := stGet_some hst (by simp)
      cases hk.d_inv.str_inv
      have hyv : VD I w y vx := hx.d_inv
      cases hm with | map k1 k2 =>
      rw [hsb] at k1; cases k1
      rename_i B
      have hrb := hr.blk b _ hsb
      cases hrb with | @map _ _ clock ents h1 h2 h3 h4 =>
      rw [k2] at h1; cases h1
      have hB : B < w.heap.size := (Array.getElem?_eq_some_iff.1 h2).1
      have hg : (getObj B).run P w = .ok (.map ents clock) w := by simp [getObj, Sem.run, h2]
      have hck := MapKept.run_checkKey (P := P) (w := w) (k := .string ⟨s.toArray⟩) hkt (by trivial) false 9999
      have hents : ∀ (j : Nat) (y : DV × DV), es[j]? = some y → ∃ e : MapEntry, ents.toList[j]? = some e ∧ VD I w y.1 e.key ∧ VD I w y.2 e.val := fun j y hj => by
        obtain ⟨e, q1, q2, q3⟩ := h4 j y hj
        exact ⟨e, by simpa using q1, q2, q3⟩
      -- a new map in the old one's place
      have put : ∀ (ents' : Array MapEntry) (clock' : Nat) (es' : List (DV × DV)), ents'.size = es'.length →
          (∀ (j : Nat) (y : DV × DV), es'[j]? = some y → ∃ e : MapEntry, ents'[j]? = some e ∧ VD I w y.1 e.key ∧ VD I w y.2 e.val) →
          (Instr.mapUpdate t (.map (some B)) (.string ⟨s.toArray⟩) vx).run P w = .ok () { w with heap := w.heap.set! B (.map ents' clock') } →
          EffU P ρ σ I w (Instr.mapUpdate t (.map (some B)) (.string ⟨s.toArray⟩) vx) (.ok .any (stSet σ b (.map es'))) := by
        intro ents' clock' es' hl hv hrun R hR
        let w' : World := { w with heap := w.heap.set! B (.map ents' clock') }
        have hnew : w'.heap[B]? = some (.map ents' clock') := by
          show (w.heap.set! B _)[B]? = _
          simp [hB]
        have hold : ∀ c, c < w.heap.size → c ≠ B → w'.heap[c]? = w.heap[c]? := fun c _ hc => by
          show (w.heap.set! B _)[c]? = _
          simp [Ne.symm hc]
        have hsz : Ext w w' := Ext.of (by show w.heap.size ≤ (w.heap.set! B _).size; simp)
        have hp : ∀ B', (ρ b).blk = some B' → B' = B ∨ w.heap.size ≤ B' := fun B' h => by rw [k2] at h; cases h; exact .inl rfl
        have hcmp : Compat (.map es) (ρ b) (.map es') (ρ b) := rfl
        have hstep := step_upd (w' := w') hr hsb k2 trivial (ρ b) hcmp hsz hold hp
        exact ⟨.any, w', _, I, _, hrun, hstep, rs_upd hr hsb k2 trivial (ρ b) hcmp hsz hold hp (.map k2 hnew hl (fun j y hj => let ⟨e, q1, q2, q3⟩ := hv j y hj; ⟨e, q1, hstep.vd hr q2, hstep.vd hr q3⟩)), .any _, hR⟩
      split
      · rename_i j hj
        obtain ⟨r, g1, c1, c2, e, c3, rfl, c5⟩ := keyAt_spec s es ents.toList 0 _ hj (by simpa using h3) hents
        have hf := MapKept.run_findKey (P := P) (w := w) hkt g1
        simp only [Nat.sub_zero] at c2 c3
        have hj2 : j < ents.size := by omega
        have hej : ents[j]? = some e := by simpa using c3
        have hstay : (Instr.keyThatStays e.key (.string ⟨s.toArray⟩)).run P w = .ok (.string ⟨s.toArray⟩) w := by
          have : Instr.sameBits 10000 e.key (.string ⟨s.toArray⟩) = true := by
            rw [c5]
            show ((⟨s.toArray⟩ : ByteArray) == ⟨s.toArray⟩) = true
            show (s.toArray == s.toArray) = true
            simp
          simp only [Instr.keyThatStays, this, if_true, Sem.run_pure]
        refine put (ents.modify j fun e => { e with key := .string ⟨s.toArray⟩, val := vx }) clock _ (by simp [h3]) (fun i z hz => ?_) ?_
        · rw [Array.getElem?_modify]
          by_cases hij : j = i
          · subst hij
            rw [List.getElem?_set_self c2] at hz
            cases hz
            exact ⟨_, by rw [if_pos rfl, hej]; rfl, .str s, hyv⟩
          · rw [List.getElem?_set_ne hij] at hz
            obtain ⟨e', q1, q2, q3⟩ := h4 i z hz
            exact ⟨e', by rw [if_neg hij]; exact q1, q2, q3⟩
        · have hset : (setObj B (.map (ents.modify j fun e => { e with key := .string ⟨s.toArray⟩, val := vx }) clock)).run P w = .ok () { w with heap := w.heap.set! B (.map (ents.modify j fun e => { e with key := .string ⟨s.toArray⟩, val := vx }) clock) } := by
            simp [setObj, Sem.run, h2]
          simp only [Instr.mapUpdate, Sem.run_bind, run_underlying ht, Result.andThen_ok, hg, hck, hf, hej, Option.map_some, Option.getD_some, hstay, hset]
      · rename_i hj
        obtain ⟨r, g1, rfl⟩ := keyAt_spec s es ents.toList 0 _ hj (by simpa using h3) hents
        have hf := MapKept.run_findKey (P := P) (w := w) hkt g1
        refine put (ents.push { key := .string ⟨s.toArray⟩, val := vx, born := clock }) (clock + 1) _ (by simp [h3]) (fun i z hz => ?_) ?_
        · rcases Nat.lt_or_ge i es.length with hlt | hge
          · rw [List.getElem?_append_left hlt] at hz
            obtain ⟨e', q1, q2, q3⟩ := h4 i z hz
            exact ⟨e', by rw [Array.getElem?_push, if_neg (by omega)]; exact q1, q2, q3⟩
          · rw [List.getElem?_append_right hge] at hz
            have hi : i = es.length := by
              rcases Nat.eq_zero_or_pos (i - es.length) with h | h
              · omega
              · rw [List.getElem?_eq_none (by simp only [List.length_cons, List.length_nil]; omega)] at hz; cases hz
            subst hi
            simp at hz; subst hz
            exact ⟨_, by rw [Array.getElem?_push, if_pos h3.symm], .str s, hyv⟩
        · have hset : (setObj B (.map (ents.push { key := .string ⟨s.toArray⟩, val := vx, born := clock }) (clock + 1))).run P w = .ok () { w with heap := w.heap.set! B (.map (ents.push { key := .string ⟨s.toArray⟩, val := vx, born := clock }) (clock + 1)) } := by
            simp [setObj, Sem.run, h2]
          simp only [Instr.mapUpdate, Sem.run_bind, run_underlying ht, Result.andThen_ok, hg, hck, hf, hset]
      · exact fun _ h => h.elim
    · exact fun _ h => h.elim
  · exact fun _ h => h.elim
end
end Nv
