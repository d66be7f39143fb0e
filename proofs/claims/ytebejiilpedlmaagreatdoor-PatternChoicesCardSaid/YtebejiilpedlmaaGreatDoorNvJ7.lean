/- copy: into a slice of the call's own. -/
import Derived.Test.YtebejiilpedlmaaGreatDoorNvJ6
set_option linter.unusedVariables false
set_option linter.unusedSimpArgs false
namespace Nv
open Go

section
variable {P : Program} {ρ ρ' : RHO} {σ σ' : ST} {I I' : Nat → Prop} {w w' : World}

def rCopy (P : Program) (t : TypeId) (s x : AV) (σ : ST) : Res :=
  match P.underlying t, s with
  | some (.slice el), .own b g off n => match stGet σ b, elems ⟨P.cellsOf el, el⟩ x σ with
    | .arr g' e' zs, some ys => .need (g = g' ∧ e' = ⟨P.cellsOf el, el⟩ ∧ off + n ≤ zs.length ∧ 0 < P.cellsOf el)
        (.ok (.d (.int .i64 (min ys.length n : Nat))) (stSet σ b (.arr g' e' (splice zs off (ys.take (min ys.length n))))))
    | _, _ => .bad
  | _, _ => .bad

theorem flat_splice {e : Nat} {zs ys : List DV} {o : Nat} (h : ∀ x, x ∈ zs → Uni e x) (hy : ∀ x, x ∈ ys → Uni e x) : flat (splice zs o ys) = splice (flat zs) (o * e) (flat ys) := by
  have h1 := flat_len hy
  have e1 : flat (zs.take o ++ ys ++ zs.drop (o + ys.length)) = flat (zs.take o) ++ flat ys ++ flat (zs.drop (o + ys.length)) := by simp [flat]
  rw [splice, splice, e1, flat_take h, flat_drop h, h1, Nat.add_mul]

theorem inPlace_nil {p : Option Addr} {o : Nat} {r : Value} : inPlace P w p o [] r = .ok r w := by cases p <;> simp [inPlace, storeCells]

theorem splice_nil {α : Type} (zs : List α) (o : Nat) : splice zs o [] = zs := by simp [splice]

theorem rCopy_sound (hr : RS P ρ I w σ) (t ty : TypeId) (ts : Array TypeId) (s x : AV) (vs vx : Value) (hts : ts[0]? = some t) (hs : V ρ σ I w s vs) (hx : V ρ σ I w x vx) :
    Eff P ρ σ I w (Builtin.copy_ ts ty #[vs, vx]) (rCopy P t s x σ) := by
  unfold rCopy
  split
  · rename_i el b g off n ht
    split
    · rename_i g' e' zs ys hst he
      refine .need fun ⟨hg, he', hlen, hz⟩ => ?_
      subst hg he'
      have E1 := elems_sound (P := P) hr hx he
      have hsb := stGet_some hst (by simp)
      obtain ⟨p, m, cap, hvx, hm, hcap⟩ := E1.sl
      subst hvx hm
      obtain ⟨us, hus, husv⟩ := E1.run
      have hmin : min ys.length n ≤ ys.length := Nat.min_le_left _ _
      have hk := hus w (min ys.length n) rfl (Nat.min_le_left _ _)
      have hsz : (Go.sizeOf el).run P w = .ok (P.cellsOf el) w := run_sizeOf_pos hz
      have hmn : min ys.length n ≤ n := Nat.min_le_right _ _
      have hyl : (ys.take (min ys.length n)).length = min ys.length n := by rw [List.length_take]; omega
      intro R hR
      have hrun : ∀ base dcap, vs = .slice base n dcap → ((Builtin.copy_ ts ty #[vs, .slice p ys.length cap]).run P w) = inPlace P w base 0 ((List.range (min ys.length n * P.cellsOf el)).map us) (.int .i64 (min ys.length n : Nat)) := by
        intro base dcap hv
        subst hv
        have hk' := hk
        simp only [show min ys.length n = ys.length.min n from rfl] at hk'
        cases base with
        | none => simp [inPlace, Builtin.copy_, hts, run_underlying ht, hsz, Builtin.lenOf, goInt]; rw [hk']; simp
        | some a => simp [inPlace, Builtin.copy_, hts, run_underlying ht, hsz, Builtin.lenOf, goInt, Addr.add]; rw [hk']; simp
      cases hs with
      | ownOld k1 k2 => rw [hsb] at k1; cases k1; exact absurd (k2 _ _ _ rfl) (by omega)
      | ownNil k1 k2 =>
        have h0 : min ys.length 0 = 0 := by omega
        have hr' := hrun _ _ rfl
        rw [h0] at hr'
        have hσ : stSet σ b (.arr g ⟨P.cellsOf el, el⟩ (splice zs off (ys.take (min ys.length 0)))) = σ := by
          rw [h0, List.take_zero, splice_nil]
          unfold stSet
          apply List.ext_getElem?
          intro i
          rw [List.getElem?_set]
          split
          · rename_i hi; subst hi; split
            · exact hsb.symm
            · rename_i hlt; rw [List.getElem?_eq_none (by omega)]
          · rfl
        refine ⟨.int .i64 0, _, w, ρ, I, _, ?_, ?_, ?_, ?_, hR⟩
        · rw [hr', Nat.zero_mul, List.range_zero, List.map_nil]; exact inPlace_nil
        · rw [hσ]; exact Step.refl _ _ _ _
        · rw [hσ]; exact hr
        · rw [h0]; exact .d (.int _ _)
      | own k1 k2 k3 k4 =>
        rw [hsb] at k1; cases k1
        rename_i B dcap
        obtain ⟨vs, q1, q2, q3, q4, q5⟩ := hr.arr hsb k2
        dsimp only at q2
        have hr' := hrun _ _ rfl
        have hfit : min ys.length n * P.cellsOf el ≤ n * P.cellsOf el := Nat.mul_le_mul_right _ hmn
        have hbound : (ρ b).base + off * P.cellsOf el + n * P.cellsOf el ≤ vs.size := by
          have : (off + n) * P.cellsOf el ≤ (ρ b).cap * P.cellsOf el := Nat.mul_le_mul_right _ (by omega)
          rw [Nat.add_mul] at this; omega
        have hul : ((List.range (min ys.length n * P.cellsOf el)).map us).length = min ys.length n * P.cellsOf el := by simp
        have hyu : ∀ y, y ∈ ys.take (min ys.length n) → Uni (P.cellsOf el) y := fun y hy => E1.uni y (List.mem_of_mem_take hy)
        have hft : flat (ys.take (min ys.length n)) = (flat ys).take (min ys.length n * P.cellsOf el) := flat_take (e := P.cellsOf el) E1.uni _
        have hfy := flat_len E1.uni
        have hfyt := flat_len hyu
        rw [hyl] at hfyt
        dsimp only at hfy hfyt hft
        have hle : min ys.length n * P.cellsOf el ≤ ys.length * P.cellsOf el := Nat.mul_le_mul_right _ hmin
        have hone : ∀ v, v ∈ (List.range (min ys.length n * P.cellsOf el)).map us → v.oneCell' = true := by
          intro v hv
          obtain ⟨j, hj, rfl⟩ := List.mem_map.1 hv
          simp only [List.mem_range] at hj
          have hlt : j < (flat ys).length := by omega
          obtain ⟨c, hcc⟩ : ∃ c, (flat ys)[j]? = some c := ⟨_, List.getElem?_eq_getElem hlt⟩
          have hmem := List.mem_of_getElem? hcc
          simp only [flat, List.mem_flatMap] at hmem
          obtain ⟨y, hy, hc⟩ := hmem
          exact (husv j c hcc).oneCell ((E1.uni y hy).2 c hc)
        obtain ⟨w', r1, r2, r3, us', r4, r5, r6⟩ := run_storeCells (P := P) (B := B) ((List.range (min ys.length n * P.cellsOf el)).map us) ((ρ b).base + off * P.cellsOf el) 0 vs w q1 (by rw [hul]; omega) hone
        simp only [inPlace, Addr.add_lit, Nat.zero_mul, Nat.add_zero, r1, Result.andThen_ok] at hr'
        have hsl : (splice zs off (ys.take (min ys.length n))).length = zs.length := splice_len (by rw [hyl]; omega)
        have hcmp : Compat (.arr g ⟨P.cellsOf el, el⟩ zs) (ρ b) (.arr g ⟨P.cellsOf el, el⟩ (splice zs off (ys.take (min ys.length n)))) (ρ b) := .inl ⟨rfl, rfl, rfl, hsl⟩
        have hold : ∀ c, c < w.heap.size → c ≠ B → w'.heap[c]? = w.heap[c]? := fun c _ hc => r3 c hc
        have hp : ∀ B', (ρ b).blk = some B' → B' = B ∨ w.heap.size ≤ B' := fun B' h => by rw [k2] at h; cases h; exact .inl rfl
        have hstep := step_upd (w' := w') hr hsb k2 trivial (ρ b) hcmp (Ext.of (Nat.le_of_eq r2.1.symm) r2.2) hold hp
        refine ⟨_, _, w', _, I, _, hr', hstep, rs_upd hr hsb k2 trivial (ρ b) hcmp (Ext.of (Nat.le_of_eq r2.1.symm) r2.2) hold hp ?_, .d (.int _ _), hR⟩
        refine .arr k2 r4 (by show (ρ b).base + (ρ b).cap * P.cellsOf el ≤ us'.size; rw [r5]; exact q2) (by rw [hsl]; exact q3) (fun y hy => ?_) (fun j c hj => ?_)
        · simp only [splice, List.mem_append] at hy
          rcases hy with (hy | hy) | hy
          · exact q4 y (List.mem_of_mem_take hy)
          · exact hyu y hy
          · exact q4 y (List.mem_of_mem_drop hy)
        · have hfz := flat_len q4
          have hzl : off * P.cellsOf el + min ys.length n * P.cellsOf el ≤ zs.length * P.cellsOf el := by
            rw [← Nat.add_mul]; exact Nat.mul_le_mul_right _ (by omega)
          dsimp only at hfz
          rw [flat_splice (e := P.cellsOf el) q4 hyu, splice_get (by rw [hfyt, hfz]; exact hzl)] at hj
          rw [r6, hul]
          rw [hfyt] at hj
          split at hj
          · rename_i hin
            rw [if_pos (by omega)]
            rw [hft, List.getElem?_take, if_pos (by omega)] at hj
            have := husv _ c hj
            rw [show (ρ b).base + j - ((ρ b).base + off * P.cellsOf el + 0) = j - off * P.cellsOf el by omega]
            have : VD I w c (((List.range (min ys.length n * P.cellsOf el)).map us).getD (j - off * P.cellsOf el) undef) := by
              rw [List.getD_eq_getElem?_getD, List.getElem?_map, List.getElem?_range (by omega)]
              exact this
            exact hstep.vd hr this
          · rename_i hin
            rw [if_neg (by omega)]
            exact hstep.vd hr (q5 j c hj)
    · exact Eff.bad
  · exact Eff.bad
end
end Nv
