/- Contracts of functions that hand back data: from the empty store to every store; slices that are lent. -/
import Derived.Test.YtebejiilpedlmaaGreatDoorNvM
set_option linter.unusedVariables false
set_option linter.unusedSimpArgs false
namespace Nv
open Go

theorem pures_mem {l : List AV} (h : AV.pure.pures l = true) : ∀ c, c ∈ l → c.pure = true := by
  induction l with
  | nil => simp
  | cons x l ih =>
    simp only [AV.pure.pures, Bool.and_eq_true] at h
    intro c hc
    rcases List.mem_cons.1 hc with h1 | h1
    · rw [h1]; exact h.1
    · exact ih h.2 c h1

@[go_sem] theorem pure_d (x : DV) : (AV.d x).pure = true := by simp [AV.pure]
@[go_sem] theorem pure_agg (l : List AV) : (AV.agg l).pure = AV.pure.pures l := by simp [AV.pure]
@[go_sem] theorem pure_tuple (l : List AV) : (AV.tuple l).pure = AV.pure.pures l := by simp [AV.pure]
@[go_sem] theorem pures_nil : AV.pure.pures [] = true := by simp [AV.pure.pures]
@[go_sem] theorem pures_cons (a : AV) (l : List AV) : AV.pure.pures (a :: l) = (a.pure && AV.pure.pures l) := by simp [AV.pure.pures]

section
variable {P : Program} {ρ ρ' : RHO} {σ σ' : ST} {I I' : Nat → Prop} {w w' : World}

theorem V.pure {a : AV} {v : Value} (h : V ρ σ I w a v) (hp : a.pure = true) : V ρ' σ' I w a v := by
  induction h with
  | any v => exact .any v
  | d h => exact .d h
  | agg h1 h2 ih =>
    rw [pure_agg] at hp
    exact .agg h1 (fun j c hj => ih j c hj (pures_mem hp c (List.mem_of_getElem? hj)))
  | tuple h1 h2 ih =>
    rw [pure_tuple] at hp
    exact .tuple h1 (fun j c hj => ih j c hj (pures_mem hp c (List.mem_of_getElem? hj)))
  | _ => simp [AV.pure] at hp

/-- A contract: with these values the function hands back that one, and the store is as it was. -/
def PCall (P : Program) (f : FuncId) (args : List AV) (r : AV) : Prop := ∀ σ, ACall P f args σ fun oc σ' => oc = .ret r ∧ σ' = σ

theorem PCall.use {f : FuncId} {args : List AV} {r : AV} {K : Out → ST → Prop} (h : PCall P f args r) (hk : K (.ret r) σ) : ACall P f args σ K :=
  (h σ).mono fun oc σ' ⟨h1, h2⟩ => by subst h1 h2; exact hk

theorem PCall.ret {f : FuncId} {args : List AV} {r : AV} {K E : AV → ST → Prop} (h : PCall P f args r) (hk : K r σ) : ACall P f args σ (outK K E) := h.use hk

theorem rs_nil (hr : RS P ρ I w σ) (J : Nat → Prop) (hJI : ∀ B, I B → J B) (hJ : ∀ B, J B → I B ∨ Lives ρ σ B) : RS P ρ J w [] :=
  ⟨fun i blk h => by simp at h, fun i j bi bj B h => by simp at h, fun B ⟨i, blk, h, _⟩ => by simp at h, fun B h => (hJ B h).elim (hr.bound B) (fun h => lives_heap hr h), hr.tabs.keep hJI fun _ _ => rfl⟩

theorem no_lives (B : Nat) : ¬ Lives ρ [] B := fun ⟨i, blk, h, _⟩ => by simp at h

/-- A call that was carried out with an empty store: what it means for the caller's. -/
theorem back (hr : RS P ρ I w σ) {J J' : Nat → Prop} (hJI : ∀ B, I B → J B) (hJ : ∀ B, J B → I B ∨ Lives ρ σ B) (hs : Step ρ J w [] ρ' J' w' σ') (hr' : RS P ρ' J' w' σ') :
    ∃ I', Step ρ I w σ ρ I' w' σ ∧ RS P ρ I' w' σ ∧ (∀ B, I B → I' B) ∧ ∀ B, J' B → ¬ J B → I' B := by
  let I' : Nat → Prop := fun B => I B ∨ (J' B ∧ ¬ J B)
  have hnew : ∀ B, J' B → ¬ J B → w.heap.size ≤ B := fun B h1 h2 => by
    rcases hs.inew B h1 with h | h | h
    · exact absurd h h2
    · exact absurd h (no_lives B)
    · exact h
  have hst : Step ρ I w σ ρ I' w' σ := by
    refine ⟨fun b hb _ => hs.keep b hb (no_lives b), fun B h => .inl h, fun B h => ?_, fun B h => .inl h, hs.hsz, fun b blk h => ⟨blk, h, Compat.refl _ _⟩, hs.env⟩
    rcases h with h | ⟨h1, h2⟩
    · exact .inl h
    · exact .inr (.inr (hnew B h1 h2))
  refine ⟨I', hst, ?_, fun B h => .inl h, fun B h1 h2 => .inr ⟨h1, h2⟩⟩
  refine ⟨fun i blk h => ?_, hr.inj, fun B hl hI => ?_, fun B hI => ?_, hst.tabs hr⟩
  · by_cases hl : blk.live
    · exact RB.step hr hst (fun B hB => hs.keep B (lives_heap hr ⟨i, blk, h, hl, hB⟩) (no_lives B)) (hr.blk i blk h)
    · cases blk <;> first | exact .dead | exact absurd trivial hl
  · rcases hI with h | ⟨h1, h2⟩
    · exact hr.sep B hl h
    · have := hnew B h1 h2
      have := lives_heap hr hl
      omega
  · rcases hI with h | ⟨h1, h2⟩
    · exact Nat.lt_of_lt_of_le (hr.bound B h) hs.hsz
    · exact hr'.bound B h1

theorem PCall.of_nil {f : FuncId} {args : List AV} {r : AV} (ha : AV.pure.pures args = true) (hp : r.pure = true) (h : ACall P f args [] fun oc _ => oc = .ret r) : PCall P f args r := by
  intro σ ρ I w vs hr hv
  refine (h ρ I w vs (rs_nil hr I (fun B h => h) (fun B h => .inl h)) ⟨hv.1, fun j a hj => (hv.2 j a hj).pure (pures_mem ha a (List.mem_of_getElem? hj))⟩).mono ?_
  rintro e w' ⟨ρ', I', σ', oc, h1, h2, h3, rfl⟩
  obtain ⟨J, k1, k2, k3, k4⟩ := back hr (fun B h => h) (fun B h => .inl h) h1 h2
  cases e <;> simp only at h3
  rename_i v
  refine ⟨ρ, J, σ, .ret r, k1, k2, ?_, rfl, rfl⟩
  have hsub : ∀ B, I' B → J B := fun B hB => by
    by_cases hI : I B
    · exact k3 B hI
    · exact k4 B hB hI
  have : V ρ σ I' w' r v := h3.pure hp
  clear h3
  revert this
  generalize r = r'
  intro hv'
  -- the same reading with more that does not change
  have mono : ∀ {a : AV} {v : Value}, V ρ σ I' w' a v → V ρ σ J w' a v := by
    intro a v h
    induction h with
    | any v => exact .any v
    | aptr p => exact .aptr p
    | d h => exact .d (h.mono hsub (fun _ _ => rfl))
    | ptr h1 h2 => exact .ptr h1 h2
    | ownOld h1 h2 => exact .ownOld h1 h2
    | ownNil h1 h2 => exact .ownNil h1 h2
    | own h1 h2 h3 h4 => exact .own h1 h2 h3 h4
    | eptrOld h1 h2 => exact .eptrOld h1 h2
    | eptr h1 h2 => exact .eptr h1 h2
    | iptr us h1 => exact .iptr us (fun j c hj => let ⟨a, b, c⟩ := h1 j c hj; ⟨hsub _ a, b, c.mono hsub (fun _ _ => rfl)⟩)
    | agg h1 h2 ih => exact .agg h1 ih
    | tuple h1 h2 ih => exact .tuple h1 ih
    | func h1 h2 h3 h4 ih1 ih2 => exact .func h1 ih1 h3 ih2
    | iface t h ih => exact .iface t ih
    | map h1 h2 => exact .map h1 h2
    | itr h1 h2 => exact .itr h1 h2
  exact mono hv'

/- lending: a slice of the call's own is handed to a function that hands back a scalar -/
def DV.scalar : DV → Bool
  | .int _ _ | .bool _ | .str _ | .niliface | .nilptr | .nilslice => true
  | _ => false
def scalars : List AV → Bool
  | [] => true
  | .d x :: l => x.scalar && scalars l
  | _ :: _ => false
def AV.scalar1 : AV → Bool
  | .d x => x.scalar
  | .agg l => scalars l
  | _ => false
def scalars1 : List AV → Bool
  | [] => true
  | a :: l => a.scalar1 && scalars1 l
def AV.scalar : AV → Bool
  | .d x => x.scalar
  | .tuple l => scalars1 l
  | .agg l => scalars l
  | _ => false
attribute [go_sem] DV.scalar scalars AV.scalar AV.scalar1 scalars1

theorem VD.scalar {x : DV} {v : Value} (h : VD I w x v) (hs : x.scalar = true) : VD I' w' x v := by
  cases h <;> first | exact .int _ _ | exact .bool _ | exact .str _ | exact .niliface | exact .nilptr | exact .nilslice | simp [DV.scalar] at hs

theorem V.scalar {a : AV} {v : Value} (h : V ρ σ I w a v) (hs : a.scalar = true) : V ρ' σ' I' w' a v := by
  have key : ∀ {l : List AV} {us : Array Value}, scalars l = true → (∀ j c, l[j]? = some c → V ρ σ I w c (us.getD j undef)) → ∀ j c, l[j]? = some c → V ρ' σ' I' w' c (us.getD j undef) := by
    intro l us hl hv j c hj
    have hm := List.mem_of_getElem? hj
    have hc : ∃ x, c = .d x ∧ x.scalar = true := by
      clear hv hj
      induction l with
      | nil => simp at hm
      | cons y l ih =>
        unfold scalars at hl
        split at hl
        · rename_i he; cases he
        · rename_i x l' he
          simp only [List.cons.injEq] at he
          obtain ⟨rfl, rfl⟩ := he
          simp only [Bool.and_eq_true] at hl
          rcases List.mem_cons.1 hm with h1 | h1
          · exact ⟨x, h1, hl.1⟩
          · exact ih hl.2 h1
        · cases hl
    obtain ⟨x, rfl, hx⟩ := hc
    exact .d ((hv j _ hj).d_inv.scalar hx)
  have one : ∀ {a : AV} {v : Value}, V ρ σ I w a v → a.scalar1 = true → V ρ' σ' I' w' a v := by
    intro a v h hs
    cases h with
    | d h => exact .d (h.scalar hs)
    | agg h1 h2 => exact .agg h1 (key hs h2)
    | _ => simp [AV.scalar1] at hs
  have key1 : ∀ {l : List AV}, scalars1 l = true → ∀ a, a ∈ l → a.scalar1 = true := by
    intro l
    induction l with
    | nil => intro _ a h; simp at h
    | cons y l ih =>
      intro hl a hm
      simp only [scalars1, Bool.and_eq_true] at hl
      rcases List.mem_cons.1 hm with rfl | hm
      · exact hl.1
      · exact ih hl.2 a hm
  cases h with
  | d h => exact .d (h.scalar hs)
  | tuple h1 h2 => exact .tuple h1 (fun j c hj => one (h2 j c hj) (key1 hs c (List.mem_of_getElem? hj)))
  | agg h1 h2 => exact .agg h1 (key hs h2)
  | _ => simp [AV.scalar] at hs

/-- What the function sees of a value that is lent to it. -/
def lent1 (σ : ST) : AV → AV
  | .own b g off n => match stGet σ b with
    | .arr g' e xs => if g = g' ∧ off + n ≤ xs.length then .d (.list e ((xs.drop off).take n)) else .own b g off n
    | _ => .own b g off n
  | a => a
attribute [go_sem] lent1
def lent (σ : ST) : AV → AV
  | .agg cs => .agg (cs.map (lent1 σ))
  | a => lent1 σ a
attribute [go_sem] lent

theorem PCall.lend {f : FuncId} {args : List AV} {r : AV} {K : Out → ST → Prop} (h : PCall P f (args.map (lent σ)) r) (ha : AV.pure.pures (args.map (lent σ)) = true) (hs : r.scalar = true) (hk : K (.ret r) σ) : ACall P f args σ K := by
  intro ρ I w vs hr hv
  let J : Nat → Prop := fun B => I B ∨ Lives ρ σ B
  have hJ1 : ∀ {a : AV} {v : Value}, V ρ σ I w a v → (lent1 σ a).pure = true → V ρ [] J w (lent1 σ a) v := by
    intro a v hav hpu
    have plain : V ρ σ I w a v → a.pure = true → V ρ [] J w a v := fun h1 h2 => by
      have h3 : V ρ [] I w a v := h1.pure h2
      clear h1 hav hpu
      induction h3 with
      | any v => exact .any v
      | d h => exact .d (h.mono (fun _ h => .inl h) (fun _ _ => rfl))
      | agg k1 k2 ih =>
        rw [pure_agg] at h2
        exact .agg k1 (fun j c hj => ih j c hj (pures_mem h2 c (List.mem_of_getElem? hj)))
      | tuple k1 k2 ih =>
        rw [pure_tuple] at h2
        exact .tuple k1 (fun j c hj => ih j c hj (pures_mem h2 c (List.mem_of_getElem? hj)))
      | _ => simp [AV.pure] at h2
    unfold lent1 at hpu ⊢
    split at hpu
    · rename_i b g off n
      split at hpu
      · rename_i g' e xs hst
        split at hpu
        · rename_i hc
          rw [if_pos hc]
          obtain ⟨rfl, hlen⟩ := hc
          have hsb := stGet_some hst (by simp)
          cases hav with
          | ownOld k1 k2 => rw [hsb] at k1; cases k1; exact absurd (k2 _ _ _ rfl) (by omega)
          | @ownNil _ _ _ _ _ p k1 k2 =>
            simp only [List.take_zero]
            cases p with
            | none => exact .d (.listNil _ _)
            | some a =>
              obtain ⟨B, o, sp⟩ := a
              have := (k2 _ rfl).1
              simp only at this
              subst this
              exact .d (.list (fun _ => undef) rfl (Nat.le_refl _) (by simp) (by simp [flat]) (by simp [flat]))
          | own k1 k2 k3 k4 =>
            rw [hsb] at k1; cases k1
            rename_i B cap
            obtain ⟨us, q1, q2, q3, q4, q5⟩ := hr.arr hsb k2
            have hln : ((xs.drop off).take n).length = n := by simp; omega
            have hget : ∀ j c, (flat ((xs.drop off).take n))[j]? = some c → (flat xs)[off * e + j]? = some c ∧ j < n * e := by
              intro j c hj
              rw [flat_take (fun x hx => q4 x (List.mem_of_mem_drop hx)), flat_drop q4, List.getElem?_take] at hj
              split at hj
              · rename_i hlt; rw [List.getElem?_drop] at hj; exact ⟨hj, hlt⟩
              · cases hj
            refine .d (.list (fun j => us.getD ((ρ b).base + off * e + j) undef) hln.symm k3 (fun x hx => q4 x (List.mem_of_mem_drop (List.mem_of_mem_take hx))) (fun j c hj => ?_) (fun j c hj => ?_))
            · obtain ⟨h1, h2⟩ := hget j c hj
              refine ⟨.inr ⟨b, _, hsb, trivial, k2⟩, cell_of_heap q1 ?_⟩
              have : (off + n) * e ≤ (ρ b).cap * e := Nat.mul_le_mul_right _ (by omega)
              rw [Nat.add_mul] at this; omega
            · obtain ⟨h1, h2⟩ := hget j c hj
              have := q5 _ _ h1
              rw [← Nat.add_assoc] at this
              exact this.mono (fun _ h => .inl h) (fun _ _ => rfl)
        · simp [AV.pure] at hpu
      · simp [AV.pure] at hpu
    · rename_i hne
      exact plain hav hpu
  have hJ : ∀ {a : AV} {v : Value}, V ρ σ I w a v → (lent σ a).pure = true → V ρ [] J w (lent σ a) v := by
    intro a v hav hpu
    unfold lent at hpu ⊢
    split at hpu
    · cases hav with | agg k1 k2 =>
      rw [pure_agg] at hpu
      refine .agg (by simpa using k1) (fun j c hj => ?_)
      simp only [List.getElem?_map, Option.map_eq_some_iff] at hj
      obtain ⟨b, hb, rfl⟩ := hj
      exact hJ1 (k2 j b hb) (pures_mem hpu _ (List.mem_map.2 ⟨b, List.mem_of_getElem? hb, rfl⟩))
    · exact hJ1 hav hpu
  have hr0 : RS P ρ J w [] := rs_nil hr J (fun B h => .inl h) (fun B h => h)
  refine (h [] ρ J w vs hr0 ⟨by simpa using hv.1, fun j a hj => ?_⟩).mono ?_
  · have hm := pures_mem ha a (List.mem_of_getElem? hj)
    simp only [List.getElem?_map, Option.map_eq_some_iff] at hj
    obtain ⟨b, hb, rfl⟩ := hj
    exact hJ (hv.2 j b hb) hm
  · rintro e w' ⟨ρ', I', σ', oc, h1, h2, h3, rfl, rfl⟩
    obtain ⟨I2, k1, k2, k3, k4⟩ := back hr (fun B h => .inl h) (fun B h => h) h1 h2
    cases e <;> simp only at h3
    rename_i v
    exact ⟨ρ, I2, σ, .ret r, k1, k2, h3.scalar hs, hk⟩
end
end Nv

namespace Nv
open Go

/-- What is known of a function of the program. -/
def wfF (fn : Func) : Bool := match fn.body with | some c => wfC fn.ntmps c | none => false
structure FnIs (P : Program) (f : FuncId) (np : Nat) (rs : List ResultVar) (pc : PC) : Prop where
  mx : P.follows .mixedOrders = true
  is : ∃ fn, P.funcs[f]? = some fn ∧ pcOf fn = pc ∧ wfF fn = true ∧ fn.results.toList = rs ∧ np ≤ fn.ntmps

theorem FnIs.call {P : Program} {f np : Nat} {rs : List ResultVar} {pc : PC} (h : FnIs P f np rs pc) (hint : Nat → Hint) {args : List AV} {σ : ST} {K : Out → ST → Prop} (hn : args.length ≤ np)
    (hh : W P hint pc (endA P rs K) (initFr args) σ) : ACall P f args σ K := by
  obtain ⟨fn, h1, h2, h3, h4, h5⟩ := h.is
  unfold wfF at h3
  unfold pcOf at h2
  cases hb : fn.body with
  | none => rw [hb] at h3; cases h3
  | some c =>
    rw [hb] at h3 h2
    subst h2 h4
    exact call_of_W h.mx hint h1 hb h3 (Nat.le_trans hn h5) hh

def noHint : Nat → Hint := fun _ => .no
@[go_sem] theorem noHint_eq (d : Nat) : noHint d = .no := nrfl rfl
def hints : List (Nat × Hint) → Nat → Hint
  | [], _ => .no
  | (k, h) :: l, d => bif Nat.beq d k then h else hints l d
@[go_sem] theorem hints_nil (d : Nat) : hints [] d = .no := nrfl rfl
@[go_sem] theorem hints_cons (k : Nat) (h : Hint) (l : List (Nat × Hint)) (d : Nat) : hints ((k, h) :: l) d = bif d == k then h else hints l d := by
  have e : Nat.beq d k = (d == k) := by rw [Bool.eq_iff_iff]; simp
  rw [← e]; rfl
end Nv
