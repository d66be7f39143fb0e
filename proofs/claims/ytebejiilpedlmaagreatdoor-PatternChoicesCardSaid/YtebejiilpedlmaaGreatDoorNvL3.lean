/- Regions whose order is open: every order comes to what the order of the text comes to. -/
import Derived.Test.YtebejiilpedlmaaGreatDoorNvL2
import Derived.Orders
set_option linter.unusedVariables false
set_option linter.unusedSimpArgs false
namespace Nv
open Go

def edgesOK (ops : Array Oper) : Bool := (List.range ops.size).all fun i => match ops[i]? with
  | some o => o.after.toList.all fun e => !(Region.binds .any e) || Nat.blt e.on i
  | none => true
def pairOK (ops : Array Oper) (ms : List Nat) (i j : Nat) : Bool := match ops[i]?, ops[j]? with
  | some x, some y =>
    (match x.dst with | some d => !(y.dst == some d) && (!(y.looksAt ops).contains d || forced ms i j) | none => true) &&
    (match y.dst with | some d => !(x.looksAt ops).contains d || forced ms i j | none => true) &&
    (!(isEff x.op && isEff y.op) || forced ms i j)
  | _, _ => true
def pairsOK (ops : Array Oper) (ms : List Nat) : Bool := (List.range ops.size).all fun j => (List.range j).all fun i => pairOK ops ms i j
def drawOK (ops : Array Oper) : Bool := edgesOK ops && pairsOK ops (masks ops.toList [])

theorem testBit_maskOf {acc : List Nat} {j : Nat} : ∀ {es : List Edge}, (maskOf acc es).testBit j = true → ∃ e, e ∈ es ∧ Region.binds .any e = true ∧ (j = e.on ∨ (acc.getD e.on 0).testBit j = true)
  | [], hj => by simp [maskOf] at hj
  | e :: es, hj => by
    have hrec : (maskOf acc es).testBit j = true → ∃ e', e' ∈ e :: es ∧ Region.binds .any e' = true ∧ (j = e'.on ∨ (acc.getD e'.on 0).testBit j = true) := fun h => by
      obtain ⟨e', h1, h2⟩ := testBit_maskOf h
      exact ⟨e', List.mem_cons_of_mem _ h1, h2⟩
    have hunf : maskOf acc (e :: es) = bif Region.binds .any e then maskOf acc es ||| (1 <<< e.on) ||| acc.getD e.on 0 else maskOf acc es := rfl
    rw [hunf] at hj
    cases hb : Region.binds .any e
    · rw [hb] at hj; exact hrec hj
    · rw [hb] at hj
      simp only [cond_true, Nat.testBit_or, Bool.or_eq_true] at hj
      rcases hj with (hj | hj) | hj
      · exact hrec hj
      · refine ⟨e, List.mem_cons_self, hb, .inl ?_⟩
        rw [Nat.one_shiftLeft, Nat.testBit_two_pow] at hj
        exact (of_decide_eq_true hj).symm
      · exact ⟨e, List.mem_cons_self, hb, .inr hj⟩

theorem masks_ok {S : Nat → Prop} : ∀ (l : List Oper) (acc : List Nat), (∀ k o, l[k]? = some o → S (acc.length + k) → ∀ e, e ∈ o.after.toList → Region.binds .any e = true → S e.on) →
    (∀ i m, acc[i]? = some m → S i → ∀ j, m.testBit j = true → S j) → ∀ i m, (masks l acc)[i]? = some m → S i → ∀ j, m.testBit j = true → S j
  | [], acc, _, h => h
  | o :: l, acc, hc, h => by
    refine masks_ok l _ (fun k o' hk hS => hc (k + 1) o' (by simpa using hk) (by simpa [Nat.add_assoc, Nat.add_comm 1 k] using hS)) (fun i m hi hS j hj => ?_)
    rcases Nat.lt_trichotomy i acc.length with hlt | heq | hgt
    · rw [List.getElem?_append_left hlt] at hi; exact h i m hi hS j hj
    · subst heq
      rw [List.getElem?_append_right (Nat.le_refl _)] at hi
      simp at hi; subst hi
      obtain ⟨e, h1, h2, h3⟩ := testBit_maskOf hj
      have hSe := hc 0 o rfl (by simpa using hS) e h1 h2
      rcases h3 with rfl | h3
      · exact hSe
      · have : ∃ m, acc[e.on]? = some m ∧ m.testBit j = true := by
          rw [List.getD_eq_getElem?_getD] at h3
          cases hm : acc[e.on]? with
          | none => rw [hm] at h3; simp at h3
          | some m => rw [hm] at h3; exact ⟨m, rfl, h3⟩
        obtain ⟨m, hm1, hm2⟩ := this
        exact h _ m hm1 hSe j hm2
    · rw [List.getElem?_eq_none (by simp; omega)] at hi; cases hi

/-- What a listing has run is closed. -/
def ClosedL (ops : Array Oper) (listed : Array Bool) : Prop :=
  ∀ i o, ops[i]? = some o → listed.getD i false = true → ∀ e, e ∈ o.after → Region.binds .any e = true → listed.getD e.on false = true

theorem forced_spec {ops : Array Oper} {listed : Array Bool} (hc : ClosedL ops listed) {j i : Nat} (hf : forced (masks ops.toList []) j i = true) (hi : listed.getD i false = true) : listed.getD j false = true := by
  unfold forced at hf
  rw [List.getD_eq_getElem?_getD] at hf
  cases hm : (masks ops.toList [])[i]? with
  | none => rw [hm] at hf; simp at hf
  | some m =>
    rw [hm] at hf
    exact masks_ok (S := fun i => listed.getD i false = true) ops.toList [] (fun k o hk hS e he hb => hc k o (by simpa using hk) (by simpa using hS) e (by simpa using he) hb) (fun i m hi => by simp at hi) i m hm hi j hf

/-- The same of an operation that may run next: what it needs has run. -/
theorem forced_ready {ops : Array Oper} {listed : Array Bool} (hc : ClosedL ops listed) {j i : Nat} (hsz : listed.size = ops.size) (hr : i ∈ Region.ready .any ops listed) (hf : forced (masks ops.toList []) j i = true) (hne : j ≠ i) : listed.getD j false = true := by
  obtain ⟨h0, o, ho, hall⟩ := mem_ready.1 hr
  have hlt : i < ops.size := (Array.getElem?_eq_some_iff.1 ho).1
  have hc' : ClosedL ops (listed.setIfInBounds i true) := by
    intro k o' ho' hk e he hb
    by_cases hki : k = i
    · subst hki
      rw [ho] at ho'; cases ho'
      exact getD_set_true (hall e he hb)
    · rw [getD_set_ne false (Ne.symm hki)] at hk
      exact getD_set_true (hc k o' ho' hk e he hb)
  have := forced_spec hc' hf (by simp [hsz, hlt])
  rw [getD_set_ne false (Ne.symm hne)] at this
  exact this

theorem closed_set {ops : Array Oper} {listed : Array Bool} (hc : ClosedL ops listed) {i : Nat} (hr : i ∈ Region.ready .any ops listed) : ClosedL ops (listed.setIfInBounds i true) := by
  obtain ⟨h0, o, ho, hall⟩ := mem_ready.1 hr
  intro k o' ho' hk e he hb
  by_cases hki : k = i
  · subst hki
    rw [ho] at ho'; cases ho'
    exact getD_set_true (hall e he hb)
  · rw [getD_set_ne false (Ne.symm hki)] at hk
    exact getD_set_true (hc k o' ho' hk e he hb)

theorem all_listed {ops : Array Oper} {listed : Array Bool} (he : edgesOK ops = true) (hsz : listed.size = ops.size) (hr : Region.ready .any ops listed = []) : ∀ i, i < ops.size → listed.getD i false = true := by
  intro i
  induction i using Nat.strongRecOn with
  | _ i ih =>
    intro hi
    cases hl : listed.getD i false
    · exfalso
      have : i ∈ Region.ready .any ops listed := by
        refine mem_ready.2 ⟨?_, ops[i], Array.getElem?_eq_getElem hi, fun e hem hb => ?_⟩
        · have h1 : i < listed.size := by rw [hsz]; exact hi
          simp [h1] at hl ⊢; exact hl
        · have h1 := List.all_eq_true.1 he i (List.mem_range.2 hi)
          rw [Array.getElem?_eq_getElem hi] at h1
          have h2 := List.all_eq_true.1 h1 e (by simpa using hem)
          rw [hb] at h2
          simp only [Bool.not_true, Bool.false_or] at h2
          have hlt : e.on < i := by simpa using h2
          exact ih e.on hlt (Nat.lt_trans hlt hi)
      rw [hr] at this; cases this
    · rfl

def unl (listed : Array Bool) (n : Nat) : Nat := (List.range n).countP fun i => !listed.getD i false

theorem countP_lt {l : List Nat} {p q : Nat → Bool} (hpq : ∀ x, x ∈ l → p x = true → q x = true) {y : Nat} (hy : y ∈ l) (hq : q y = true) (hp : p y = false) : l.countP p < l.countP q := by
  induction l with
  | nil => cases hy
  | cons x l ih =>
    have hle : l.countP p ≤ l.countP q := List.countP_mono_left fun z hz => hpq z (List.mem_cons_of_mem _ hz)
    rcases List.mem_cons.1 hy with rfl | hy
    · rw [List.countP_cons_of_neg (by simp [hp]), List.countP_cons_of_pos hq]; omega
    · have := ih (fun z hz => hpq z (List.mem_cons_of_mem _ hz)) hy
      have hx := hpq x List.mem_cons_self
      cases hpx : p x
      · rw [List.countP_cons_of_neg (by simp [hpx])]
        cases hqx : q x
        · rw [List.countP_cons_of_neg (by simp [hqx])]; exact this
        · rw [List.countP_cons_of_pos hqx]; omega
      · rw [List.countP_cons_of_pos hpx, List.countP_cons_of_pos (hx hpx)]; omega

theorem unl_set {listed : Array Bool} {n i : Nat} (hsz : listed.size = n) (hi : i < n) (hl : listed.getD i true = false) : unl (listed.setIfInBounds i true) n < unl listed n := by
  refine countP_lt (y := i) (fun x hx hp => ?_) (List.mem_range.2 hi) ?_ ?_
  · by_cases hxi : i = x
    · subst hxi; simp [hsz, hi] at hp
    · rw [getD_set_ne false hxi] at hp; exact hp
  · have : i < listed.size := by omega
    simp [this] at hl ⊢; exact hl
  · simp [hsz, hi]

/- frames by what has run -/
def wr (ops : Array Oper) (t : Nat) : Option Nat := (List.range ops.size).find? fun j => match ops[j]? with | some o => o.dst == some t | none => false

def frS (ops : Array Oper) (vs : Nat → AV) (fr : FR) (S : Nat → Bool) : FR := fun t =>
  match wr ops t with
  | some j => bif S j then vs j else fr t
  | none => fr t

theorem wr_some {ops : Array Oper} {t j : Nat} (hw : wr ops t = some j) : ∃ o, ops[j]? = some o ∧ o.dst = some t := by
  unfold wr at hw
  have := List.find?_some hw
  split at this
  · rename_i o ho; exact ⟨o, ho, by simpa using this⟩
  · cases this

theorem wr_none {ops : Array Oper} {t j : Nat} {o : Oper} (hw : wr ops t = none) (ho : ops[j]? = some o) : o.dst ≠ some t := by
  unfold wr at hw
  have := List.find?_eq_none.1 hw j (List.mem_range.2 (Array.getElem?_eq_some_iff.1 ho).1)
  rw [ho] at this
  simpa using this

theorem pair_at {ops : Array Oper} {ms : List Nat} (hp : pairsOK ops ms = true) {i j : Nat} (hij : i < j) (hj : j < ops.size) : pairOK ops ms i j = true :=
  List.all_eq_true.1 (List.all_eq_true.1 hp j (List.mem_range.2 hj)) i (List.mem_range.2 hij)

theorem pair_spec {ops : Array Oper} {ms : List Nat} (hp : pairsOK ops ms = true) {i j : Nat} {x y : Oper} (hi : ops[i]? = some x) (hj : ops[j]? = some y) (hij : i < j) :
    (∀ d, x.dst = some d → y.dst ≠ some d) ∧ (∀ d, x.dst = some d → d ∈ y.looksAt ops → forced ms i j = true) ∧ (∀ d, y.dst = some d → d ∈ x.looksAt ops → forced ms i j = true) ∧
    (isEff x.op = true → isEff y.op = true → forced ms i j = true) := by
  have h := pair_at hp hij (Array.getElem?_eq_some_iff.1 hj).1
  unfold pairOK at h
  rw [hi, hj] at h
  simp only [Bool.and_eq_true] at h
  obtain ⟨⟨h1, h2⟩, h3⟩ := h
  refine ⟨fun d hd => ?_, fun d hd hm => ?_, fun d hd hm => ?_, fun hx hy => ?_⟩
  · rw [hd] at h1; simp only [Bool.and_eq_true] at h1
    intro he; rw [he] at h1; simp at h1
  · rw [hd] at h1; simp only [Bool.and_eq_true, Bool.or_eq_true] at h1
    rcases h1.2 with h4 | h4
    · simp [hm] at h4
    · exact h4
  · rw [hd] at h2; simp only [Bool.or_eq_true] at h2
    rcases h2 with h4 | h4
    · simp [hm] at h4
    · exact h4
  · rw [hx, hy] at h3; simpa using h3

theorem wr_of {ops : Array Oper} {ms : List Nat} (hp : pairsOK ops ms = true) {t j : Nat} {o : Oper} (ho : ops[j]? = some o) (hd : o.dst = some t) : wr ops t = some j := by
  cases hw : wr ops t with
  | none => exact absurd hd (wr_none hw ho)
  | some k =>
    obtain ⟨o', ho', hd'⟩ := wr_some hw
    rcases Nat.lt_trichotomy k j with h | h | h
    · exact absurd hd ((pair_spec hp ho' ho h).1 t hd')
    · rw [h]
    · exact absurd hd' ((pair_spec hp ho ho' h).1 t hd)

theorem frS_put {ops : Array Oper} {ms : List Nat} (hp : pairsOK ops ms = true) {vs : Nat → AV} {fr : FR} {S S' : Nat → Bool} {i : Nat} {o : Oper} (ho : ops[i]? = some o)
    (hS : ∀ k, S' k = (S k || k == i)) : frS ops vs fr S' = put (frS ops vs fr S) o.dst (vs i) := by
  funext t
  have hother : o.dst ≠ some t → frS ops vs fr S' t = frS ops vs fr S t := by
    intro hd
    unfold frS
    split
    · rename_i j hw
      obtain ⟨o', ho', hd'⟩ := wr_some hw
      have hji : j ≠ i := fun e => by subst e; rw [ho] at ho'; cases ho'; exact hd hd'
      rw [hS j]
      have : (j == i) = false := by simp [hji]
      rw [this, Bool.or_false]
    · rfl
  cases hd : o.dst with
  | none => rw [hother (by simp [hd])]; rfl
  | some d =>
    by_cases hdt : t = d
    · subst hdt
      have hw := wr_of hp ho hd
      simp only [frS, hw, put, hS, beq_self_eq_true, Bool.or_true, cond_true]
      simp
    · rw [hother (by rw [hd]; simp; exact fun e => hdt e.symm)]
      have : Nat.beq t d = false := by cases hb : Nat.beq t d; rfl; exact absurd (Nat.eq_of_beq_eq_true hb) hdt
      simp only [put, this]
      rfl

theorem frS_none (ops : Array Oper) (vs : Nat → AV) (fr : FR) : frS ops vs fr (fun _ => false) = fr := by
  funext t
  unfold frS
  split <;> rfl

theorem prepDraw_get (ops : Array Oper) (i : Nat) (o : Oper) (ho : ops[i]? = some o) : (prepDraw ops)[i]? = some (dpAt ops (masks ops.toList []) i o) := by
  unfold prepDraw
  rw [List.getElem?_mapIdx]
  have : ops.toList[i]? = some o := by rw [Array.getElem?_toList]; exact ho
  rw [this]; rfl
theorem prepDraw_length (ops : Array Oper) : (prepDraw ops).length = ops.size := by simp [prepDraw]

theorem frT_S {ops : Array Oper} {ms : List Nat} (hp : pairsOK ops ms = true) {vs : Nat → AV} {fr : FR} : ∀ k, k ≤ ops.size → frT (prepDraw ops) vs fr k = frS ops vs fr (fun j => Nat.blt j k)
  | 0, _ => by
    rw [frT_zero]
    have : (fun j => Nat.blt j 0) = fun _ => false := by funext j; rfl
    rw [this, frS_none]
  | k + 1, hk => by
    have ho : ops[k]? = some ops[k] := Array.getElem?_eq_getElem hk
    rw [frT_succ _ _ _ k _ (prepDraw_get ops k _ ho), frT_S hp k (by omega)]
    refine (frS_put hp (S := fun j => Nat.blt j k) (S' := fun j => Nat.blt j (k + 1)) ho (fun j => ?_)).symm
    simp only [Nat.blt]
    rw [Bool.eq_iff_iff]
    simp
    omega
end Nv
