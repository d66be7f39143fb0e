/- Stores, building of structs and slices: soundness. -/
import Derived.Test.YtebejiilpedlmaaGreatDoorNvF
set_option linter.unusedVariables false
set_option linter.unusedSimpArgs false
namespace Nv
open Go

/-- A list with some of its places written anew. -/
def splice {α : Type} (cs : List α) (o : Nat) (vs : List α) : List α := cs.take o ++ vs ++ cs.drop (o + vs.length)

theorem splice_len {α : Type} {cs vs : List α} {o : Nat} (h : o + vs.length ≤ cs.length) : (splice cs o vs).length = cs.length := by
  simp [splice]; omega

theorem splice_get {α : Type} {cs vs : List α} {o : Nat} (h : o + vs.length ≤ cs.length) (j : Nat) :
    (splice cs o vs)[j]? = if o ≤ j ∧ j < o + vs.length then vs[j - o]? else cs[j]? := by
  unfold splice
  have h1 : (cs.take o).length = o := by simp; omega
  rw [List.append_assoc]
  rcases Nat.lt_or_ge j o with hj | hj
  · rw [List.getElem?_append_left (by omega), List.getElem?_take, if_pos hj, if_neg (by omega)]
  · rw [List.getElem?_append_right (by omega), h1]
    rcases Nat.lt_or_ge (j - o) vs.length with hv | hv
    · rw [List.getElem?_append_left hv, if_pos (by omega)]
    · rw [List.getElem?_append_right hv, if_neg (by omega), List.getElem?_drop]
      congr 1; omega

def toDs : List AV → Option (List DV)
  | [] => some []
  | .d x :: l => (toDs l).map (x :: ·)
  | _ => none
@[go_sem] theorem toDs_nil : toDs [] = some [] := nrfl rfl
@[go_sem] theorem toDs_cons (x : DV) (l : List AV) : toDs (.d x :: l) = (toDs l).map (x :: ·) := nrfl rfl

theorem toDs_map : ∀ {l : List AV} {xs : List DV}, toDs l = some xs → l = xs.map .d
  | [], xs, h => by simp only [toDs, Option.some.injEq] at h; subst h; rfl
  | .d x :: l, xs, h => by
    simp only [toDs, Option.map_eq_some_iff] at h
    obtain ⟨ys, hy, rfl⟩ := h
    rw [List.map_cons, ← toDs_map hy]
  | .any :: _, _, h | .ptr _ _ :: _, _, h | .own _ _ _ _ :: _, _, h | .eptr _ _ _ _ :: _, _, h | .iptr _ :: _, _, h | .agg _ :: _, _, h | .tuple _ :: _, _, h
  | .func _ _ _ :: _, _, h | .iface _ _ :: _, _, h | .map _ :: _, _, h => by simp [toDs] at h

/-- A value as data. -/
def toD : AV → Option DV
  | .d (.agg _) => none
  | .d x => some x
  | .agg cs => (toDs cs).bind fun xs => if cs.all AV.one then some (.agg xs) else none
  | _ => none

section
variable {P : Program} {ρ ρ' : RHO} {σ σ' : ST} {I I' : Nat → Prop} {w w' : World}

theorem toD_cells {a : AV} {x : DV} {v : Value} (h : V ρ σ I w a v) (hd : toD a = some x) :
    x.cells.length = v.cells.size ∧ (∀ j c, x.cells[j]? = some c → VD I w c (v.cells.getD j undef)) ∧ (∀ j, j < v.cells.size → (v.cells.getD j undef).oneCell' = true) := by
  have key : ∀ {cs : List AV}, cellsV a = some cs → cs = x.cells.map .d →
      x.cells.length = v.cells.size ∧ (∀ j c, x.cells[j]? = some c → VD I w c (v.cells.getD j undef)) ∧ (∀ j, j < v.cells.size → (v.cells.getD j undef).oneCell' = true) := by
    intro cs hc he
    obtain ⟨h1, h2, h3⟩ := cellsV_sound h hc
    subst he
    refine ⟨by simpa using h1, fun j c hj => (h2 j (.d c) (by rw [List.getElem?_map, hj]; rfl)).d_inv, h3⟩
  unfold toD at hd
  split at hd
  · cases hd
  · rename_i y hne
    simp only [Option.some.injEq] at hd; subst hd
    refine key (cs := [.d y]) ?_ ?_
    · cases y <;> first | rfl | exact absurd rfl (hne _)
    · cases y <;> first | rfl | exact absurd rfl (hne _)
  · rename_i cs
    simp only [Option.bind_eq_some_iff] at hd
    obtain ⟨xs, h1, h2⟩ := hd
    split at h2 <;> try (cases h2; done)
    rename_i hall
    simp only [Option.some.injEq] at h2; subst h2
    exact key (cs := cs) (by simp only [cellsV, hall, if_true]) (toDs_map h1)
  · cases hd

theorem getD_set_arr (us : Array Value) (i j : Nat) (v : Value) (hi : i < us.size) : (us.setIfInBounds i v).getD j undef = if j = i then v else us.getD j undef := by
  simp only [Array.getD_eq_getD_getElem?, Array.getElem?_setIfInBounds]
  by_cases h : i = j
  · subst h; simp [hi]
  · simp [h, Ne.symm h]

/-- Values that are stored, one behind the other, into a block that is not frozen. -/
theorem run_storeCells {B el : Nat} : ∀ (vs : List Value) (o i : Nat) (us : Array Value) (w : World), w.heap[B]? = some (.cells us el (0, 0)) → o + i + vs.length ≤ us.size → (∀ v, v ∈ vs → v.oneCell' = true) →
    ∃ w', (storeCells ⟨B, o, none⟩ vs i).run P w = .ok () w' ∧ (w'.heap.size = w.heap.size ∧ Around w w') ∧ (∀ c, c ≠ B → w'.heap[c]? = w.heap[c]?) ∧
      ∃ us', w'.heap[B]? = some (.cells us' el (0, 0)) ∧ us'.size = us.size ∧ ∀ j, us'.getD j undef = if o + i ≤ j ∧ j < o + i + vs.length then vs.getD (j - (o + i)) undef else us.getD j undef := by
  intro vs
  induction vs with
  | nil =>
    intro o i us w hB hl hone
    exact ⟨w, by simp [storeCells], ⟨rfl, Around.refl w⟩, fun _ _ => rfl, us, hB, rfl, fun j => by rw [if_neg (by simp)]⟩
  | cons v vs ih =>
    intro o i us w hB hl hone
    simp only [List.length_cons] at hl
    have ha : (⟨B, o, none⟩ : Addr).add i = ⟨B, o + i, none⟩ := Addr.add_lit B o i
    have hlt : o + i < us.size := by omega
    have hcell : w.cell? ⟨B, o + i, none⟩ = some (us.getD (o + i) undef) := cell_of_heap hB hlt
    have hfz : w.frozen? ⟨B, o + i, none⟩ = false := by simp [World.frozen?, hB]
    have hB' : (w.setCell ⟨B, o + i, none⟩ v).heap[B]? = some (.cells (us.setIfInBounds (o + i) v) el (0, 0)) := by
      simp [World.setCell, Array.getElem?_modify, hB]
    obtain ⟨w', h1, h2, h3, us', h4, h5, h6⟩ := ih o (i + 1) (us.setIfInBounds (o + i) v) (w.setCell ⟨B, o + i, none⟩ v) hB' (by simp; omega) (fun x hx => hone x (by simp [hx]))
    refine ⟨w', ?_, ⟨by rw [h2.1]; simp [World.setCell], Around.trans (b := w.setCell ⟨B, o + i, none⟩ v) ⟨rfl, rfl, rfl⟩ h2.2⟩, fun c hc => ?_, us', h4, by rw [h5]; simp, fun j => ?_⟩
    · simp only [storeCells, Sem.run_bind, ha, run_store P w _ v _ (hone v (by simp)), hcell, hfz, Bool.false_eq_true, if_false, Result.andThen_ok, h1]
    · rw [h3 c hc]; simp [World.setCell, Array.getElem?_modify, hc.symm]
    · rw [h6 j, getD_set_arr _ _ _ _ hlt]
      by_cases c1 : o + (i + 1) ≤ j ∧ j < o + (i + 1) + vs.length
      · rw [if_pos c1, if_pos (by simp; omega)]
        rw [show j - (o + i) = (j - (o + (i + 1))) + 1 by omega, List.getD_cons_succ]
      · rw [if_neg c1]
        by_cases c2 : j = o + i
        · subst c2; rw [if_pos rfl, if_pos (by simp)]; simp
        · rw [if_neg c2, if_neg (by simp; omega)]

theorem run_storeVar {t B o el : Nat} {v : Value} {us : Array Value} (hz : 0 < P.cellsOf t) (hsz : v.cells.size = P.cellsOf t) (hB : w.heap[B]? = some (.cells us el (0, 0))) (hl : o + v.cells.size ≤ us.size)
    (hone : ∀ j, j < v.cells.size → (v.cells.getD j undef).oneCell' = true) :
    ∃ w', (Instr.storeAt t (.pointer (some ⟨B, o, none⟩)) v).run P w = .ok () w' ∧ (w'.heap.size = w.heap.size ∧ Around w w') ∧ (∀ c, c ≠ B → w'.heap[c]? = w.heap[c]?) ∧
      ∃ us', w'.heap[B]? = some (.cells us' el (0, 0)) ∧ us'.size = us.size ∧ ∀ j, us'.getD j undef = if o ≤ j ∧ j < o + v.cells.size then v.cells.getD (j - o) undef else us.getD j undef := by
  obtain ⟨w', h1, h2, h3, us', h4, h5, h6⟩ := run_storeCells (P := P) (el := el) v.cells.toList o 0 us w hB (by simpa using hl) (fun x hx => by
    obtain ⟨j, hj, he⟩ := List.getElem_of_mem hx
    have := hone j (by simpa using hj)
    rw [Array.getD_eq_getD_getElem?] at this
    simp at hj he
    rw [Array.getElem?_eq_getElem hj] at this
    simpa [he] using this)
  refine ⟨w', ?_, h2, h3, us', h4, h5, fun j => ?_⟩
  · simp [Instr.storeAt, Instr.sureAddr, storeVar, run_sizeOf_pos hz, hsz, h1]
  · rw [h6 j]
    simp [List.getD_eq_getElem?_getD, Array.getD_eq_getD_getElem?]

/- store -/
/-- A datum with some of its cells written anew. -/
def dvSet (x : DV) (o : Nat) (vs : List DV) : DV :=
  match x with
  | .agg cs => .agg (splice cs o vs)
  | _ => vs.getD 0 default

def rStore (P : Program) (t : TypeId) (a x : AV) (σ : ST) : Res :=
  match cellsV x with
  | none => .bad
  | some [] => match a with
    | .ptr b _ => match stGet σ b with
      | .box _ _ => .need ((P.info? t).map (·.size) = some 0) (.ok .any σ)
      | _ => .bad
    | _ => .bad
  | some vs => .need (vs.length = P.cellsOf t ∧ 0 < vs.length) (match a with
    | .ptr b o => match stGet σ b with
      | .box t' cs => .need (o + vs.length ≤ cs.length) (.ok .any (stSet σ b (.box t' (splice cs o vs))))
      | _ => .bad
    | .eptr b g i o => match stGet σ b, toDs vs with
      | .arr g' e xs, some ds => .need (g = g' ∧ i < xs.length ∧ o + vs.length ≤ e) (.ok .any (stSet σ b (.arr g' e (xs.set i (dvSet (xs.getD i default) o ds)))))
      | _, _ => .bad
    | _ => .bad)

theorem one_not_agg {x : DV} (h : (AV.d x).one = true) : x.cells = [x] := by cases x <;> first | rfl | simp [AV.one] at h

theorem cellsV_one {a : AV} {cs : List AV} (h : cellsV a = some cs) : cs.all AV.one = true := by
  unfold cellsV at h
  split at h
  · split at h <;> try (cases h; done)
    rename_i hall; simp only [Option.some.injEq] at h; subst h; exact hall
  · split at h <;> try (cases h; done)
    rename_i hall; simp only [Option.some.injEq] at h; subst h; exact hall
  · split at h <;> try (cases h; done)
    rename_i ho; simp only [Option.some.injEq] at h; subst h; simpa using ho

theorem dvSet_cells {x : DV} {o : Nat} {vs : List DV} (h : o + vs.length ≤ x.cells.length) (hpos : 0 < vs.length) (hone : ∀ y, y ∈ vs → y.cells = [y]) : (dvSet x o vs).cells = splice x.cells o vs := by
  unfold dvSet
  split
  · rfl
  · rename_i hne
    have hc : x.cells = [x] := by cases x <;> first | rfl | exact absurd rfl (hne _)
    rw [hc] at h ⊢
    simp only [List.length_singleton] at h
    obtain rfl : o = 0 := by omega
    match vs, hpos, h, hone with
    | [y], _, _, hone => show y.cells = _; rw [hone y (by simp)]; rfl

theorem flat_set {e : Nat} {xs : List DV} {i : Nat} {y : DV} (h : ∀ x, x ∈ xs → Uni e x) (hi : i < xs.length) (hy : y.cells.length = e) (j : Nat) :
    (flat (xs.set i y))[j]? = if i * e ≤ j ∧ j < i * e + e then y.cells[j - i * e]? else (flat xs)[j]? := by
  induction xs generalizing i j with
  | nil => simp at hi
  | cons x xs ih =>
    have hx := (h x (by simp)).1
    cases i with
    | zero =>
      simp only [List.set_cons_zero, flat, List.flatMap_cons, Nat.zero_mul, Nat.zero_le, true_and, Nat.zero_add, Nat.sub_zero]
      split
      · rename_i hj; rw [List.getElem?_append_left (by omega)]
      · rename_i hj; rw [List.getElem?_append_right (by omega), List.getElem?_append_right (by omega), hx, hy]
    | succ i =>
      have hi' : i < xs.length := by simpa using hi
      have ih' := fun j => ih (fun y hy => h y (by simp [hy])) hi' j
      simp only [List.set_cons_succ, flat, List.flatMap_cons] at ih' ⊢
      rcases Nat.lt_or_ge j x.cells.length with hj | hj
      · rw [List.getElem?_append_left hj, List.getElem?_append_left hj, if_neg (by rw [Nat.add_mul]; omega)]
      · rw [List.getElem?_append_right hj, List.getElem?_append_right hj, ih']
        have e1 : (i * e ≤ j - x.cells.length ∧ j - x.cells.length < i * e + e) ↔ ((i + 1) * e ≤ j ∧ j < (i + 1) * e + e) := by rw [Nat.add_mul]; omega
        have e2 : j - x.cells.length - i * e = j - (i + 1) * e := by rw [Nat.add_mul]; omega
        simp only [e1, e2]

/-- An operation that yields nothing. -/
def EffU (P : Program) (ρ : RHO) (σ : ST) (I : Nat → Prop) (w : World) (s : Sem Unit) (r : Res) : Prop :=
  ∀ R : AV → ST → Prop, r.holds R → ∃ av w' ρ' I' σ', s.run P w = .ok () w' ∧ Step ρ I w σ ρ' I' w' σ' ∧ RS P ρ' I' w' σ' ∧ V ρ' σ' I' w' av undef ∧ R av σ'

theorem updR_self (ρ : RHO) (b : Nat) : updR ρ b (ρ b) = ρ := by funext i; by_cases h : i = b <;> simp [updR, h]

theorem rStore_sound (hr : RS P ρ I w σ) (t : TypeId) (a x : AV) (va vx : Value) (ha : V ρ σ I w a va) (hx : V ρ σ I w x vx) :
    EffU P ρ σ I w (Instr.storeAt t va vx) (rStore P t a x σ) := by
  unfold rStore
  split
  · exact fun _ h => h.elim
  · rename_i hc
    obtain ⟨c1, c2, c3⟩ := cellsV_sound hx hc
    split
    · rename_i b o
      split
      · rename_i tq cs hst
        have hs := stGet_some hst (by simp)
        rintro R ⟨hz, hR⟩
        cases ha with | ptr h1 h2 =>
        have hsz : (Go.sizeOf t).run P w = .ok 0 w := by
          cases hi : P.info? t with
          | none => simp [hi] at hz
          | some i => rw [hi] at hz; simp at hz; simp [Go.sizeOf, typeInfo, hi, hz]
        have hc0 : vx.cells.size = 0 := by simpa using c1.symm
        have hcl : vx.cells.toList = [] := by simpa using hc0
        refine ⟨.any, w, ρ, I, σ, ?_, Step.refl _ _ _ _, hr, .any _, hR⟩
        simp [Instr.storeAt, Instr.sureAddr, storeVar, hsz, hc0, hcl, storeCells]
      · exact fun _ h => h.elim
    · exact fun _ h => h.elim
  · rename_i vs hne hc
    rintro R ⟨⟨hn, hpos⟩, hR⟩
    obtain ⟨c1, c2, c3⟩ := cellsV_sound hx hc
    have hz : 0 < P.cellsOf t := by omega
    revert hR
    split
    · rename_i b o
      split
      · rename_i tq cs hst
        have hs := stGet_some hst (by simp)
        rintro ⟨hlen, hR⟩
        cases ha with | ptr h1 h2 =>
        rename_i B tb cs'
        obtain ⟨us, k1, k2, k3⟩ := hr.box hs h2
        obtain ⟨w', r1, r2, r3, us', r4, r5, r6⟩ := run_storeVar (P := P) (t := t) (o := o) hz (by omega) k1 (by omega) c3
        have hcmp : Compat (.box tq cs) (ρ b) (.box tq (splice cs o vs)) (ρ b) := ⟨rfl, splice_len hlen, rfl⟩
        have hold : ∀ c, c < w.heap.size → c ≠ B → w'.heap[c]? = w.heap[c]? := fun c _ hc => r3 c hc
        have hp : ∀ B', (ρ b).blk = some B' → B' = B ∨ w.heap.size ≤ B' := fun B' h => by rw [h2] at h; cases h; exact .inl rfl
        have hstep := step_upd (w' := w') hr hs h2 trivial (ρ b) hcmp (Ext.of (Nat.le_of_eq r2.1.symm) r2.2) hold hp
        refine ⟨.any, w', _, I, _, r1, hstep, rs_upd hr hs h2 trivial (ρ b) hcmp (Ext.of (Nat.le_of_eq r2.1.symm) r2.2) hold hp ?_, .any _, hR⟩
        refine .box h2 r4 (by rw [splice_len hlen]; omega) (fun j c hj => ?_)
        rw [splice_get hlen] at hj
        rw [r6 j]
        split at hj
        · rename_i hin
          rw [if_pos (by omega)]
          exact hstep.v hr (c2 _ _ hj)
        · rename_i hin
          rw [if_neg (by omega)]
          exact hstep.v hr (k3 _ _ hj)
      · exact fun h => h.elim
    · rename_i b g i o
      split
      · rename_i g' e xs ds hst hds
        have hs := stGet_some hst (by simp)
        rintro ⟨⟨hg, hi, hlen⟩, hR⟩
        subst hg
        have hvs := toDs_map hds
        have hdl : ds.length = vs.length := by rw [hvs]; simp
        have hone : ∀ y, y ∈ ds → y.cells = [y] := fun y hy => by
          have hall := List.all_eq_true.1 (cellsV_one hc) (.d y) (by rw [hvs]; exact List.mem_map.2 ⟨y, hy, rfl⟩)
          exact one_not_agg hall
        cases ha with
        | eptrOld k1 k2 => rw [hs] at k1; cases k1; exact absurd (k2 _ _ _ rfl) (by omega)
        | eptr k1 k2 =>
          rw [hs] at k1; cases k1
          rename_i B
          obtain ⟨us, q1, q2, q3, q4, q5⟩ := hr.arr hs k2
          have hcap : (ρ b).base + i * e + e ≤ us.size := by
            have : (i + 1) * e ≤ (ρ b).cap * e := Nat.mul_le_mul_right e (by omega)
            rw [Nat.add_mul] at this; omega
          obtain ⟨w', r1, r2, r3, us', r4, r5, r6⟩ := run_storeVar (P := P) (t := t) (o := (ρ b).base + i * e + o) hz (by omega) q1 (by omega) c3
          have hmem : xs.getD i default ∈ xs := by rw [List.getD_eq_getElem?_getD, List.getElem?_eq_getElem hi]; simp
          have hcl := (q4 _ hmem).1
          have hnew : (dvSet (xs.getD i default) o ds).cells = splice (xs.getD i default).cells o ds := dvSet_cells (by omega) (by omega) hone
          have hnl : (dvSet (xs.getD i default) o ds).cells.length = e := by rw [hnew, splice_len (by omega), hcl]
          have hcmp : Compat (.arr g e xs) (ρ b) (.arr g e (xs.set i (dvSet (xs.getD i default) o ds))) (ρ b) := .inl ⟨rfl, rfl, rfl, by simp⟩
          have hold : ∀ c, c < w.heap.size → c ≠ B → w'.heap[c]? = w.heap[c]? := fun c _ hc => r3 c hc
          have hp : ∀ B', (ρ b).blk = some B' → B' = B ∨ w.heap.size ≤ B' := fun B' h => by rw [k2] at h; cases h; exact .inl rfl
          have hstep := step_upd (w' := w') hr hs k2 trivial (ρ b) hcmp (Ext.of (Nat.le_of_eq r2.1.symm) r2.2) hold hp
          refine ⟨.any, w', _, I, _, r1, hstep, rs_upd hr hs k2 trivial (ρ b) hcmp (Ext.of (Nat.le_of_eq r2.1.symm) r2.2) hold hp ?_, .any _, hR⟩
          refine .arr k2 r4 (by omega) (by simpa using q3) (fun y hy => ?_) (fun j c hj => ?_)
          · rcases List.mem_or_eq_of_mem_set hy with h | h
            · exact q4 y h
            · subst h
              refine ⟨hnl, fun c hc => ?_⟩
              rw [hnew] at hc
              simp only [splice, List.mem_append] at hc
              rcases hc with (hc | hc) | hc
              · exact (q4 _ hmem).2 c (List.mem_of_mem_take hc)
              · have := hone c hc
                cases c <;> first | rfl | simp [DV.cells] at this
                rename_i l; have := congrArg SizeOf.sizeOf this; simp at this; omega
              · exact (q4 _ hmem).2 c (List.mem_of_mem_drop hc)
          · rw [flat_set q4 hi hnl, hnew] at hj
            rw [r6]
            split at hj
            · rename_i hin
              rw [splice_get (by omega)] at hj
              split at hj
              · rename_i hin2
                rw [if_pos (by omega)]
                have := (c2 (j - i * e - o) (.d c) (by rw [hvs, List.getElem?_map, hj]; rfl)).d_inv
                rw [show (ρ b).base + j - ((ρ b).base + i * e + o) = j - i * e - o by omega]
                exact hstep.vd hr this
              · rename_i hin2
                rw [if_neg (by omega)]
                have hlt : j - i * e < e := by omega
                have := q5 j c (by
                  have := flat_get q4 hi hlt
                  rw [show i * e + (j - i * e) = j by omega] at this
                  rw [this]; exact hj)
                exact hstep.vd hr this
            · rename_i hin
              rw [if_neg (by omega)]
              exact hstep.vd hr (q5 j c hj)
      · exact fun h => h.elim
    · exact fun h => h.elim
end
end Nv
