/- Part of a proof about the functions of this seat. -/
import Derived.Test.YtebejiilpedlmaaGreatDoorNvEG
import Derived.Laws.Append
import Derived.Lib.AppendStr
/- Structs and slices that are built, made, frozen: soundness. -/

set_option linter.unusedVariables false
set_option linter.unusedSimpArgs false
namespace Nv
open Go

/-- Where the fields of a struct lie, and how many cells each has. -/
def places (P : Program) : List Field → Option (List (Nat × Nat))
  | [] => some []
  | f :: fs => match P.info? f.type, places P fs with
    | some i, some r => some ((f.offset, i.size) :: r)
    | _, _ => none
def structPlaces (P : Program) (t : TypeId) : Option (List (Nat × Nat)) :=
  match P.underlying t with
  | some (.struct fs) => places P fs.toList
  | _ => none

def fillA (pl : List (Nat × Nat)) (cells : List AV) : List (Nat × AV) → Option (List AV)
  | [] => some cells
  | (i, v) :: rest => match pl[i]?, cellsV v with
    | some (off, size), some vs => if vs.length = size ∧ off + vs.length ≤ cells.length then fillA pl (splice cells off vs) rest else none
    | _, _ => none
@[go_sem] theorem fillA_nil (pl : List (Nat × Nat)) (cells : List AV) : fillA pl cells [] = some cells := nrfl rfl
@[go_sem] theorem fillA_cons (pl : List (Nat × Nat)) (cells : List AV) (i : Nat) (v : AV) (rest : List (Nat × AV)) : fillA pl cells ((i, v) :: rest) = match pl[i]?, cellsV v with
    | some (off, size), some vs => if vs.length = size ∧ off + vs.length ≤ cells.length then fillA pl (splice cells off vs) rest else none
    | _, _ => none := nrfl rfl

section
variable {P : Program} {ρ ρ' : RHO} {σ σ' : ST} {I I' : Nat → Prop} {w w' : World}

theorem run_places (fs : Array Field) {r : List (Nat × Nat)} (h : places P fs.toList = some r) :
    (fs.mapM fun f => do pure (f.offset, ← Go.sizeOf f.type) : Sem (Array (Nat × Nat))).run P w = .ok r.toArray w := by
  rw [Array.mapM_eq_mapM_toList]
  simp only [Sem.run_map]
  have : ∀ (l : List Field) (r : List (Nat × Nat)), places P l = some r → (l.mapM fun f => do pure (f.offset, ← Go.sizeOf f.type) : Sem (List (Nat × Nat))).run P w = .ok r w := by
    intro l
    induction l with
    | nil => intro r h; simp only [places, Option.some.injEq] at h; subst h; rfl
    | cons f l ih =>
      intro r h
      simp only [places] at h
      split at h
      · rename_i i r' h1 h2
        simp only [Option.some.injEq] at h; subst h
        have hsz : (Go.sizeOf f.type).run P w = .ok i.size w := by simp [Go.sizeOf, typeInfo, h1]
        simp only [List.mapM_cons, Sem.run_bind, hsz, Result.andThen_ok, Sem.run_pure, ih r' h2]
      · cases h
  rw [this _ _ h]
  rfl

theorem foldl_set (vs : List Value) : ∀ (off k : Nat) (us : Array Value), off + k + vs.length ≤ us.size →
    ((vs.zipIdx k).foldl (fun cs (x : Value × Nat) => cs.setIfInBounds (off + x.2) x.1) us).size = us.size ∧
    ∀ j, ((vs.zipIdx k).foldl (fun cs (x : Value × Nat) => cs.setIfInBounds (off + x.2) x.1) us).getD j undef = if off + k ≤ j ∧ j < off + k + vs.length then vs.getD (j - (off + k)) undef else us.getD j undef := by
  induction vs with
  | nil => intro off k us h; exact ⟨rfl, fun j => by rw [if_neg (by simp)]; rfl⟩
  | cons v vs ih =>
    intro off k us h
    simp only [List.length_cons] at h
    simp only [List.zipIdx_cons, List.foldl_cons]
    obtain ⟨h1, h2⟩ := ih off (k + 1) (us.setIfInBounds (off + k) v) (by simp; omega)
    refine ⟨by rw [h1]; simp, fun j => ?_⟩
    rw [h2 j, getD_set_arr _ _ _ _ (by omega)]
    by_cases c1 : off + (k + 1) ≤ j ∧ j < off + (k + 1) + vs.length
    · rw [if_pos c1, if_pos (by simp; omega)]
      rw [show j - (off + k) = (j - (off + (k + 1))) + 1 by omega, List.getD_cons_succ]
    · rw [if_neg c1]
      by_cases c2 : j = off + k
      · subst c2; rw [if_pos rfl, if_pos (by simp)]; simp
      · rw [if_neg c2, if_neg (by simp; omega)]

/-- Values that belong to parts. -/
def VP (ρ : RHO) (σ : ST) (I : Nat → Prop) (w : World) : List (Nat × AV) → List (Nat × Value) → Prop
  | [], [] => True
  | (i, a) :: avl, (j, v) :: vs => i = j ∧ V ρ σ I w a v ∧ VP ρ σ I w avl vs
  | _, _ => False

theorem fill_sound {pl : List (Nat × Nat)} {place : Nat → Option (Nat × Nat)} (hpl : ∀ i x, pl[i]? = some x → place i = some x) : ∀ (parts : List (Nat × AV)) (vparts : List (Nat × Value)) (cells : List AV) (us : Array Value) (out : List AV),
    VP ρ σ I w parts vparts → cells.length = us.size → (∀ j c, cells[j]? = some c → V ρ σ I w c (us.getD j undef)) → fillA pl cells parts = some out →
    ∃ vs, Instr.fill place us vparts = some vs ∧ out.length = vs.size ∧ ∀ j c, out[j]? = some c → V ρ σ I w c (vs.getD j undef) := by
  intro parts
  induction parts with
  | nil =>
    intro vparts cells us out hp hl hc hf
    cases vparts with
    | nil => simp only [fillA, Option.some.injEq] at hf; subst hf; exact ⟨us, rfl, hl, hc⟩
    | cons x y => exact hp.elim
  | cons p parts ih =>
    obtain ⟨i, a⟩ := p
    intro vparts cells us out hp hl hc hf
    match vparts, hp with
    | (j, v) :: vparts, ⟨hij, hv, hp⟩ =>
      subst hij
      simp only [fillA] at hf
      split at hf <;> try (cases hf; done)
      rename_i off size vs h1 h2
      split at hf <;> try (cases hf; done)
      rename_i hb
      obtain ⟨c1, c2, c3⟩ := cellsV_sound hv h2
      have hsz : off + v.cells.toList.length ≤ us.size := by simp; omega
      obtain ⟨f1, f2⟩ := foldl_set v.cells.toList off 0 us (by simpa using hsz)
      have hz : (v.cells.zipIdx.foldl (fun cs (x : Value × Nat) => cs.setIfInBounds (off + x.2) x.1) us) = ((v.cells.toList.zipIdx 0).foldl (fun cs (x : Value × Nat) => cs.setIfInBounds (off + x.2) x.1) us) := by
        rw [← Array.foldl_toList, Array.toList_zipIdx]
      have := ih vparts (splice cells off vs) (v.cells.zipIdx.foldl (fun cs (x : Value × Nat) => cs.setIfInBounds (off + x.2) x.1) us) out hp (by rw [splice_len hb.2, hz, f1, hl]) (fun j c hj => by
        rw [splice_get hb.2] at hj
        rw [hz, f2 j]
        have e1 : v.cells.toList.length = vs.length := by simp; omega
        rw [e1]
        split at hj
        · rename_i hin
          rw [if_pos (by omega)]
          have := c2 _ _ hj
          rw [Array.getD_eq_getD_getElem?] at this
          simpa [List.getD_eq_getElem?_getD] using this
        · rename_i hin
          rw [if_neg (by omega)]
          exact hc j c hj) hf
      obtain ⟨ws, g1, g2, g3⟩ := this
      refine ⟨ws, ?_, g2, g3⟩
      simp only [Instr.fill, hpl i _ h1]
      rw [if_neg (by simp; omega)]
      exact g1

/- a struct that is built -/
def rBuild (P : Program) (t : TypeId) (parts : List (Nat × AV)) (σ : ST) : Res :=
  match structPlaces P t, zeroA P t with
  | some pl, .agg zs => match fillA pl zs parts with
    | some cs => .ok (.agg cs) σ
    | none => .bad
  | _, _ => .bad

theorem rBuild_sound (t : TypeId) (parts : List (Nat × AV)) (vparts : Array (Nat × Value)) (hp : VP ρ σ I w parts vparts.toList) :
    Pev P ρ σ I w (Instr.build t vparts) (rBuild P t parts σ) := by
  unfold rBuild
  split
  · rename_i pl zs hpl hz
    split
    · rename_i cs hf
      unfold structPlaces at hpl
      split at hpl <;> try (cases hpl; done)
      rename_i fs hu
      obtain ⟨v, z1, z2⟩ := zero_run (P := P) (ρ := ρ) (σ := σ) (I := I) (w := w) (t := t) (by rw [hz]; simp)
      rw [hz] at z2
      cases z2 with | agg q1 q2 =>
      rename_i us
      obtain ⟨ws, g1, g2, g3⟩ := fill_sound (place := (pl.toArray[·]?)) (fun i x hx => by simpa using hx) parts vparts.toList zs us cs hp q1 q2 hf
      refine .ok (v := .agg ws) ?_ (.agg g2 g3)
      simp only [Instr.build, Sem.run_bind, z1, Result.andThen_ok, run_underlying hu, run_places fs hpl]
      have : (Value.agg us).cells = us := rfl
      rw [this, g1]
      rfl
    · exact .bad
  · exact .bad

/- slices: nil, literals, made ones -/
def dsOf (e : Nat) : Nat → List (Nat × AV) → Option (List DV)
  | _, [] => some []
  | k, (i, a) :: rest => match toD a with
    | some x => if i = k ∧ x.cells.length = e then (dsOf e (k + 1) rest).map (x :: ·) else none
    | none => none
@[go_sem] theorem dsOf_nil (e k : Nat) : dsOf e k [] = some [] := nrfl rfl
@[go_sem] theorem dsOf_cons (e k i : Nat) (a : AV) (rest : List (Nat × AV)) : dsOf e k ((i, a) :: rest) = match toD a with
    | some x => if i = k ∧ x.cells.length = e then (dsOf e (k + 1) rest).map (x :: ·) else none
    | none => none := nrfl rfl

def newArr (σ : ST) (e t : Nat) (xs : List DV) : Res := .ok (.own σ.length 0 0 xs.length) (σ ++ [.arr 0 ⟨e, t⟩ xs])
@[go_sem] theorem newArr_eq (σ : ST) (e t : Nat) (xs : List DV) : newArr σ e t xs = .ok (.own σ.length 0 0 xs.length) (σ ++ [.arr 0 ⟨e, t⟩ xs]) := nrfl rfl

theorem newArr_eff (hr : RS P ρ I w σ) {e el cap : Nat} {xs : List DV} {us : Array Value} {s : Sem Value}
    (hs : s.run P w = .ok (.slice (some ⟨w.heap.size, 0, none⟩) xs.length cap) w') (hw : ∃ d, w' = ({ w with drawn := d } : World).alloc (.cells us el))
    (h1 : cap * e ≤ us.size) (h2 : xs.length ≤ cap) (h3 : ∀ x, x ∈ xs → Uni e x)
    (h4 : ∀ j c, (flat xs)[j]? = some c → VD I w c (us.getD j undef)) : Eff P ρ σ I w s (newArr σ e el xs) := by
  intro R hR
  obtain ⟨d, rfl⟩ := hw
  let p : Place := ⟨some w.heap.size, 0, cap⟩
  have hp : ∀ B, p.blk = some B → w.heap.size ≤ B := fun B hB => by cases hB; exact Nat.le_refl _
  have hsz : Ext w (({ w with drawn := d } : World).alloc (.cells us el)) := Ext.of (by rw [push_size]; simp)
  have hold : ∀ b, b < w.heap.size → (({ w with drawn := d } : World).alloc (.cells us el)).heap[b]? = w.heap[b]? := fun b hb => push_old _ _ b hb
  have hst := step_push hr (.arr 0 ⟨e, el⟩ xs) p hsz hold hp
  refine ⟨_, _, _, _, I, _, hs, hst, rs_push hr (.arr 0 ⟨e, el⟩ xs) p hsz hold hp ?_, ?_, hR⟩
  · exact .arr rfl (push_new ({ w with drawn := d } : World) _) (by simpa [p] using h1) h2 h3 (fun j c hj => hst.vd hr (by simpa [p] using h4 j c hj))
  · have := V.own (ρ := updR ρ σ.length p) (σ := σ ++ [.arr 0 ⟨e, el⟩ xs]) (I := I) (w := ({ w with drawn := d } : World).alloc (.cells us el)) (b := σ.length) (g := 0) (off := 0) (n := xs.length) (e := ⟨e, el⟩) (xs := xs) (B := w.heap.size) (cap := cap) (by simp) (by simp [p]) h2 (by simp [p])
    simpa [p] using this

theorem one_isAgg {x : DV} (h : (AV.d x).one = true) : x.isAgg = false := by cases x <;> first | rfl | simp [AV.one] at h

theorem toD_plain {a : AV} {x : DV} (hd : toD a = some x) : ∀ c, c ∈ x.cells → c.isAgg = false := by
  unfold toD at hd
  split at hd
  · cases hd
  · rename_i y hne
    simp only [Option.some.injEq] at hd; subst hd
    intro c hc
    have hy : y.isAgg = false := by cases y <;> first | rfl | exact absurd rfl (hne _)
    have : y.cells = [y] := by cases y <;> first | rfl | exact absurd rfl (hne _)
    rw [this] at hc
    rw [List.mem_singleton.1 hc]; exact hy
  · simp only [Option.bind_eq_some_iff] at hd
    obtain ⟨xs, h1, h2⟩ := hd
    split at h2 <;> try (cases h2; done)
    rename_i hall
    simp only [Option.some.injEq] at h2; subst h2
    intro c hc
    have := toDs_map h1; subst this
    exact one_isAgg (List.all_eq_true.1 hall _ (List.mem_map.2 ⟨c, hc, rfl⟩))
  · cases hd

theorem toD_V {a : AV} {x : DV} {v : Value} (h : V ρ σ I w a v) (hd : toD a = some x) : VD I w x v := by
  unfold toD at hd
  split at hd
  · cases hd
  · simp only [Option.some.injEq] at hd; subst hd; exact h.d_inv
  · simp only [Option.bind_eq_some_iff] at hd
    obtain ⟨xs, h1, h2⟩ := hd
    split at h2 <;> try (cases h2; done)
    simp only [Option.some.injEq] at h2; subst h2
    cases h with | agg k1 k2 =>
    have := toDs_map h1; subst this
    exact .agg (by simpa using k1) (fun j c hj => (k2 j (.d c) (by rw [List.getElem?_map, hj]; rfl)).d_inv)
  · cases hd

theorem dsOf_fill {e : Nat} : ∀ (parts : List (Nat × AV)) (vparts : List (Nat × Value)) (k : Nat) (ds : List DV) (us : Array Value), VP ρ σ I w parts vparts → dsOf e k parts = some ds → (k + ds.length) * e ≤ us.size →
    ∃ vs, Instr.fill (fun i => some (i * e, e)) us vparts = some vs ∧ vs.size = us.size ∧ (∀ x, x ∈ ds → Uni e x) ∧
      (∀ j, j < k * e → vs.getD j undef = us.getD j undef) ∧ ∀ j c, (flat ds)[j]? = some c → VD I w c (vs.getD (k * e + j) undef) := by
  intro parts
  induction parts with
  | nil =>
    intro vparts k ds us hp hd hl
    cases vparts with
    | nil => simp only [dsOf, Option.some.injEq] at hd; subst hd; exact ⟨us, rfl, rfl, by simp, fun _ _ => rfl, by simp [flat]⟩
    | cons x y => exact hp.elim
  | cons p parts ih =>
    obtain ⟨i, a⟩ := p
    intro vparts k ds us hp hd hl
    match vparts, hp with
    | (j, v) :: vparts, ⟨hij, hv, hp⟩ =>
      subst hij
      simp only [dsOf] at hd
      split at hd <;> try (cases hd; done)
      rename_i x hx
      split at hd <;> try (cases hd; done)
      rename_i hik
      obtain ⟨rfl, hxe⟩ := hik
      simp only [Option.map_eq_some_iff] at hd
      obtain ⟨ds', hd', rfl⟩ := hd
      obtain ⟨c1, c2, c3⟩ := toD_cells hv hx
      simp only [List.length_cons] at hl
      have hl2 : (i + (ds'.length + 1)) * e = i * e + e + ds'.length * e := by rw [Nat.add_mul, Nat.add_mul]; omega
      obtain ⟨f1, f2⟩ := foldl_set v.cells.toList (i * e) 0 us (by simp; omega)
      have hz : (v.cells.zipIdx.foldl (fun cs (x : Value × Nat) => cs.setIfInBounds (i * e + x.2) x.1) us) = ((v.cells.toList.zipIdx 0).foldl (fun cs (x : Value × Nat) => cs.setIfInBounds (i * e + x.2) x.1) us) := by
        rw [← Array.foldl_toList, Array.toList_zipIdx]
      obtain ⟨vs, g1, g2, g3, g4, g5⟩ := ih vparts (i + 1) ds' (v.cells.zipIdx.foldl (fun cs (x : Value × Nat) => cs.setIfInBounds (i * e + x.2) x.1) us) hp hd' (by rw [hz, f1, Nat.add_right_comm, Nat.add_mul, Nat.add_mul]; omega)
      have hge : ∀ j, (v.cells.zipIdx.foldl (fun cs (x : Value × Nat) => cs.setIfInBounds (i * e + x.2) x.1) us).getD j undef = if i * e ≤ j ∧ j < i * e + e then v.cells.getD (j - i * e) undef else us.getD j undef := by
        intro j
        rw [hz, f2 j]
        have e1 : v.cells.toList.length = e := by simp; omega
        rw [e1]
        simp [List.getD_eq_getElem?_getD, Array.getD_eq_getD_getElem?]
      refine ⟨vs, ?_, by rw [g2, hz, f1], fun y hy => ?_, fun j hj => ?_, fun j c hj => ?_⟩
      · simp only [Instr.fill]
        rw [if_neg (by simp; omega)]
        exact g1
      · rcases List.mem_cons.1 hy with h | h
        · rw [h]; exact ⟨hxe, toD_plain hx⟩
        · exact g3 y h
      · rw [g4 j (by rw [Nat.add_mul]; omega), hge, if_neg (by omega)]
      · simp only [flat, List.flatMap_cons] at hj
        rcases Nat.lt_or_ge j x.cells.length with h | h
        · rw [List.getElem?_append_left h] at hj
          rw [g4 _ (by rw [Nat.add_mul]; omega), hge, if_pos (by omega), Nat.add_sub_cancel_left]
          exact c2 j c hj
        · rw [List.getElem?_append_right h] at hj
          have := g5 _ c hj
          rwa [show (i + 1) * e + (j - x.cells.length) = i * e + j by rw [Nat.add_mul]; omega] at this

def rBuildSlice (P : Program) (t : TypeId) (len : Nat) (parts : List (Nat × AV)) (σ : ST) : Res :=
  match P.underlying t with
  | some (.slice el) => .need (0 < P.cellsOf el ∧ zeroA P el ≠ .any ∧ len * P.cellsOf el ≤ 16777216) (match dsOf (P.cellsOf el) 0 parts with
    | some ds => .need (len = ds.length) (newArr σ (P.cellsOf el) el ds)
    | none => .bad)
  | _ => .bad
theorem rBuildSlice_eq {t el : Nat} (h : P.underlying t = some (.slice el)) (len : Nat) (parts : List (Nat × AV)) (σ : ST) : rBuildSlice P t len parts σ =
    .need (0 < P.cellsOf el ∧ zeroA P el ≠ .any ∧ len * P.cellsOf el ≤ 16777216) (match dsOf (P.cellsOf el) 0 parts with
    | some ds => .need (len = ds.length) (newArr σ (P.cellsOf el) el ds)
    | none => .bad) := by unfold rBuildSlice; rw [h]

theorem rBuildSlice_sound (hr : RS P ρ I w σ) (t : TypeId) (len : Nat) (parts : List (Nat × AV)) (vparts : Array (Nat × Value)) (hp : VP ρ σ I w parts vparts.toList) :
    Eff P ρ σ I w (Instr.buildSlice t len vparts) (rBuildSlice P t len parts σ) := by
  unfold rBuildSlice
  split
  · rename_i el hu
    refine .need fun ⟨hz, hza, hlim⟩ => ?_
    split
    · rename_i ds hd
      refine .need fun hlen => ?_
      subst hlen
      obtain ⟨v, z1, z2⟩ := zero_run (P := P) (ρ := ρ) (σ := σ) (I := I) (w := w) hza
      let zero : Array Value := if ds.length * P.cellsOf el = 0 then #[] else v.cells
      let us0 : Array Value := (Array.range (ds.length * P.cellsOf el)).map (zero[· % zero.size]!)
      obtain ⟨vs, g1, g2, g3, g4, g5⟩ := dsOf_fill parts vparts.toList 0 ds us0 hp hd (by simp [us0])
      have hrun : (Instr.buildSlice t ds.length vparts).run P w = .ok (.slice (some ⟨w.heap.size, 0, none⟩) ds.length ds.length) (w.alloc (.cells vs el)) := by
        have hn : ¬ (ds.length * P.cellsOf el > 2 ^ 24) := by omega
        by_cases h0 : ds.length * P.cellsOf el = 0
        · simp only [Instr.buildSlice, Sem.run_bind, run_underlying hu, Result.andThen_ok, run_sizeOf_pos hz, Sem.run_ite, hn, if_false, Sem.run_pure]
          rw [if_pos h0]
          have e1 : us0 = (Array.range (ds.length * P.cellsOf el)).map (fun x => (#[] : Array Value)[x % (#[] : Array Value).size]!) := by simp only [us0, zero, h0, if_true]
          rw [← e1, g1]
          simp [newRow]
        · simp only [Instr.buildSlice, Sem.run_bind, run_underlying hu, Result.andThen_ok, run_sizeOf_pos hz, Sem.run_ite, hn, if_false, Sem.run_pure]
          rw [if_neg h0]
          simp only [z1, Result.andThen_ok]
          have e1 : us0 = (Array.range (ds.length * P.cellsOf el)).map (fun x => v.cells[x % v.cells.size]!) := by simp only [us0, zero, h0, if_false]
          rw [← e1, g1]
          simp [newRow]
      refine newArr_eff (el := el) (us := vs) hr hrun ⟨w.drawn, rfl⟩ ?_ (Nat.le_refl _) g3 (fun j c hj => by simpa using g5 j c hj)
      rw [g2]; simp [us0]
    · exact Eff.bad
  · exact Eff.bad
end
end Nv
/- append, make, copy; slices that are frozen, and nil slices that are taken over: soundness. -/



set_option linter.unusedVariables false
set_option linter.unusedSimpArgs false
namespace Nv
open Go

section
variable {P : Program} {ρ ρ' : RHO} {σ σ' : ST} {I I' : Nat → Prop} {w w' : World}

/-- The elements of a slice. -/
def elems (e : ET) (x : AV) (σ : ST) : Option (List DV) :=
  match x with
  | .d (.list e' xs) => if e' = e.n then some xs else none
  | .d .nilslice => some []
  | .own b g off n => match stGet σ b with
    | .arr g' e' xs => if g = g' ∧ e' = e ∧ off + n ≤ xs.length then some ((xs.drop off).take n) else none
    | _ => none
  | _ => none
@[go_sem] theorem elems_list (e : Nat) (t : Nat) (xs : List DV) (σ : ST) : elems ⟨e, t⟩ (.d (.list e xs)) σ = some xs := by simp [elems]
@[go_sem] theorem elems_nil (e : ET) (σ : ST) : elems e (.d .nilslice) σ = some [] := nrfl rfl
@[go_sem] theorem elems_own (e : ET) (b g off n : Nat) (σ : ST) : elems e (.own b g off n) σ = match stGet σ b with
    | .arr g' e' xs => if g = g' ∧ e' = e ∧ off + n ≤ xs.length then some ((xs.drop off).take n) else none
    | _ => none := nrfl rfl

/-- A slice whose elements are known. -/
structure Elems (P : Program) (I : Nat → Prop) (w : World) (e : Nat) (v : Value) (xs : List DV) where
  sl : ∃ p n cap, v = .slice p n cap ∧ n = xs.length ∧ n ≤ cap
  uni : ∀ x, x ∈ xs → Uni e x
  run : ∃ us : Nat → Value, (∀ (w' : World) (m : Nat), w'.heap = w.heap → m ≤ xs.length → (Builtin.firstCells e m v).run P w' = .ok ((List.range (m * e)).map us).toArray w') ∧ ∀ j c, (flat xs)[j]? = some c → VD I w c (us j)

/-- What is appended: the elements of a slice, or a string's bytes. -/
structure ElemsX (P : Program) (I : Nat → Prop) (w : World) (e : Nat) (v : Value) (xs : List DV) where
  len : ∀ w' : World, (Builtin.lenOf v).run P w' = .ok xs.length w'
  uni : ∀ x, x ∈ xs → Uni e x
  run : ∃ us : Nat → Value, (∀ (w' : World) (m : Nat), w'.heap = w.heap → m = xs.length → (Builtin.firstCells e m v).run P w' = .ok ((List.range (m * e)).map us).toArray w') ∧ ∀ j c, (flat xs)[j]? = some c → VD I w c (us j)

theorem Elems.x {e : Nat} {v : Value} {xs : List DV} (h : Elems P I w e v xs) : ElemsX P I w e v xs := by
  obtain ⟨p, n, cap, rfl, rfl, _⟩ := h.sl
  obtain ⟨us, h1, h2⟩ := h.run
  exact ⟨fun w' => by simp [Builtin.lenOf], h.uni, us, fun w' m hw hm => h1 w' m hw (by omega), h2⟩

theorem cell_heap (h : w'.heap = w.heap) (a : Addr) : w'.cell? a = w.cell? a := by simp [World.cell?, h]

theorem run_firstCells {e m : Nat} {B off n cap : Nat} {us : Nat → Value} (h : ∀ j, j < m * e → w.cell? ⟨B, off + j, none⟩ = some (us j)) :
    (Builtin.firstCells e m (.slice (some ⟨B, off, none⟩) n cap)).run P w = .ok ((List.range (m * e)).map us).toArray w := by
  simp only [Builtin.firstCells, loadCells]
  rw [run_loadCellsFrom B off _ 0 #[] us (fun j hj => by simpa using h j hj)]
  simp

theorem elems_sound (hr : RS P ρ I w σ) {e : ET} {x : AV} {v : Value} {xs : List DV} (hx : V ρ σ I w x v) (h : elems e x σ = some xs) : Elems P I w e v xs := by
  have empty : ∀ p : Option Addr, Elems P I w e (.slice p 0 0) [] := fun p =>
    ⟨⟨p, 0, 0, rfl, rfl, Nat.le_refl _⟩, by simp, fun _ => undef, fun w' m hw hm => by
      simp only [List.length_nil, Nat.le_zero] at hm; subst hm
      cases p <;> simp [Builtin.firstCells, loadCells, loadCellsFrom], by simp [flat]⟩
  unfold elems at h
  split at h
  · split at h <;> try (cases h; done)
    rename_i e' ys he; subst he
    simp only [Option.some.injEq] at h; subst h
    cases hx.d_inv with
    | listNil => exact empty _
    | list us q1 q2 q0 q3 q4 =>
      refine ⟨⟨_, _, _, rfl, q1, q2⟩, q0, us, fun w' m hw hm => run_firstCells (fun j hj => ?_), q4⟩
      rw [cell_heap hw]
      have hlt : j < (flat ys).length := by rw [flat_len q0]; exact Nat.lt_of_lt_of_le hj (Nat.mul_le_mul_right _ hm)
      exact (q3 j _ (List.getElem?_eq_getElem hlt)).2
  · simp only [Option.some.injEq] at h; subst h
    cases hx.d_inv
    exact empty none
  · rename_i b g off n
    split at h <;> try (cases h; done)
    rename_i g' e' ys hst
    split at h <;> try (cases h; done)
    rename_i hc
    obtain ⟨rfl, rfl, hlen⟩ := hc
    simp only [Option.some.injEq] at h; subst h
    have hs := stGet_some hst (by simp)
    cases hx with
    | ownOld k1 k2 => rw [hs] at k1; cases k1; exact absurd (k2 _ _ _ rfl) (by omega)
    | ownNil k1 k2 => simpa using empty _
    | own k1 k2 k3 k4 =>
      rw [hs] at k1; cases k1
      rename_i B cap
      obtain ⟨us, q1, q2, q3, q4, q5⟩ := hr.arr hs k2
      have hmem : ∀ x, x ∈ (ys.drop off).take n → Uni e' x := fun x hx => q4 x (List.mem_of_mem_drop (List.mem_of_mem_take hx))
      have hln : ((ys.drop off).take n).length = n := by simp; omega
      have hcap : (ρ b).base + off * e' + n * e' ≤ us.size := by
        have : (off + n) * e' ≤ (ρ b).cap * e' := Nat.mul_le_mul_right _ (by omega)
        rw [Nat.add_mul] at this; omega
      refine ⟨⟨_, _, _, rfl, hln.symm, k3⟩, hmem, fun j => us.getD ((ρ b).base + off * e' + j) undef, fun w' m hw hm => run_firstCells (fun j hj => ?_), fun j c hj => ?_⟩
      · rw [cell_heap hw]
        have : m * e' ≤ n * e' := Nat.mul_le_mul_right _ (by omega)
        exact cell_of_heap q1 (by omega)
      · rw [flat_take (fun x hx => q4 x (List.mem_of_mem_drop hx)), flat_drop q4, List.getElem?_take] at hj
        split at hj
        · rw [List.getElem?_drop] at hj
          have := q5 _ _ hj
          rwa [← Nat.add_assoc] at this
        · cases hj
  · cases h

/-- The elements of what is appended. -/
def srcElems (d : TypeDesc) (e : ET) (x : AV) (σ : ST) : Option (List DV) :=
  match d with
  | .slice _ => elems e x σ
  | .string => match x with
    | .d (.str s) => if e.n = 1 then some (s.map fun b => .int .u8 (b.toNat : Nat)) else none
    | _ => none
  | _ => none
@[go_sem] theorem srcElems_slice (t : TypeId) (e : ET) (x : AV) (σ : ST) : srcElems (.slice t) e x σ = elems e x σ := nrfl rfl
@[go_sem] theorem srcElems_string (t : Nat) (s : List UInt8) (σ : ST) : srcElems .string ⟨1, t⟩ (.d (.str s)) σ = some (s.map fun b => .int .u8 (b.toNat : Nat)) := nrfl rfl

theorem srcElems_kind {xt : TypeId} {d : TypeDesc} {e : ET} {x : AV} {ys : List DV} (hd : P.underlying xt = some d) (h : srcElems d e x σ = some ys) : ∃ xe, P.underlying xt = some (.slice xe) ∨ P.underlying xt = some .string := by
  cases d <;> simp only [srcElems] at h <;> try (cases h; done)
  · exact ⟨0, .inr hd⟩
  · rename_i xe; exact ⟨xe, .inl hd⟩

theorem srcElems_sound (hr : RS P ρ I w σ) {d : TypeDesc} {e : ET} {x : AV} {v : Value} {xs : List DV} (hx : V ρ σ I w x v) (h : srcElems d e x σ = some xs) : ElemsX P I w e v xs := by
  unfold srcElems at h
  split at h
  · exact (elems_sound (P := P) hr hx h).x
  · split at h <;> try (cases h; done)
    rename_i s
    split at h <;> try (cases h; done)
    rename_i he
    simp only [Option.some.injEq] at h; subst h
    have := hx.d_inv.str_inv; subst this
    have hfl : flat (s.map fun b => DV.int .u8 (b.toNat : Nat)) = s.map fun b => DV.int .u8 (b.toNat : Nat) := by
      simp only [flat]
      clear hx
      induction s with
      | nil => rfl
      | cons b s ih => simp only [List.map_cons, List.flatMap_cons, ih]; rfl
    refine ⟨fun w' => ?_, fun x hx => ?_, fun j => .int .u8 ((s.getD j 0).toNat : Nat), fun w' m hw hm => ?_, fun j c hj => ?_⟩
    · simp [Builtin.lenOf]; rfl
    · obtain ⟨b, _, rfl⟩ := List.mem_map.1 hx
      refine ⟨by rw [he]; rfl, fun c hc => ?_⟩
      simp only [DV.cells, List.mem_singleton] at hc; subst hc; rfl
    · subst hm
      have h1 := Lib.run_firstCells_string (P := P) w' e.n ⟨s.toArray⟩
      have h2 : (⟨s.toArray⟩ : ByteArray).size = (s.map fun b => DV.int .u8 (b.toNat : Nat)).length := by simp; rfl
      rw [h2] at h1
      rw [h1, he]
      congr 1
      simp only [Lib.strCells]
      congr 1
      apply List.ext_getElem
      · simp
      · intro i hi1 hi2
        simp at hi1
        simp [hi1]
    · rw [hfl, List.getElem?_map] at hj
      simp only [Option.map_eq_some_iff] at hj
      obtain ⟨b, hb, rfl⟩ := hj
      have : s.getD j 0 = b := by rw [List.getD_eq_getElem?_getD, hb]; rfl
      show VD I w _ (Value.int .u8 ((s.getD j 0).toNat : Nat))
      rw [this]; exact .int _ _
  · cases h

def rAppend (P : Program) (t xt : TypeId) (s x : AV) (σ : ST) : Res :=
  match P.underlying t, P.underlying xt with
  | some (.slice el), some d => .need (0 < P.cellsOf el ∧ (cellsV (zeroA P el)).map List.length = some (P.cellsOf el)) (match elems ⟨P.cellsOf el, el⟩ s σ, srcElems d ⟨P.cellsOf el, el⟩ x σ with
    | some xs, some ys => .need (0 < P.bytesOf el ∧ (xs.length + ys.length) * P.bytesOf el ≤ 140737488355328) (match s with
      | .d .nilslice => newArr σ (P.cellsOf el) el ys
      | .own b g off n => .ok (.own b (g + 1) 0 (xs.length + ys.length)) (stSet σ b (.arr (g + 1) ⟨P.cellsOf el, el⟩ (xs ++ ys)))
      | _ => .bad)
    | _, _ => .bad)
  | _, _ => .bad

def inPlace (P : Program) (w : World) (p : Option Addr) (o : Nat) (vs : List Value) (r : Value) : Result Value :=
  match p with
  | some a => ((storeCells (a.add o) vs).run P w).andThen fun _ w' => .ok r w'
  | none => .ok r w

theorem VD.oneCell {c : DV} {v : Value} (h : VD I w c v) (ha : c.isAgg = false) : v.oneCell' = true := by
  cases h <;> first | rfl | simp [DV.isAgg] at ha

/-- What an append comes to in the world: in place, or in a new block. -/
theorem run_append {t el xt xe e : Nat} {ts : Array TypeId} {ty : TypeId} (ht : P.underlying t = some (.slice el)) (hxt : P.underlying xt = some (.slice xe) ∨ P.underlying xt = some .string) (hts : ts[0]? = some t) (hts1 : ts[1]? = some xt)
    (he : e = P.cellsOf el) (hz : 0 < e) {zv : Value} (hzv : ∀ w : World, (zeroValue el).run P w = .ok zv w) (hzs : zv.cells.size = e)
    {p : Option Addr} {n cap : Nat} {vx : Value} {xs ys : List DV} (hs : Elems P I w e (.slice p n cap) xs) (hx : ElemsX P I w e vx ys)
    (hby : 0 < P.bytesOf el) (hlim : (xs.length + ys.length) * P.bytesOf el ≤ 140737488355328) :
    (xs.length + ys.length ≤ cap ∧ ∃ us : Nat → Value, (∀ j c, (flat ys)[j]? = some c → VD I w c (us j)) ∧
      (Builtin.append_ ts ty #[.slice p n cap, vx]).run P w = inPlace P w p (n * e) ((List.range (ys.length * e)).map us) (.slice p (xs.length + ys.length) cap)) ∨
    (cap < xs.length + ys.length ∧ ∃ us d ncap, xs.length + ys.length ≤ ncap ∧ us.size = ncap * e ∧ (∀ j c, (flat (xs ++ ys))[j]? = some c → VD I w c (us.getD j undef)) ∧
      (Builtin.append_ ts ty #[.slice p n cap, vx]).run P w = .ok (.slice (some ⟨w.heap.size, 0, none⟩) (xs.length + ys.length) ncap) (({ w with drawn := d } : World).alloc (.cells us el))) := by
  obtain ⟨p', n', cap', e1, hn, hcap⟩ := hs.sl
  cases e1
  have hlx := hx.len
  subst hn
  obtain ⟨us, hus, husv⟩ := hs.run
  obtain ⟨ux, hux, huxv⟩ := hx.run
  have hsz : ∀ w : World, (Go.sizeOf el).run P w = .ok e w := fun w => by rw [he]; exact run_sizeOf_pos (by omega)
  have hinfo : ∃ i, P.info? el = some i ∧ i.bytes = P.bytesOf el := by
    cases hi : P.info? el with
    | none => simp [Program.bytesOf, hi] at hby
    | some i => exact ⟨i, rfl, by simp [Program.bytesOf, hi]⟩
  obtain ⟨i, hi, hib⟩ := hinfo
  have hti : ∀ w : World, (typeInfo el).run P w = .ok i w := fun w => by simp [typeInfo, hi]
  by_cases hle : xs.length + ys.length ≤ cap
  · left
    refine ⟨hle, ux, huxv, ?_⟩
    have hsz' := hsz w
    have hux' := hux w ys.length rfl rfl
    cases p with
    | none => rcases hxt with hxt | hxt <;> simp [inPlace, Builtin.append_, hts, hts1, run_underlying ht, run_underlying hxt, hsz', hlx, hle, hux']
    | some a => rcases hxt with hxt | hxt <;> simp [inPlace, Builtin.append_, hts, hts1, run_underlying ht, run_underlying hxt, hsz', hlx, hle, hux']
  · right
    have hlt : cap < xs.length + ys.length := by omega
    have hgrow := growslice_fits hlt hlim
    have hux' := hux { w with drawn := w.drawn + 1 } ys.length rfl rfl
    have hus' := hus { w with drawn := w.drawn + 1 } xs.length rfl (Nat.le_refl _)
    let q : Question := .appendCap (xs.length + ys.length) cap el
    let ncap := q.cut (w.tape w.drawn q)
    have hnc : xs.length + ys.length ≤ ncap := by simp [ncap, q, Question.cut]
    have hf : q.forced = false := rfl
    let rest := Builtin.zeroCells zv.cells (ncap - (xs.length + ys.length))
    have hrest : rest.size = (ncap - (xs.length + ys.length)) * e := by simp [rest, Builtin.zeroCells, hzs]
    refine ⟨hlt, ((List.range (xs.length * e)).map us).toArray ++ ((List.range (ys.length * e)).map ux).toArray ++ rest, w.drawn + 1, ncap, hnc, ?_, ?_, ?_⟩
    · simp [hrest]; rw [← Nat.add_mul, ← Nat.add_mul]; congr 1; omega
    · intro j c hj
      have hl := flat_len hs.uni
      have hly := flat_len hx.uni
      simp only [flat, List.flatMap_append] at hj hl hly
      simp only [Array.getD_eq_getD_getElem?]
      rcases Nat.lt_or_ge j (xs.length * e) with h | h
      · rw [List.getElem?_append_left (by omega)] at hj
        have := husv j c hj
        rw [Array.append_assoc, Array.getElem?_append_left (by simpa using h)]
        simpa [h] using this
      · rw [List.getElem?_append_right (by omega)] at hj
        rw [hl] at hj
        have hj2 : j - xs.length * e < ys.length * e := by
          rcases Nat.lt_or_ge (j - xs.length * e) (ys.length * e) with h' | h'
          · exact h'
          · rw [List.getElem?_eq_none (by omega)] at hj; cases hj
        have := huxv _ c hj
        rw [Array.append_assoc, Array.getElem?_append_right (by simpa using h), Array.getElem?_append_left (by simpa using hj2)]
        simpa [hj2] using this
    · have hsz' := hsz w
      have hti' := hti w
      have hzv' := hzv { w with drawn := w.drawn + 1 }
      have hti2 := hti { w with drawn := w.drawn + 1 }
      have h0 : ¬ (i.bytes = 0) := by omega
      have hbig : ¬ (Builtin.nextslicecap (xs.length + ys.length) cap * i.bytes > 2 ^ 48) := by rw [hib]; omega
      have hq : (choose q).run P w = .ok ncap { w with drawn := w.drawn + 1 } := by rw [run_choose, hf]; rfl
      rcases hxt with hxt | hxt
      all_goals
       simp [Builtin.append_, hts, hts1, run_underlying ht, run_underlying hxt, hsz', hlx, hle, hti', h0, -run_choose]
       rw [if_neg (by omega)]
       rw [if_neg (show ¬ ((Question.appendCap (xs.length + ys.length) cap el).forced = true) by simp [Question.forced])]
       have a1 : (Builtin.firstCells e xs.length (Value.slice p xs.length cap)).run P w.drew = .ok ((List.range (xs.length * e)).map us).toArray w.drew := hus'
       have a2 : (Builtin.firstCells e ys.length vx).run P w.drew = .ok ((List.range (ys.length * e)).map ux).toArray w.drew := hux'
       rw [hti w.drew, Result.andThen_ok, a1, Result.andThen_ok, a2, Result.andThen_ok, hzv w.drew, Result.andThen_ok]
       simp [newRow, rest, ncap, q]
       rw [← Array.append_assoc]
       simp

/-- The blocks of a slice that is appended to. -/
theorem rAppend_sound (hr : RS P ρ I w σ) (t xt ty : TypeId) (ts : Array TypeId) (s x : AV) (vs vx : Value) (hts : ts[0]? = some t) (hts1 : ts[1]? = some xt) (hs : V ρ σ I w s vs) (hx : V ρ σ I w x vx) :
    Eff P ρ σ I w (Builtin.append_ ts ty #[vs, vx]) (rAppend P t xt s x σ) := by
  unfold rAppend
  split
  · rename_i el dx ht hxd
    refine .need fun ⟨hz, hzc⟩ => ?_
    simp only [Option.map_eq_some_iff] at hzc
    obtain ⟨zcs, hzc1, hzc2⟩ := hzc
    have hzne : zeroA P el ≠ .any := cellsV_any hzc1
    have hzrun : ∃ zv, (∀ w : World, (zeroValue el).run P w = .ok zv w) ∧ zv.cells.size = P.cellsOf el := by
      obtain ⟨zv, z1, z2⟩ := zero_run (P := P) (ρ := ρ) (σ := σ) (I := I) (w := w) hzne
      obtain ⟨c1, _⟩ := cellsV_sound z2 hzc1
      refine ⟨zv, fun w' => ?_, by omega⟩
      obtain ⟨zv', z1', _⟩ := zero_run (P := P) (ρ := ρ) (σ := σ) (I := I) (w := w') hzne
      have : zv' = zv := by
        unfold zeroValue typeInfo at z1 z1'
        cases hi : P.info? el with
        | none => simp [hi] at z1
        | some i => cases hzz : i.zero <;> simp [hi, hzz] at z1 z1'; rw [← z1, ← z1']
      rw [← this]; exact z1'
    obtain ⟨zv, hzv, hzs⟩ := hzrun
    split
    · rename_i xs ys he1 he2
      refine .need fun ⟨hby, hlim⟩ => ?_
      have E1 := elems_sound (P := P) hr hs he1
      have E2 := srcElems_sound (P := P) hr hx he2
      obtain ⟨xe, hxt⟩ := srcElems_kind hxd he2
      split
      · -- a nil slice
        simp only [elems, Option.some.injEq] at he1; subst he1
        cases hs.d_inv
        rcases run_append (ty := ty) ht hxt hts hts1 rfl hz hzv hzs E1 E2 hby hlim with ⟨h1, us, h2, h3⟩ | ⟨h1, us, d, ncap, h2, h3, h4, h5⟩
        · simp only [List.length_nil, Nat.zero_add, Nat.le_zero] at h1
          obtain rfl : ys = [] := List.length_eq_zero_iff.1 h1
          intro R hR
          let p : Place := ⟨none, 0, 0⟩
          have hp : ∀ B, p.blk = some B → w.heap.size ≤ B := fun B hB => by cases hB
          have hst := step_push (w' := w) hr (.arr 0 ⟨P.cellsOf el, el⟩ []) p (Ext.of (Nat.le_refl _)) (fun _ _ => rfl) hp
          refine ⟨_, _, _, _, I, _, h3, hst, rs_push hr _ p (Ext.of (Nat.le_refl _)) (fun _ _ => rfl) hp (.arrNil rfl rfl), ?_, hR⟩
          exact .ownNil (e := ⟨P.cellsOf el, el⟩) (xs := []) (by simp) (fun _ h => by cases h)
        · simp only [List.length_nil, Nat.zero_add, List.nil_append] at *
          exact newArr_eff (el := el) hr h5 ⟨d, rfl⟩ (by omega) h2 E2.uni h4
      · -- a slice of the call's own
        rename_i b g off n
        have he1' := he1
        simp only [elems] at he1
        split at he1 <;> try (cases he1; done)
        rename_i g' e' zs hst
        split at he1 <;> try (cases he1; done)
        rename_i hc
        obtain ⟨rfl, rfl, hlen⟩ := hc
        simp only [Option.some.injEq] at he1
        have hsb := stGet_some hst (by simp)
        intro R hR
        have huni : ∀ y, y ∈ xs ++ ys → Uni (P.cellsOf el) y := fun y hy => by
          rcases List.mem_append.1 hy with h | h
          · exact E1.uni y h
          · exact E2.uni y h
        have hblt : b < σ.length := by rcases Nat.lt_or_ge b σ.length with h' | h'; exact h'; simp [List.getElem?_eq_none h'] at hsb
        have hcmp : ∀ p', Compat (.arr g ⟨P.cellsOf el, el⟩ zs) (ρ b) (.arr (g + 1) ⟨P.cellsOf el, el⟩ (xs ++ ys)) p' := fun p' => .inr (by omega)
        -- a new block, or none
        have fresh : ∀ (w' : World) (p' : Place) (v : Value), Ext w w' → (∀ c, c < w.heap.size → (ρ b).blk ≠ some c → w'.heap[c]? = w.heap[c]?) →
            (∀ B', p'.blk = some B' → (ρ b).blk = some B' ∨ w.heap.size ≤ B') →
            (Step ρ I w σ (updR ρ b p') I w' (stSet σ b (.arr (g + 1) ⟨P.cellsOf el, el⟩ (xs ++ ys))) → RB (updR ρ b p') (stSet σ b (.arr (g + 1) ⟨P.cellsOf el, el⟩ (xs ++ ys))) I w' p' (.arr (g + 1) ⟨P.cellsOf el, el⟩ (xs ++ ys))) →
            (V (updR ρ b p') (stSet σ b (.arr (g + 1) ⟨P.cellsOf el, el⟩ (xs ++ ys))) I w' (.own b (g + 1) 0 (xs.length + ys.length)) v) →
            (Builtin.append_ ts ty #[vs, vx]).run P w = .ok v w' → ∃ v av w' ρ' I' σ', (Builtin.append_ ts ty #[vs, vx]).run P w = .ok v w' ∧ Step ρ I w σ ρ' I' w' σ' ∧ RS P ρ' I' w' σ' ∧ V ρ' σ' I' w' av v ∧ R av σ' := by
          intro w' p' v hsz hold hp hrb hv hrun
          have hstep := step_updG (w' := w') hr hsb trivial p' (hcmp p') hsz hold hp
          exact ⟨v, _, w', _, I, _, hrun, hstep, rs_updG hr hsb trivial p' (hcmp p') hsz hold hp (hrb hstep), hv, hR⟩
        have hset : (stSet σ b (.arr (g + 1) ⟨P.cellsOf el, el⟩ (xs ++ ys)))[b]? = some (.arr (g + 1) ⟨P.cellsOf el, el⟩ (xs ++ ys)) := by simp [stSet, hblt]
        obtain ⟨p, m, cap, hvs, hm, hcap⟩ := E1.sl
        subst hvs
        rcases run_append (ty := ty) ht hxt hts hts1 rfl hz hzv hzs E1 E2 hby hlim with ⟨h1, us, h2, h3⟩ | ⟨h1, us, d, ncap, h2, h3, h4, h5⟩
        · -- in place
          have hnil : ∀ q : Option Addr, (∀ a, q = some a → a.spot = none ∧ a.block < w.heap.size) → xs.length + ys.length = 0 → cap = 0 → (Builtin.append_ ts ty #[.slice p m cap, vx]).run P w = .ok (.slice q 0 0) w →
              ∃ v av w' ρ' I' σ', (Builtin.append_ ts ty #[.slice p m cap, vx]).run P w = .ok v w' ∧ Step ρ I w σ ρ' I' w' σ' ∧ RS P ρ' I' w' σ' ∧ V ρ' σ' I' w' av v ∧ R av σ' := by
            intro q hq h0 hc0 hrun
            have hx0 : xs = [] := List.length_eq_zero_iff.1 (by omega)
            have hy0 : ys = [] := List.length_eq_zero_iff.1 (by omega)
            refine fresh w ⟨none, 0, 0⟩ (.slice q 0 0) (Ext.of (Nat.le_refl _)) (fun _ _ _ => rfl) (fun B h => by cases h) (fun _ => by rw [hx0, hy0]; exact .arrNil rfl rfl) ?_ hrun
            rw [h0]; exact .ownNil hset hq
          cases hs with
          | ownOld k1 k2 => rw [hsb] at k1; cases k1; exact absurd (k2 _ _ _ rfl) (by omega)
          | ownNil k1 k2 =>
            have h0 : xs.length + ys.length = 0 := by omega
            have hy0 : ys = [] := List.length_eq_zero_iff.1 (by omega)
            subst hy0
            refine hnil p k2 h0 rfl ?_
            rw [h3]
            cases p with
            | none => simp only [inPlace, h0]
            | some a => rw [h0]; simp [inPlace, storeCells]
          | own k1 k2 k3 k4 =>
            rw [hsb] at k1; cases k1
            rename_i B
            obtain ⟨vs, q1, q2, q3, q4, q5⟩ := hr.arr hsb k2
            have hxs : xs.length = n := by omega
            have hys := flat_len E2.uni
            dsimp only at q2 hys
            have hyl : ((List.range (ys.length * P.cellsOf el)).map us).length = ys.length * P.cellsOf el := by simp
            have hbound : (ρ b).base + off * P.cellsOf el + cap * P.cellsOf el ≤ vs.size := by
              have : (off + cap) * P.cellsOf el ≤ (ρ b).cap * P.cellsOf el := Nat.mul_le_mul_right _ (by omega)
              rw [Nat.add_mul] at this; omega
            have hfit : n * P.cellsOf el + ys.length * P.cellsOf el ≤ cap * P.cellsOf el := by
              rw [← Nat.add_mul]; exact Nat.mul_le_mul_right _ (by omega)
            have hone : ∀ v, v ∈ (List.range (ys.length * P.cellsOf el)).map us → v.oneCell' = true := by
              intro v hv
              obtain ⟨j, hj, rfl⟩ := List.mem_map.1 hv
              simp only [List.mem_range] at hj
              have hlt : j < (flat ys).length := by omega
              obtain ⟨c, hcc⟩ : ∃ c, (flat ys)[j]? = some c := ⟨_, List.getElem?_eq_getElem hlt⟩
              have hmem := List.mem_of_getElem? hcc
              simp only [flat, List.mem_flatMap] at hmem
              obtain ⟨y, hy, hc⟩ := hmem
              exact (h2 j c hcc).oneCell ((E2.uni y hy).2 c hc)
            obtain ⟨w', r1, r2, r3, us', r4, r5, r6⟩ := run_storeCells (P := P) (B := B) ((List.range (ys.length * P.cellsOf el)).map us) ((ρ b).base + off * P.cellsOf el + n * P.cellsOf el) 0 vs w q1 (by rw [hyl]; omega) hone
            simp only [inPlace, Addr.add_lit, r1, Result.andThen_ok] at h3
            refine fresh w' ⟨some B, (ρ b).base + off * P.cellsOf el, cap⟩ _ (Ext.of (Nat.le_of_eq r2.1.symm) r2.2) (fun c hc hne => r3 c (fun h => hne (h ▸ k2))) (fun B' h => by cases h; exact .inl k2) (fun hstep => ?_) ?_ h3
            · refine .arr rfl r4 (by show (ρ b).base + off * P.cellsOf el + cap * P.cellsOf el ≤ us'.size; omega) (by simpa using h1) huni (fun j c hj => ?_)
              show VD I w' c (us'.getD ((ρ b).base + off * P.cellsOf el + j) undef)
              rw [r6, hyl]
              simp only [flat, List.flatMap_append] at hj
              have hxl := flat_len E1.uni
              dsimp only at hxl
              simp only [flat] at hxl hys
              rcases Nat.lt_or_ge j (xs.length * P.cellsOf el) with hj1 | hj1
              · rw [List.getElem?_append_left (by omega)] at hj
                rw [if_neg (by rw [hxs] at hj1; omega)]
                have hfl : (flat zs)[off * P.cellsOf el + j]? = some c := by
                  rw [← he1] at hj
                  have hf : flat ((zs.drop off).take n) = ((flat zs).drop (off * P.cellsOf el)).take (n * P.cellsOf el) := by
                    rw [flat_take (fun x hx => q4 x (List.mem_of_mem_drop hx)), flat_drop q4]
                  simp only [flat] at hf hj ⊢
                  rw [hf, List.getElem?_take] at hj
                  split at hj
                  · rwa [List.getElem?_drop] at hj
                  · cases hj
                have := q5 _ c hfl
                rw [← Nat.add_assoc] at this
                exact hstep.vd hr this
              · rw [List.getElem?_append_right (by omega)] at hj
                have hj2 : j - xs.length * P.cellsOf el < ys.length * P.cellsOf el := by
                  rcases Nat.lt_or_ge (j - xs.length * P.cellsOf el) (ys.length * P.cellsOf el) with h' | h'
                  · exact h'
                  · rw [List.getElem?_eq_none (by omega)] at hj; cases hj
                rw [hxl] at hj
                rw [if_pos (by rw [hxs] at hj1 hj2; omega)]
                have := h2 _ c hj
                have e1 : (ρ b).base + off * P.cellsOf el + j - ((ρ b).base + off * P.cellsOf el + n * P.cellsOf el + 0) = j - xs.length * P.cellsOf el := by rw [hxs]; omega
                rw [e1]
                have : VD I w c (((List.range (ys.length * P.cellsOf el)).map us).getD (j - xs.length * P.cellsOf el) undef) := by
                  simpa [List.getD_eq_getElem?_getD, hj2] using this
                exact hstep.vd hr this
            · have := V.own (ρ := updR ρ b ⟨some B, (ρ b).base + off * P.cellsOf el, cap⟩) (I := I) (w := w') (off := 0) (n := xs.length + ys.length) (B := B) (cap := cap) hset (by simp) h1 (by simp)
              simpa using this
        · -- in a new block
          refine fresh (({ w with drawn := d } : World).alloc (.cells us el)) ⟨some w.heap.size, 0, ncap⟩ _ (Ext.of (by rw [push_size]; simp)) (fun c hc _ => push_old _ _ c hc) (fun B h => by cases h; exact .inr (Nat.le_refl _)) (fun hstep => ?_) ?_ h5
          · exact .arr rfl (push_new ({ w with drawn := d } : World) _) (by simp [h3]) (by simp; omega) huni (fun j c hj => hstep.vd hr (by simpa using h4 j c hj))
          · have := V.own (ρ := updR ρ b ⟨some w.heap.size, 0, ncap⟩) (I := I) (w := ({ w with drawn := d } : World).alloc (.cells us el)) (off := 0) (n := xs.length + ys.length) (B := w.heap.size) (cap := ncap) hset (by simp) h2 (by simp)
            simpa using this
      · exact Eff.bad
    · exact Eff.bad
  · exact Eff.bad
end
end Nv
