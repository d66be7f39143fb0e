/- Structs and slices that are built, made, frozen: soundness. -/
import Derived.Test.YtebejiilpedlmaaGreatDoorNvG
set_option linter.unusedVariables false
set_option linter.unusedSimpArgs false
namespace Nv
open Go

/-- Where the fields of a struct lie, and how many cells each has. -/
def places (P : Program) : List Field → Option (List (Nat × Nat))
  | [] => some []
  | f :: fs => match P.info? f.type, places P fs with
    | some i, some r => some ((f.offset, i.size) :: r)
    | _, _ => none
def structPlaces (P : Program) (t : TypeId) : Option (List (Nat × Nat)) :=
  match P.underlying t with
  | some (.struct fs) => places P fs.toList
  | _ => none

def fillA (pl : List (Nat × Nat)) (cells : List AV) : List (Nat × AV) → Option (List AV)
  | [] => some cells
  | (i, v) :: rest => match pl[i]?, cellsV v with
    | some (off, size), some vs => if vs.length = size ∧ off + vs.length ≤ cells.length then fillA pl (splice cells off vs) rest else none
    | _, _ => none
@[go_sem] theorem fillA_nil (pl : List (Nat × Nat)) (cells : List AV) : fillA pl cells [] = some cells := nrfl rfl
@[go_sem] theorem fillA_cons (pl : List (Nat × Nat)) (cells : List AV) (i : Nat) (v : AV) (rest : List (Nat × AV)) : fillA pl cells ((i, v) :: rest) = match pl[i]?, cellsV v with
    | some (off, size), some vs => if vs.length = size ∧ off + vs.length ≤ cells.length then fillA pl (splice cells off vs) rest else none
    | _, _ => none := nrfl rfl

section
variable {P : Program} {ρ ρ' : RHO} {σ σ' : ST} {I I' : Nat → Prop} {w w' : World}

theorem run_places (fs : Array Field) {r : List (Nat × Nat)} (h : places P fs.toList = some r) :
    (fs.mapM fun f => do pure (f.offset, ← Go.sizeOf f.type) : Sem (Array (Nat × Nat))).run P w = .ok r.toArray w := by
  rw [Array.mapM_eq_mapM_toList]
  simp only [Sem.run_map]
  have : ∀ (l : List Field) (r : List (Nat × Nat)), places P l = some r → (l.mapM fun f => do pure (f.offset, ← Go.sizeOf f.type) : Sem (List (Nat × Nat))).run P w = .ok r w := by
    intro l
    induction l with
    | nil => intro r h; simp only [places, Option.some.injEq] at h; subst h; rfl
    | cons f l ih =>
      intro r h
      simp only [places] at h
      split at h
      · rename_i i r' h1 h2
        simp only [Option.some.injEq] at h; subst h
        have hsz : (Go.sizeOf f.type).run P w = .ok i.size w := by simp [Go.sizeOf, typeInfo, h1]
        simp only [List.mapM_cons, Sem.run_bind, hsz, Result.andThen_ok, Sem.run_pure, ih r' h2]
      · cases h
  rw [this _ _ h]
  rfl

theorem foldl_set (vs : List Value) : ∀ (off k : Nat) (us : Array Value), off + k + vs.length ≤ us.size →
    ((vs.zipIdx k).foldl (fun cs (x : Value × Nat) => cs.setIfInBounds (off + x.2) x.1) us).size = us.size ∧
    ∀ j, ((vs.zipIdx k).foldl (fun cs (x : Value × Nat) => cs.setIfInBounds (off + x.2) x.1) us).getD j undef = if off + k ≤ j ∧ j < off + k + vs.length then vs.getD (j - (off + k)) undef else us.getD j undef := by
  induction vs with
  | nil => intro off k us h; exact ⟨rfl, fun j => by rw [if_neg (by simp)]; rfl⟩
  | cons v vs ih =>
    intro off k us h
    simp only [List.length_cons] at h
    simp only [List.zipIdx_cons, List.foldl_cons]
    obtain ⟨h1, h2⟩ := ih off (k + 1) (us.setIfInBounds (off + k) v) (by simp; omega)
    refine ⟨by rw [h1]; simp, fun j => ?_⟩
    rw [h2 j, getD_set_arr _ _ _ _ (by omega)]
    by_cases c1 : off + (k + 1) ≤ j ∧ j < off + (k + 1) + vs.length
    · rw [if_pos c1, if_pos (by simp; omega)]
      rw [show j - (off + k) = (j - (off + (k + 1))) + 1 by omega, List.getD_cons_succ]
    · rw [if_neg c1]
      by_cases c2 : j = off + k
      · subst c2; rw [if_pos rfl, if_pos (by simp)]; simp
      · rw [if_neg c2, if_neg (by simp; omega)]

/-- Values that belong to parts. -/
def VP (ρ : RHO) (σ : ST) (I : Nat → Prop) (w : World) : List (Nat × AV) → List (Nat × Value) → Prop
  | [], [] => True
  | (i, a) :: as, (j, v) :: vs => i = j ∧ V ρ σ I w a v ∧ VP ρ σ I w as vs
  | _, _ => False

theorem fill_sound {pl : List (Nat × Nat)} {place : Nat → Option (Nat × Nat)} (hpl : ∀ i x, pl[i]? = some x → place i = some x) : ∀ (parts : List (Nat × AV)) (vparts : List (Nat × Value)) (cells : List AV) (us : Array Value) (out : List AV),
    VP ρ σ I w parts vparts → cells.length = us.size → (∀ j c, cells[j]? = some c → V ρ σ I w c (us.getD j undef)) → fillA pl cells parts = some out →
    ∃ vs, Instr.fill place us vparts = some vs ∧ out.length = vs.size ∧ ∀ j c, out[j]? = some c → V ρ σ I w c (vs.getD j undef) := by
  intro parts
  induction parts with
  | nil =>
    intro vparts cells us out hp hl hc hf
    cases vparts with
    | nil => simp only [fillA, Option.some.injEq] at hf; subst hf; exact ⟨us, rfl, hl, hc⟩
    | cons x y => exact hp.elim
  | cons p parts ih =>
    obtain ⟨i, a⟩ := p
    intro vparts cells us out hp hl hc hf
    match vparts, hp with
    | (j, v) :: vparts, ⟨hij, hv, hp⟩ =>
      subst hij
      simp only [fillA] at hf
      split at hf <;> try (cases hf; done)
      rename_i off size vs h1 h2
      split at hf <;> try (cases hf; done)
      rename_i hb
      obtain ⟨c1, c2, c3⟩ := cellsV_sound hv h2
      have hsz : off + v.cells.toList.length ≤ us.size := by simp; omega
      obtain ⟨f1, f2⟩ := foldl_set v.cells.toList off 0 us (by simpa using hsz)
      have hz : (v.cells.zipIdx.foldl (fun cs (x : Value × Nat) => cs.setIfInBounds (off + x.2) x.1) us) = ((v.cells.toList.zipIdx 0).foldl (fun cs (x : Value × Nat) => cs.setIfInBounds (off + x.2) x.1) us) := by
        rw [← Array.foldl_toList, Array.toList_zipIdx]
      have := ih vparts (splice cells off vs) (v.cells.zipIdx.foldl (fun cs (x : Value × Nat) => cs.setIfInBounds (off + x.2) x.1) us) out hp (by rw [splice_len hb.2, hz, f1, hl]) (fun j c hj => by
        rw [splice_get hb.2] at hj
        rw [hz, f2 j]
        have e1 : v.cells.toList.length = vs.length := by simp; omega
        rw [e1]
        split at hj
        · rename_i hin
          rw [if_pos (by omega)]
          have := c2 _ _ hj
          rw [Array.getD_eq_getD_getElem?] at this
          simpa [List.getD_eq_getElem?_getD] using this
        · rename_i hin
          rw [if_neg (by omega)]
          exact hc j c hj) hf
      obtain ⟨ws, g1, g2, g3⟩ := this
      refine ⟨ws, ?_, g2, g3⟩
      simp only [Instr.fill, hpl i _ h1]
      rw [if_neg (by simp; omega)]
      exact g1

/- a struct that is built -/
def rBuild (P : Program) (t : TypeId) (parts : List (Nat × AV)) (σ : ST) : Res :=
  match structPlaces P t, zeroA P t with
  | some pl, .agg zs => match fillA pl zs parts with
    | some cs => .ok (.agg cs) σ
    | none => .bad
  | _, _ => .bad

theorem rBuild_sound (t : TypeId) (parts : List (Nat × AV)) (vparts : Array (Nat × Value)) (hp : VP ρ σ I w parts vparts.toList) :
    Pev P ρ σ I w (Instr.build t vparts) (rBuild P t parts σ) := by
  unfold rBuild
  split
  · rename_i pl zs hpl hz
    split
    · rename_i cs hf
      unfold structPlaces at hpl
      split at hpl <;> try (cases hpl; done)
      rename_i fs hu
      obtain ⟨v, z1, z2⟩ := zero_run (P := P) (ρ := ρ) (σ := σ) (I := I) (w := w) (t := t) (by rw [hz]; simp)
      rw [hz] at z2
      cases z2 with | agg q1 q2 =>
      rename_i us
      obtain ⟨ws, g1, g2, g3⟩ := fill_sound (place := (pl.toArray[·]?)) (fun i x hx => by simpa using hx) parts vparts.toList zs us cs hp q1 q2 hf
      refine .ok (v := .agg ws) ?_ (.agg g2 g3)
      simp only [Instr.build, Sem.run_bind, z1, Result.andThen_ok, run_underlying hu, run_places fs hpl]
      have : (Value.agg us).cells = us := rfl
      rw [this, g1]
      rfl
    · exact .bad
  · exact .bad

/- slices: nil, literals, made ones -/
def dsOf (e : Nat) : Nat → List (Nat × AV) → Option (List DV)
  | _, [] => some []
  | k, (i, a) :: rest => match toD a with
    | some x => if i = k ∧ x.cells.length = e then (dsOf e (k + 1) rest).map (x :: ·) else none
    | none => none
@[go_sem] theorem dsOf_nil (e k : Nat) : dsOf e k [] = some [] := nrfl rfl
@[go_sem] theorem dsOf_cons (e k i : Nat) (a : AV) (rest : List (Nat × AV)) : dsOf e k ((i, a) :: rest) = match toD a with
    | some x => if i = k ∧ x.cells.length = e then (dsOf e (k + 1) rest).map (x :: ·) else none
    | none => none := nrfl rfl

def newArr (σ : ST) (e t : Nat) (xs : List DV) : Res := .ok (.own σ.length 0 0 xs.length) (σ ++ [.arr 0 ⟨e, t⟩ xs])
@[go_sem] theorem newArr_eq (σ : ST) (e t : Nat) (xs : List DV) : newArr σ e t xs = .ok (.own σ.length 0 0 xs.length) (σ ++ [.arr 0 ⟨e, t⟩ xs]) := nrfl rfl

theorem newArr_eff (hr : RS P ρ I w σ) {e el cap : Nat} {xs : List DV} {us : Array Value} {s : Sem Value}
    (hs : s.run P w = .ok (.slice (some ⟨w.heap.size, 0, none⟩) xs.length cap) w') (hw : ∃ d, w' = ({ w with drawn := d } : World).alloc (.cells us el))
    (h1 : cap * e ≤ us.size) (h2 : xs.length ≤ cap) (h3 : ∀ x, x ∈ xs → Uni e x)
    (h4 : ∀ j c, (flat xs)[j]? = some c → VD I w c (us.getD j undef)) : Eff P ρ σ I w s (newArr σ e el xs) := by
  intro R hR
  obtain ⟨d, rfl⟩ := hw
  let p : Place := ⟨some w.heap.size, 0, cap⟩
  have hp : ∀ B, p.blk = some B → w.heap.size ≤ B := fun B hB => by cases hB; exact Nat.le_refl _
  have hsz : Ext w (({ w with drawn := d } : World).alloc (.cells us el)) := Ext.of (by rw [push_size]; simp)
  have hold : ∀ b, b < w.heap.size → (({ w with drawn := d } : World).alloc (.cells us el)).heap[b]? = w.heap[b]? := fun b hb => push_old _ _ b hb
  have hst := step_push hr (.arr 0 ⟨e, el⟩ xs) p hsz hold hp
  refine ⟨_, _, _, _, I, _, hs, hst, rs_push hr (.arr 0 ⟨e, el⟩ xs) p hsz hold hp ?_, ?_, hR⟩
  · exact .arr rfl (push_new ({ w with drawn := d } : World) _) (by simpa [p] using h1) h2 h3 (fun j c hj => hst.vd hr (by simpa [p] using h4 j c hj))
  · have := V.own (ρ := updR ρ σ.length p) (σ := σ ++ [.arr 0 ⟨e, el⟩ xs]) (I := I) (w := ({ w with drawn := d } : World).alloc (.cells us el)) (b := σ.length) (g := 0) (off := 0) (n := xs.length) (e := ⟨e, el⟩) (xs := xs) (B := w.heap.size) (cap := cap) (by simp) (by simp [p]) h2 (by simp [p])
    simpa [p] using this

theorem one_isAgg {x : DV} (h : (AV.d x).one = true) : x.isAgg = false := by cases x <;> first | rfl | simp [AV.one] at h

theorem toD_plain {a : AV} {x : DV} (hd : toD a = some x) : ∀ c, c ∈ x.cells → c.isAgg = false := by
  unfold toD at hd
  split at hd
  · cases hd
  · rename_i y hne
    simp only [Option.some.injEq] at hd; subst hd
    intro c hc
    have hy : y.isAgg = false := by cases y <;> first | rfl | exact absurd rfl (hne _)
    have : y.cells = [y] := by cases y <;> first | rfl | exact absurd rfl (hne _)
    rw [this] at hc
    rw [List.mem_singleton.1 hc]; exact hy
  · simp only [Option.bind_eq_some_iff] at hd
    obtain ⟨xs, h1, h2⟩ := hd
    split at h2 <;> try (cases h2; done)
    rename_i hall
    simp only [Option.some.injEq] at h2; subst h2
    intro c hc
    have := toDs_map h1; subst this
    exact one_isAgg (List.all_eq_true.1 hall _ (List.mem_map.2 ⟨c, hc, rfl⟩))
  · cases hd

theorem toD_V {a : AV} {x : DV} {v : Value} (h : V ρ σ I w a v) (hd : toD a = some x) : VD I w x v := by
  unfold toD at hd
  split at hd
  · cases hd
  · simp only [Option.some.injEq] at hd; subst hd; exact h.d_inv
  · simp only [Option.bind_eq_some_iff] at hd
    obtain ⟨xs, h1, h2⟩ := hd
    split at h2 <;> try (cases h2; done)
    simp only [Option.some.injEq] at h2; subst h2
    cases h with | agg k1 k2 =>
    have := toDs_map h1; subst this
    exact .agg (by simpa using k1) (fun j c hj => (k2 j (.d c) (by rw [List.getElem?_map, hj]; rfl)).d_inv)
  · cases hd

theorem dsOf_fill {e : Nat} : ∀ (parts : List (Nat × AV)) (vparts : List (Nat × Value)) (k : Nat) (ds : List DV) (us : Array Value), VP ρ σ I w parts vparts → dsOf e k parts = some ds → (k + ds.length) * e ≤ us.size →
    ∃ vs, Instr.fill (fun i => some (i * e, e)) us vparts = some vs ∧ vs.size = us.size ∧ (∀ x, x ∈ ds → Uni e x) ∧
      (∀ j, j < k * e → vs.getD j undef = us.getD j undef) ∧ ∀ j c, (flat ds)[j]? = some c → VD I w c (vs.getD (k * e + j) undef) := by
  intro parts
  induction parts with
  | nil =>
    intro vparts k ds us hp hd hl
    cases vparts with
    | nil => simp only [dsOf, Option.some.injEq] at hd; subst hd; exact ⟨us, rfl, rfl, by simp, fun _ _ => rfl, by simp [flat]⟩
    | cons x y => exact hp.elim
  | cons p parts ih =>
    obtain ⟨i, a⟩ := p
    intro vparts k ds us hp hd hl
    match vparts, hp with
    | (j, v) :: vparts, ⟨hij, hv, hp⟩ =>
      subst hij
      simp only [dsOf] at hd
      split at hd <;> try (cases hd; done)
      rename_i x hx
      split at hd <;> try (cases hd; done)
      rename_i hik
      obtain ⟨rfl, hxe⟩ := hik
      simp only [Option.map_eq_some_iff] at hd
      obtain ⟨ds', hd', rfl⟩ := hd
      obtain ⟨c1, c2, c3⟩ := toD_cells hv hx
      simp only [List.length_cons] at hl
      have hl2 : (i + (ds'.length + 1)) * e = i * e + e + ds'.length * e := by rw [Nat.add_mul, Nat.add_mul]; omega
      obtain ⟨f1, f2⟩ := foldl_set v.cells.toList (i * e) 0 us (by simp; omega)
      have hz : (v.cells.zipIdx.foldl (fun cs (x : Value × Nat) => cs.setIfInBounds (i * e + x.2) x.1) us) = ((v.cells.toList.zipIdx 0).foldl (fun cs (x : Value × Nat) => cs.setIfInBounds (i * e + x.2) x.1) us) := by
        rw [← Array.foldl_toList, Array.toList_zipIdx]
      obtain ⟨vs, g1, g2, g3, g4, g5⟩ := ih vparts (i + 1) ds' (v.cells.zipIdx.foldl (fun cs (x : Value × Nat) => cs.setIfInBounds (i * e + x.2) x.1) us) hp hd' (by rw [hz, f1, Nat.add_right_comm, Nat.add_mul, Nat.add_mul]; omega)
      have hge : ∀ j, (v.cells.zipIdx.foldl (fun cs (x : Value × Nat) => cs.setIfInBounds (i * e + x.2) x.1) us).getD j undef = if i * e ≤ j ∧ j < i * e + e then v.cells.getD (j - i * e) undef else us.getD j undef := by
        intro j
        rw [hz, f2 j]
        have e1 : v.cells.toList.length = e := by simp; omega
        rw [e1]
        simp [List.getD_eq_getElem?_getD, Array.getD_eq_getD_getElem?]
      refine ⟨vs, ?_, by rw [g2, hz, f1], fun y hy => ?_, fun j hj => ?_, fun j c hj => ?_⟩
      · simp only [Instr.fill]
        rw [if_neg (by simp; omega)]
        exact g1
      · rcases List.mem_cons.1 hy with h | h
        · rw [h]; exact ⟨hxe, toD_plain hx⟩
        · exact g3 y h
      · rw [g4 j (by rw [Nat.add_mul]; omega), hge, if_neg (by omega)]
      · simp only [flat, List.flatMap_cons] at hj
        rcases Nat.lt_or_ge j x.cells.length with h | h
        · rw [List.getElem?_append_left h] at hj
          rw [g4 _ (by rw [Nat.add_mul]; omega), hge, if_pos (by omega), Nat.add_sub_cancel_left]
          exact c2 j c hj
        · rw [List.getElem?_append_right h] at hj
          have := g5 _ c hj
          rwa [show (i + 1) * e + (j - x.cells.length) = i * e + j by rw [Nat.add_mul]; omega] at this

def rBuildSlice (P : Program) (t : TypeId) (len : Nat) (parts : List (Nat × AV)) (σ : ST) : Res :=
  match P.underlying t with
  | some (.slice el) => .need (0 < P.cellsOf el ∧ zeroA P el ≠ .any ∧ len * P.cellsOf el ≤ 16777216) (match dsOf (P.cellsOf el) 0 parts with
    | some ds => .need (len = ds.length) (newArr σ (P.cellsOf el) el ds)
    | none => .bad)
  | _ => .bad
theorem rBuildSlice_eq {t el : Nat} (h : P.underlying t = some (.slice el)) (len : Nat) (parts : List (Nat × AV)) (σ : ST) : rBuildSlice P t len parts σ =
    .need (0 < P.cellsOf el ∧ zeroA P el ≠ .any ∧ len * P.cellsOf el ≤ 16777216) (match dsOf (P.cellsOf el) 0 parts with
    | some ds => .need (len = ds.length) (newArr σ (P.cellsOf el) el ds)
    | none => .bad) := by unfold rBuildSlice; rw [h]

theorem rBuildSlice_sound (hr : RS P ρ I w σ) (t : TypeId) (len : Nat) (parts : List (Nat × AV)) (vparts : Array (Nat × Value)) (hp : VP ρ σ I w parts vparts.toList) :
    Eff P ρ σ I w (Instr.buildSlice t len vparts) (rBuildSlice P t len parts σ) := by
  unfold rBuildSlice
  split
  · rename_i el hu
    refine .need fun ⟨hz, hza, hlim⟩ => ?_
    split
    · rename_i ds hd
      refine .need fun hlen => ?_
      subst hlen
      obtain ⟨v, z1, z2⟩ := zero_run (P := P) (ρ := ρ) (σ := σ) (I := I) (w := w) hza
      let zero : Array Value := if ds.length * P.cellsOf el = 0 then #[] else v.cells
      let us0 : Array Value := (Array.range (ds.length * P.cellsOf el)).map (zero[· % zero.size]!)
      obtain ⟨vs, g1, g2, g3, g4, g5⟩ := dsOf_fill parts vparts.toList 0 ds us0 hp hd (by simp [us0])
      have hrun : (Instr.buildSlice t ds.length vparts).run P w = .ok (.slice (some ⟨w.heap.size, 0, none⟩) ds.length ds.length) (w.alloc (.cells vs el)) := by
        have hn : ¬ (ds.length * P.cellsOf el > 2 ^ 24) := by omega
        by_cases h0 : ds.length * P.cellsOf el = 0
        · simp only [Instr.buildSlice, Sem.run_bind, run_underlying hu, Result.andThen_ok, run_sizeOf_pos hz, Sem.run_ite, hn, if_false, Sem.run_pure]
          rw [if_pos h0]
          have e1 : us0 = (Array.range (ds.length * P.cellsOf el)).map (fun x => (#[] : Array Value)[x % (#[] : Array Value).size]!) := by simp only [us0, zero, h0, if_true]
          rw [← e1, g1]
          simp [newRow]
        · simp only [Instr.buildSlice, Sem.run_bind, run_underlying hu, Result.andThen_ok, run_sizeOf_pos hz, Sem.run_ite, hn, if_false, Sem.run_pure]
          rw [if_neg h0]
          simp only [z1, Result.andThen_ok]
          have e1 : us0 = (Array.range (ds.length * P.cellsOf el)).map (fun x => v.cells[x % v.cells.size]!) := by simp only [us0, zero, h0, if_false]
          rw [← e1, g1]
          simp [newRow]
      refine newArr_eff (el := el) (us := vs) hr hrun ⟨w.drawn, rfl⟩ ?_ (Nat.le_refl _) g3 (fun j c hj => by simpa using g5 j c hj)
      rw [g2]; simp [us0]
    · exact Eff.bad
  · exact Eff.bad
end
end Nv
