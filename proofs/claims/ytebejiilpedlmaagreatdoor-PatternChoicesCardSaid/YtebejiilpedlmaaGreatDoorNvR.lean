/- What comes in: an argument that reads avl data is data of its type; what a law's call leaves is what the form asks. -/
import Derived.Test.YtebejiilpedlmaaGreatDoorNvPQ
import Derived.WalkKit
import Derived.ProofKit
import Derived.OpenShut
import Derived.Carry
import Derived.Deep.Slices
import Derived.HandedShaped
import Derived.ChangeMaps5
set_option linter.unusedVariables false
set_option linter.unusedSimpArgs false
namespace Nv
open Go Go.RowKit Go.ChangeShapes Go.WideShapes Go.ChangeAt

/-- Fields that lie side by side, from a place to a place. -/
def tiled (P : Program) : Nat → List Field → Nat → Bool
  | o, [], e => Nat.beq o e
  | o, f :: fs, e => Nat.beq f.offset o && tiled P (o + P.cellsOf f.type) fs e

/-- A type whose values are plain data, if those of some types are. -/
def isDataIn (P : Program) (S : List TypeId) (t : TypeId) : Bool :=
  match P.underlying t with
  | some .bool => true
  | some (.int _) => true
  | some .string => true
  | some (.slice e) => Nat.blt 0 (P.cellsOf e) && S.any (Nat.beq e)
  | some (.struct fs) => tiled P 0 fs.toList (P.cellsOf t) && fs.toList.all fun f => S.any (Nat.beq f.type)
  | _ => false

/-- Types that reach each other alone; the values of all are plain data. -/
def closedData (P : Program) (S : List TypeId) : Bool := S.all (isDataIn P S)
theorem closedData.at {P : Program} {S : List TypeId} (h : closedData P S = true) {t : TypeId} (ht : S.any (Nat.beq t) = true) : isDataIn P S t = true := by
  obtain ⟨u, hu, he⟩ := List.any_eq_true.1 ht
  rw [Nat.eq_of_beq_eq_true he]
  exact List.all_eq_true.1 h u hu

/-- An element out of its cells. -/
def ofCells (P : Program) (t : TypeId) (ds : List DV) : DV :=
  match P.underlying t with
  | some (.struct _) => .agg ds
  | _ => ds.headD default

/-- The data of a type, avl cells. -/
def TD (P : Program) : Nat → TypeId → List DV → Prop
  | 0, _, _ => False
  | n + 1, t, ds => match P.underlying t with
    | some .bool => ∃ b, ds = [.bool b]
    | some (.int k) => ∃ z, ds = [.int k z] ∧ (Lit.int k z).wf = true
    | some .string => ∃ s : List UInt8, ds = [.str s] ∧ s.length ≤ maxLen
    | some (.slice e) => ∃ xs, ds = [.list (P.cellsOf e) xs] ∧ xs.length ≤ maxLen ∧ ∀ x, x ∈ xs → ∃ cs, x = ofCells P e cs ∧ TD P n e cs
    | some (.struct fs) => ds.length = P.cellsOf t ∧ ∀ f, f ∈ fs.toList → TD P n f.type ((ds.drop f.offset).take (P.cellsOf f.type))
    | _ => False

def VDs (I : Nat → Prop) (w : World) (ds : List DV) (cs : List Value) : Prop := ds.length = cs.length ∧ ∀ j d, ds[j]? = some d → VD I w d (cs.getD j undef)

theorem VDs.append {I : Nat → Prop} {w : World} {ds ds' : List DV} {cs cs' : List Value} (h : VDs I w ds cs) (h' : VDs I w ds' cs') : VDs I w (ds ++ ds') (cs ++ cs') := by
  refine ⟨by simp [h.1, h'.1], fun j d hj => ?_⟩
  rcases Nat.lt_or_ge j ds.length with hl | hl
  · rw [List.getElem?_append_left hl] at hj
    have := h.2 j d hj
    rw [List.getD_eq_getElem?_getD, List.getElem?_append_left (by rw [← h.1]; exact hl), ← List.getD_eq_getElem?_getD]
    exact this
  · rw [List.getElem?_append_right hl] at hj
    have := h'.2 _ d hj
    rw [List.getD_eq_getElem?_getD, List.getElem?_append_right (by rw [← h.1]; exact hl), ← List.getD_eq_getElem?_getD, ← h.1]
    exact this

theorem VDs.one {I : Nat → Prop} {w : World} {d : DV} {v : Value} (h : VD I w d v) : VDs I w [d] [v] :=
  ⟨rfl, fun j x hj => by
    cases j with
    | zero => simp at hj; subst hj; simpa using h
    | succ j => simp at hj⟩

section
variable {H : Type} {enc : TypeId × Value → H} {P : Program} {w : World} {sp : Nat → Bool} {held : Bool} {I : Nat → Prop}

theorem ofCells_cells {n : Nat} {t : TypeId} {ds : List DV} (h : TD P n t ds) (hn : ∀ d, d ∈ ds → d.isAgg = false) : (ofCells P t ds).cells = ds := by
  have one : ∀ d : DV, d.isAgg = false → d.cells = [d] := fun d hd => by cases d <;> first | rfl | simp [DV.isAgg] at hd
  cases n with
  | zero => exact h.elim
  | succ n =>
    unfold TD at h
    unfold ofCells
    split at h
    · rename_i ht; obtain ⟨b, rfl⟩ := h; simp only [ht]; rfl
    · rename_i k ht; obtain ⟨z, rfl, _⟩ := h; simp only [ht]; rfl
    · rename_i ht; obtain ⟨z, rfl, _⟩ := h; simp only [ht]; rfl
    · rename_i e ht; obtain ⟨z, rfl, _⟩ := h; simp only [ht]; rfl
    · rename_i fs ht; simp only [ht]; rfl
    · exact h.elim

theorem fields_td {n : Nat} {cs : List Value} : ∀ (fs : List Field) (o e : Nat), tiled P o fs e = true → cs.length = e →
    (∀ f, f ∈ fs → ∃ ds, TD P n f.type ds ∧ VDs I w ds ((cs.drop f.offset).take (P.cellsOf f.type)) ∧ ∀ d, d ∈ ds → d.isAgg = false) → o ≤ e →
    ∃ ds, VDs I w ds (cs.drop o) ∧ (∀ f, f ∈ fs → o ≤ f.offset ∧ TD P n f.type ((ds.drop (f.offset - o)).take (P.cellsOf f.type))) ∧ ∀ d, d ∈ ds → d.isAgg = false
  | [], o, e, ht, hl, _, _ => by
    have : o = e := Nat.eq_of_beq_eq_true ht
    subst this
    refine ⟨[], ⟨by simp; omega, by simp⟩, by simp, by simp⟩
  | f :: fs, o, e, ht, hl, hf, hoe => by
    simp only [tiled, Bool.and_eq_true] at ht
    have hfo : f.offset = o := Nat.eq_of_beq_eq_true ht.1
    have hle : ∀ (fs : List Field) (o e : Nat), tiled P o fs e = true → o ≤ e := by
      intro fs
      induction fs with
      | nil => intro o e h; exact Nat.le_of_eq (Nat.eq_of_beq_eq_true h)
      | cons g gs ih => intro o e h; simp only [tiled, Bool.and_eq_true] at h; have := ih _ _ h.2; omega
    have hle' := hle _ _ _ ht.2
    obtain ⟨ds, h1, h2, h3⟩ := fields_td fs _ e ht.2 hl (fun g hg => hf g (List.mem_cons_of_mem _ hg)) hle'
    obtain ⟨d0, g1, g2, g3⟩ := hf f (by simp)
    rw [hfo] at g2
    have hl0 : d0.length = P.cellsOf f.type := by rw [g2.1]; simp; omega
    refine ⟨d0 ++ ds, ?_, fun g hg => ?_, fun d hd => ?_⟩
    · have := g2.append h1
      rwa [show (cs.drop o).take (P.cellsOf f.type) ++ cs.drop (o + P.cellsOf f.type) = cs.drop o by rw [← List.drop_drop]; exact List.take_append_drop _ _] at this
    · rcases List.mem_cons.1 hg with rfl | hg
      · refine ⟨by omega, ?_⟩
        rw [hfo, Nat.sub_self, List.drop_zero, ← hl0, List.take_left]
        exact g1
      · obtain ⟨k1, k2⟩ := h2 g hg
        refine ⟨by omega, ?_⟩
        rw [List.drop_append, List.drop_of_length_le (by omega), List.nil_append, hl0, show g.offset - o - P.cellsOf f.type = g.offset - (o + P.cellsOf f.type) by omega]
        exact k2
    · rcases List.mem_append.1 hd with hd | hd
      · exact g3 d hd
      · exact h3 d hd

theorem read_td (hsp : ∀ b, sp b = true) (hI : ∀ b, b < w.heap.size → I b) {S : List TypeId} (hS : closedData P S = true) : ∀ (n : Nat) (t : TypeId) (cs : List Value) (x : DataW H × List MemPlace), S.any (Nat.beq t) = true →
    DataW.trod enc P w 0 sp held n t cs = some x → ∃ ds, TD P n t ds ∧ VDs I w ds cs ∧ ∀ d, d ∈ ds → d.isAgg = false := by
  intro n
  induction n with
  | zero => intro t cs x _ h; simp [DataW.trod] at h
  | succ n ih =>
    intro t cs x hmem h
    have hd := closedData.at hS hmem
    unfold isDataIn at hd
    split at hd
    · rename_i ht
      obtain ⟨b, rfl, _⟩ := DataW.trod_bool ht h
      exact ⟨[.bool b], by simp only [TD, ht]; exact ⟨b, rfl⟩, .one (.bool b), by simp [DV.isAgg]⟩
    · rename_i k ht
      obtain ⟨z, rfl, _, hw⟩ := DataW.trod_int ht h
      exact ⟨[.int k z], by simp only [TD, ht]; exact ⟨z, rfl, hw⟩, .one (.int k z), by simp [DV.isAgg]⟩
    · rename_i ht
      obtain ⟨s, rfl, _, hw⟩ := DataW.trod_string ht h
      exact ⟨[.str s.data.toList], by simp only [TD, ht]; exact ⟨_, rfl, by simpa using hw⟩, .one (.str s.data.toList), by simp [DV.isAgg]⟩
    · rename_i e ht
      simp only [Bool.and_eq_true, Nat.blt_eq] at hd
      obtain ⟨hc, hde⟩ := hd
      rcases DataW.trod_slice ht h with ⟨rfl, _⟩ | ⟨a, len, cap, elems, rest, m, hnm, rfl, _, hb, hlc, hm, hlen, hel, hrest, _⟩
      · exact ⟨[.list (P.cellsOf e) []], by simp only [TD, ht]; exact ⟨[], rfl, by simp, by simp⟩, .one (.listNil _ none), by simp [DV.isAgg]⟩
      · obtain rfl : n = m := by omega
        have getC : ∀ i y, (w.cells? 0 (a.add (i * P.cellsOf e)) (P.cellsOf e)).bind (DataW.trod enc P w 0 sp held n e) = some y →
            ∃ (cs : List Value) (ds : List DV), w.cells? 0 (a.add (i * P.cellsOf e)) (P.cellsOf e) = some cs ∧ TD P n e ds ∧ VDs I w ds cs ∧ ∀ d, d ∈ ds → d.isAgg = false := by
          intro i y hy
          obtain ⟨cs, h1, h2⟩ := Option.bind_eq_some_iff.1 hy
          obtain ⟨ds, h3, h4, h5⟩ := ih _ _ _ hde h2
          exact ⟨cs, ds, h1, h3, h4, h5⟩
        have spot : ∀ cs, w.cells? 0 (a.add (0 * P.cellsOf e)) (P.cellsOf e) = some cs → a.spot = none ∧ a.block < w.heap.size := by
          intro cs hcs
          obtain ⟨_, hl, hg⟩ := World.cells?_some hcs
          have h0 := hg 0 hc
          rw [List.getElem?_eq_getElem (by omega)] at h0
          have ha : ((a.add (0 * P.cellsOf e)).add 0) = a := by simp [Addr.add]
          rw [ha] at h0
          unfold World.cell? at h0
          split at h0
          · rename_i hh
            split at h0
            · cases h0
            · rename_i hsp; exact ⟨by simpa using hsp, (Array.getElem?_eq_some_iff.1 hh).1⟩
          · cases h0
        by_cases hcap : cap = 0
        · subst hcap
          obtain rfl : len = 0 := by omega
          exact ⟨[.list (P.cellsOf e) []], by simp only [TD, ht]; exact ⟨[], rfl, by simp, by simp⟩, .one (.listNil _ (some a)), by simp [DV.isAgg]⟩
        · have elem : ∀ i, i < len → ∃ (c : List Value × List DV), w.cells? 0 (a.add (i * P.cellsOf e)) (P.cellsOf e) = some c.1 ∧ TD P n e c.2 ∧ VDs I w c.2 c.1 ∧ ∀ d, d ∈ c.2 → d.isAgg = false := by
            intro i hi
            have h1 := hel i hi
            rw [List.getElem?_eq_getElem (by omega)] at h1
            obtain ⟨cs, ds, q⟩ := getC i _ h1
            exact ⟨(cs, ds), q⟩
          have hs : a.spot = none ∧ a.block < w.heap.size := by
            rcases Nat.eq_zero_or_pos len with h0 | h0
            · obtain ⟨r1, r2⟩ := hrest (hsp _)
              have h1 := r2 0 (by omega)
              have e0 : len + 0 = 0 := by omega
              simp only [e0] at h1
              rw [List.getElem?_eq_getElem (by omega)] at h1
              obtain ⟨cs, ds, q, _⟩ := getC 0 _ h1
              exact spot _ q
            · obtain ⟨c, q, _⟩ := elem 0 h0
              exact spot _ q
          obtain ⟨b, off, sp'⟩ := a
          obtain ⟨h1, hbl⟩ := hs
          simp only at h1 hbl
          subst h1
          obtain ⟨C, hC⟩ := Go.Deep.choose_lt elem
          let xs : List DV := (List.range len).map fun i => ofCells P e (C i).2
          have hxl : xs.length = len := by simp [xs]
          have hxi : ∀ i, i < len → xs.getD i default = ofCells P e (C i).2 := fun i hi => by simp [xs, List.getD_eq_getElem?_getD, hi]
          have hcl : ∀ i, i < len → (C i).1.length = P.cellsOf e := fun i hi => (World.cells?_some (hC i hi).1).2.1
          have hdl : ∀ i, i < len → (C i).2.length = P.cellsOf e := fun i hi => by rw [(hC i hi).2.2.1.1]; exact hcl i hi
          have hoc : ∀ i, i < len → (ofCells P e (C i).2).cells = (C i).2 := fun i hi => ofCells_cells (hC i hi).2.1 (hC i hi).2.2.2
          have hmem : ∀ x, x ∈ xs → ∃ i, i < len ∧ x = ofCells P e (C i).2 := fun x hx => by
            obtain ⟨i, hi, rfl⟩ := List.mem_map.1 hx
            exact ⟨i, List.mem_range.1 hi, rfl⟩
          have huni : ∀ x, x ∈ xs → Uni (P.cellsOf e) x := fun x hx => by
            obtain ⟨i, hi, rfl⟩ := hmem x hx
            exact ⟨by rw [hoc i hi]; exact hdl i hi, by rw [hoc i hi]; exact (hC i hi).2.2.2⟩
          have hfl : ∀ j c, (flat xs)[j]? = some c → j / P.cellsOf e < len ∧ (C (j / P.cellsOf e)).2[j % P.cellsOf e]? = some c := by
            intro j c hj
            have hjl : j < (flat xs).length := by
              rcases Nat.lt_or_ge j (flat xs).length with h | h
              · exact h
              · rw [List.getElem?_eq_none h] at hj; cases hj
            rw [flat_len huni, hxl] at hjl
            have hd := Nat.div_lt_of_lt_mul (by rwa [Nat.mul_comm] at hjl : j < P.cellsOf e * len)
            refine ⟨hd, ?_⟩
            have := flat_get huni (i := j / P.cellsOf e) (o := j % P.cellsOf e) (by omega) (Nat.mod_lt _ hc)
            rw [show j / P.cellsOf e * P.cellsOf e + j % P.cellsOf e = j by rw [Nat.mul_comm]; exact Nat.div_add_mod _ _, hj, hxi _ hd, hoc _ hd] at this
            exact this.symm
          refine ⟨[.list (P.cellsOf e) xs], ?_, .one (.list (fun j => (C (j / P.cellsOf e)).1.getD (j % P.cellsOf e) undef) hxl.symm hlc huni (fun j c hj => ?_) (fun j c hj => ?_)), by simp [DV.isAgg]⟩
          · simp only [TD, ht]
            refine ⟨xs, rfl, by omega, fun x hx => ?_⟩
            obtain ⟨i, hi, rfl⟩ := hmem x hx
            exact ⟨_, rfl, (hC i hi).2.1⟩
          · obtain ⟨h1, h2⟩ := hfl j c hj
            refine ⟨hI _ hbl, ?_⟩
            obtain ⟨_, _, hg⟩ := World.cells?_some (hC _ h1).1
            have := hg (j % P.cellsOf e) (Nat.mod_lt _ hc)
            rw [Addr.add_lit, Addr.add_lit, Nat.add_assoc, show j / P.cellsOf e * P.cellsOf e + j % P.cellsOf e = j by rw [Nat.mul_comm]; exact Nat.div_add_mod _ _] at this
            rw [this, List.getD_eq_getElem?_getD, List.getElem?_eq_getElem (by rw [hcl _ h1]; exact Nat.mod_lt _ hc)]
            rfl
          · obtain ⟨h1, h2⟩ := hfl j c hj
            exact (hC _ h1).2.2.1.2 _ _ h2
    · rename_i fs ht
      simp only [Bool.and_eq_true] at hd
      obtain ⟨htl, hfs⟩ := hd
      obtain ⟨xs, m, hnm, _, hlen, hxs, hf⟩ := DataW.trod_struct ht h
      obtain rfl : n = m := by omega
      obtain ⟨ds, h1, h2, h3⟩ := fields_td (n := n) (w := w) (I := I) (cs := cs) fs.toList 0 (P.cellsOf t) htl hlen (fun f hfm => by
        obtain ⟨i, hi, he⟩ := List.getElem_of_mem hfm
        have h4 : fs[i]? = some f := by
          rw [Array.length_toList] at hi
          rw [Array.getElem?_eq_getElem hi]
          simpa using he
        have h5 := hf i f h4
        rw [List.getElem?_eq_getElem (by rw [hxs]; simpa using hi)] at h5
        exact ih _ _ _ (List.all_eq_true.1 hfs f hfm) h5) (Nat.zero_le _)
      rw [List.drop_zero] at h1
      refine ⟨ds, ?_, h1, h3⟩
      simp only [TD, ht]
      exact ⟨by rw [h1.1, hlen], fun f hfm => by simpa using (h2 f hfm).2⟩
    · cases hd

/-- An argument out of its cells. -/
def avOf (P : Program) (t : TypeId) (ds : List DV) : AV :=
  match P.underlying t with
  | some (.struct _) => .agg (ds.map .d)
  | _ => .d (ds.headD default)

theorem read_arg {W : World} {ρ : RHO} {S : List TypeId} {t : TypeId} {v : Value} {d : DataW H} {p : List MemPlace} {base : Nat} (hS : closedData P S = true) (ht : S.any (Nat.beq t) = true)
    (h : DataW.Trod enc P W 0 (fun _ => true) held t v d p) (hok : Value.okWide P W .any base t v) :
    ∃ n ds, TD P n t ds ∧ V ρ [] (fun b => b < W.heap.size) W (avOf P t ds) v := by
  obtain ⟨n, hf⟩ := h
  obtain ⟨ds, h1, h2, h3⟩ := read_td (I := fun b => b < W.heap.size) (fun _ => rfl) (fun b hb => hb) hS n t _ _ ht hf
  refine ⟨n, ds, h1, ?_⟩
  have one : ∀ d, ds = [d] → v.cells = #[v] → VD (fun b => b < W.heap.size) W d v := fun d hds hv => by
    subst hds
    have := h2.2 0 d rfl
    rw [hv] at this
    simpa using this
  unfold avOf
  unfold Value.okWide at hok
  cases n with
  | zero => exact h1.elim
  | succ n =>
    unfold TD at h1
    split at h1
    · rename_i ht
      obtain ⟨b, rfl⟩ := h1
      rw [ht] at hok ⊢
      simp only [Cell.okWide, ht] at hok
      exact .d (one _ rfl (by cases v <;> first | rfl | (exfalso; simp [Cell.ok, ht] at hok)))
    · rename_i k ht
      obtain ⟨b, rfl, _⟩ := h1
      rw [ht] at hok ⊢
      simp only [Cell.okWide, ht] at hok
      exact .d (one _ rfl (by cases v <;> first | rfl | (exfalso; simp [Cell.ok, ht] at hok)))
    · rename_i ht
      obtain ⟨b, rfl, _⟩ := h1
      rw [ht] at hok ⊢
      simp only [Cell.okWide, ht] at hok
      exact .d (one _ rfl (by cases v <;> first | rfl | (exfalso; simp [Cell.ok, ht] at hok)))
    · rename_i e ht
      obtain ⟨b, rfl, _⟩ := h1
      rw [ht] at hok ⊢
      simp only [Cell.okWide, ht] at hok
      exact .d (one _ rfl (by cases v <;> first | rfl | (exfalso; simp [Cell.ok, ht] at hok)))
    · rename_i fs ht
      rw [ht] at hok ⊢
      obtain ⟨cs, rfl, hsz, _⟩ := hok
      have hl := h2.1
      simp only [Value.cells, Array.length_toList] at hl
      refine .agg (by simpa using hl) (fun j c hj => ?_)
      simp only [List.getElem?_map, Option.map_eq_some_iff] at hj
      obtain ⟨d, hd, rfl⟩ := hj
      have := h2.2 j d hd
      simp only [Value.cells] at this
      have hjl : j < cs.size := by
        rw [← hl]
        rcases Nat.lt_or_ge j ds.length with h | h
        · exact h
        · rw [List.getElem?_eq_none h] at hd; cases hd
      rw [Array.getD_eq_getD_getElem?]
      rw [List.getD_eq_getElem?_getD, Array.getElem?_toList] at this
      exact .d this
    · exact h1.elim

/-- What a call leaves that hands back a bool: old memory is avl it was. -/
theorem PCall.calls {f : FuncId} {args : List AV} {b : Bool} {W : World} {vs : Array Value} (h : PCall P f args (.d (.bool b)))
    (hv : VL (fun _ => ⟨none, 0, 0⟩) [] (fun b => b < W.heap.size) W args vs) (hT : Tabs P (fun b => b < W.heap.size) W) : Calls P f vs W fun e w' => e = .returned (.bool b) ∧ Below W.heap.size W w' := by
  have hr : RS P (fun _ => ⟨none, 0, 0⟩) (fun b => b < W.heap.size) W [] := ⟨fun i blk hi => by simp at hi, fun i j bi bj B hi => by simp at hi, fun B hl => absurd hl (no_lives B), fun B hB => hB, hT⟩
  refine (h [] _ _ W vs hr hv).mono ?_
  rintro e w' ⟨ρ', I', σ', oc, h1, h2, h3, rfl, rfl⟩
  cases e <;> simp only at h3
  rename_i v
  rw [h3.d_inv.bool_inv]
  exact ⟨rfl, h1.env.os, h1.env.tape, h1.env.output, h1.hsz, fun k hk => h1.keep k hk (no_lives k)⟩

theorem trodAll_stays {ts : List TypeId} (hl : laidOutB P = true) (hr : ∀ t, t ∈ ts → P.readableRec t = true ∧ t < P.types.size) {W W' : World} : ∀ {vs : List Value} {ds : List (DataW H)} {ps : List MemPlace},
    DataW.TrodAll enc P W 0 (fun _ => true) true ts vs ds ps → Below W.heap.size W W' → (∀ x, x ∈ ps → x.block < W.heap.size) → DataW.TrodAll enc P W' 0 (fun b => decide (b < W.heap.size)) true ts vs ds ps := by
  induction ts with
  | nil =>
    intro vs ds ps h hb hlt
    cases vs <;> cases ds <;> first | exact h | exact h.elim
  | cons t ts ih =>
    intro vs ds ps h hb hlt
    cases vs <;> cases ds <;> first | exact h.elim | skip
    obtain ⟨p, q, h1, h2, rfl⟩ := h
    exact ⟨p, q, Below.trod hl (hr t (by simp)).1 (hr t (by simp)).2 h1 hb (fun x hx => hlt x (List.mem_append_left _ hx)),
      ih (fun t ht => hr t (List.mem_cons_of_mem _ ht)) h2 hb (fun x hx => hlt x (List.mem_append_right _ hx)), rfl⟩

/-- A law that returns true and leaves what came in: what the form asks of its end. -/
theorem law_post {fn : Func} {s : ChangeSpec} {apart : Bool} {W W' : World} {args : Array Value} {ds : List (DataW H)} {before : List MemPlace} {tb : TypeId}
    (hl : laidOutB P = true) (hr : ∀ t, t ∈ fn.params.toList → P.readableRec t = true ∧ t < P.types.size) (hvars : s.vars = [])
    (hW : DataW.Whole enc P fn.params.toList s.vars apart W args.toList ds [] before)
    (h1 : (s.fn H (ds ++ [])).results = [.lit (.bool true)]) (h2 : (s.fn H (ds ++ [])).args = ds) (h3 : (s.fn H (ds ++ [])).vars = [])
    (ht : fn.resultTypes = #[tb]) (hb : P.underlying tb = some .bool) (hB : Below W.heap.size W W') : s.post enc P fn apart true false false W args (.bool true) W' := by
  have hlt := hW.lt
  obtain ⟨p, q, hA, hV, rfl, hfz, hnd⟩ := id hW
  rw [hvars] at hV
  obtain ⟨_, rfl⟩ := trodVars_none hV
  refine ⟨ds, [], p ++ [], [], p, [], hW, ?_, ?_, ?_, hB.frame _, fun h => by cases h⟩
  · rw [h1, ht]
    exact trodAll_mk1 (shut_bool hb _)
  · rw [h2]
    exact trodAll_stays hl hr hA hB (fun x hx => by simpa using hlt x (by simpa using hx))
  · rw [h3, hvars]; rfl
end

/-- A law's row out of a contract that knows the world's shape and what is laid in it. -/
theorem handed_laid {H : Type} {enc : TypeId × Value → H} {C : Checked} {os : Os} {f : FuncId} {fn : Func} {s : ChangeSpec} {apart fresh handsOn again : Bool} {X : World → Prop}
    (hX : ∀ w w' : World, w.heap = w'.heap → X w → X w') (own : ownKnob C.prog.godebug = none) (started : os.Started) (noInit : C.prog.inits.idxOf? f = none) (hfn : C.prog.funcs[f]? = some fn)
    (witness : ∃ (w : World) (tape : Tape) (i : Input), w.os = os ∧ (w.forCall tape i).Shaped C.prog ∧ i.vars = [] ∧ Input.okWide C.prog (w.forCall tape i) .any w.heap.size f i ∧
      ((s.pre enc C.prog fn [] apart (w.forCall tape i).memory i.args ∧ X (w.forCall tape i).memory) ∧ sizedMet enc C.prog fn (OpenSpec.ofChange s) apart (w.forCall tape i).memory i.args) ∧ ({} : Assume).holds C.prog (lone (Frame.enter C.prog f i.args .normal) [] (w.forCall tape i)))
    (law : ∀ (W : World) (base : Nat) (args : Array Value) (ds gs : List (DataW H)) (before : List MemPlace), (∀ (j : Nat) t v, fn.params[j]? = some t → args[j]? = some v → Value.okWide C.prog W .any base t v) →
      DataW.Whole enc C.prog fn.params.toList s.vars apart W args.toList ds gs before → (DataW.weightsEach C.prog (fn.params.toList ++ s.plain.varTypes C.prog) (ds ++ gs)).all (· ≤ reachBytes) = true → W.ShapedOpen C.prog → X W → Calls C.prog f args W fun e W' => ∃ v, e = .returned v ∧ s.post enc C.prog fn apart fresh handsOn again W args v W') :
    ReturnsInHanded {} C os f .any (fun w args => (s.pre enc C.prog fn [] apart w args ∧ X w) ∧ sizedMet enc C.prog fn (OpenSpec.ofChange s) apart w args) (s.post enc C.prog fn apart fresh handsOn again) := by
  refine returnsInHanded_of_calls own started noInit witness ?_
  intro w tape i _ hshape _ hin hpre _
  have hval := hin.2.2.2
  obtain ⟨fn1, hf1, _, _, _, _, hval⟩ := hval
  cases Option.some.inj (hf1.symm.trans hfn)
  have hh : (w.forCall tape i).memory.heap = (w.forCall tape i).heap := by rfl
  obtain ⟨⟨⟨ds, gs, before, hread, _⟩, hx⟩, hz⟩ := hpre
  refine (law _ _ _ ds gs before hval (DataW.Whole.of_heap hh hread) (hz.weights hread) hshape (hX _ _ hh hx)).mono ?_
  rintro e W' ⟨v, rfl, hpost⟩
  exact ChangeSpec.post_blind hpost

/-- A string that came in is no longer than the memory that a call reaches. -/
theorem str_sized {H : Type} {enc : TypeId × Value → H} {P : Program} {W : World} {ts : List TypeId} {ds : List (DataW H)} (h : (DataW.weightsEach P ts ds).all (· ≤ reachBytes) = true) {j : Nat} {t : TypeId} {d : DataW H} (htj : ts[j]? = some t)
    (hdj : ds[j]? = some d) (ht : P.underlying t = some .string) {r : Reach} {b0 base : Nat} {sp : Nat → Bool} {held : Bool} {v : Value} {p : List MemPlace} (hval : Value.okWide P W r b0 t v) (hT : DataW.Trod enc P W base sp held t v d p)
    {ρ : RHO} {σ : ST} {I : Nat → Prop} {w : World} {s : List UInt8} (hv : V ρ σ I w (.d (.str s)) v) : s.length ≤ 140737488355328 := by
  obtain ⟨z, rfl, rfl, _⟩ := Go.ChangeMaps.open_string ht hval hT
  have := sized_string h htj hdj
  have e := hv.d_inv.str_inv
  simp only [Value.string.injEq] at e
  subst e
  have := reachBytes_lt
  simp at *
  omega
end Nv
