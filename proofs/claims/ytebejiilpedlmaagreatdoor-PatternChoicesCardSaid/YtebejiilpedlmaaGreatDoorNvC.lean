/- The operations of the abstract layer that read: soundness. -/
import Derived.Test.YtebejiilpedlmaaGreatDoorNvB
import Derived.LaidEql
set_option linter.unusedVariables false
set_option linter.unusedSimpArgs false
namespace Nv
open Go

section
variable {P : Program} {ρ : RHO} {σ : ST} {I : Nat → Prop} {w : World}

theorem bAgg_sound (op : BinOp) (t : TypeId) (x y : List AV) (xs ys : Array Value) (ox oy : Operand) (hx : V ρ σ I w (.agg x) (.agg xs)) (hy : V ρ σ I w (.agg y) (.agg ys)) :
    Pev P ρ σ I w (do eqGuard op t ox oy (.agg xs) (.agg ys); binOp op t (.agg xs) (.agg ys)) (bAgg op (structKinds P t) x y σ) := by
  have key : ∀ r, ((structKinds P t).bind fun ks => scalarEq ks x y) = some r → (Op.equalIn 10000 t (.agg xs) (.agg ys)).run P w = .ok r w ∧ P.eqGuardType P.depth t = false := by
    intro r h
    simp only [Option.bind_eq_some_iff] at h
    obtain ⟨ks, hk, he⟩ := h
    unfold structKinds at hk
    split at hk <;> try (cases hk; done)
    rename_i fs hu
    split at hk <;> try (cases hk; done)
    rename_i hc
    simp only [Bool.and_eq_true, Bool.not_eq_true'] at hc
    simp only [Option.some.injEq] at hk
    cases hx with | agg hxl hx =>
    cases hy with | agg hyl hy =>
    refine ⟨?_, hc.2⟩
    have hf : P.fieldsOf t = fs := by unfold Program.fieldsOf; rw [hu]
    rw [run_equalIn_struct w 9999 t xs ys (by rw [hf]; exact hu) hc.1.2, hf]
    exact eqFields_sound 9998 xs ys fs.toList ks x y 0 r hc.1.1 hk.symm he (fun j c hj => by simpa using hx j c hj) (fun j c hj => by simpa using hy j c hj) (by omega) (by omega)
  unfold bAgg
  split
  · rename_i r h
    obtain ⟨h1, h2⟩ := key r h
    exact .ok (v := .bool r) (by simp only [Sem.run_bind, run_eqGuard_agg w _ t ox oy xs ys h2, Result.andThen_ok, run_eql_struct, h1]) (.d (.bool _))
  · rename_i r h
    obtain ⟨h1, h2⟩ := key r h
    exact .ok (v := .bool (!r)) (by simp only [Sem.run_bind, run_eqGuard_agg w _ t ox oy xs ys h2, Result.andThen_ok, run_neq_struct, h1]) (.d (.bool _))
  · exact .bad

theorem V.agg_inv {x : List AV} {v : Value} (h : V ρ σ I w (.agg x) v) : ∃ vs, v = .agg vs := by cases h; exact ⟨_, rfl⟩

theorem run_sizeOf_pos {t : TypeId} (h : 0 < P.cellsOf t) : (Go.sizeOf t).run P w = .ok (P.cellsOf t) w := by
  unfold Program.cellsOf at *
  cases hi : P.info? t with
  | none => simp [hi] at h
  | some i => simp [Go.sizeOf, typeInfo, hi]

theorem equal_run {t : TypeId} {x y : Value} {b : Bool} (h : ∀ d : Nat, (Op.equalIn (d + 1) t x y).run P w = .ok b w) : (Op.equal t x y).run P w = .ok b w := by
  simp [Op.equal, Op.maxDepth, h 9999]

theorem bR_sound {op : BinOp} {t : TypeId} {vx vy : Value} {ox oy : Operand} {b : Bool} (hg : ∀ op, (eqGuard op t ox oy vx vy).run P w = .ok () w)
    (h1 : binOp .eql t vx vy = do pure (.bool (← Op.equal t vx vy))) (h2 : binOp .neq t vx vy = do pure (.bool (!(← Op.equal t vx vy))))
    (he : ∀ d : Nat, (Op.equalIn (d + 1) t vx vy).run P w = .ok b w) : Pev P ρ σ I w (do eqGuard op t ox oy vx vy; binOp op t vx vy) (bR op b σ) := by
  have heq := equal_run he
  cases op <;> simp only [bR] <;> try exact .bad
  · exact .ok (v := .bool b) (by simp [hg, h1, heq]) (.d (.bool _))
  · exact .ok (v := .bool (!b)) (by simp [hg, h2, heq]) (.d (.bool _))

theorem bEq_sound (op : BinOp) (t : TypeId) (c : Bool) (x y : AV) (vx vy : Value) (ox oy : Operand) (hc : c = true → isC ox = true ∨ isC oy = true) (hx : V ρ σ I w x vx) (hy : V ρ σ I w y vy) :
    Pev P ρ σ I w (do eqGuard op t ox oy vx vy; binOp op t vx vy) (bEq P op (P.underlying t) c x y σ) := by
  have gd : ∀ {p q : Option Addr} {m k n l : Nat} (op : BinOp), (eqGuard op t ox oy (.slice p m k) (.slice q n l)).run P w = .ok () w := fun op => by cases op <;> rfl
  have gp : ∀ {p q : Option Addr} (op : BinOp), (eqGuard op t ox oy (.pointer p) (.pointer q)).run P w = .ok () w := fun op => by cases op <;> rfl
  have gm : ∀ {p q : Option Nat} (op : BinOp), (eqGuard op t ox oy (.map p) (.map q)).run P w = .ok () w := fun op => by cases op <;> rfl
  unfold bEq
  split
  · rename_i e ht
    cases hx.d_inv; cases hy.d_inv
    exact bR_sound gd rfl rfl fun d => by simp [Op.equalIn, run_underlying ht]
  · rename_i e e' ht
    cases hy.d_inv
    cases hx.d_inv with
    | listNil _ p =>
     cases p with
     | some a =>
      have h := bR_sound (P := P) (ρ := ρ) (σ := σ) (I := I) (w := w) (op := op) (t := t) (ox := ox) (oy := oy) (vx := .slice (some a) 0 0) (vy := .slice none 0 0) (b := false) gd rfl rfl fun d => by simp [Op.equalIn, run_underlying ht]
      cases op <;> simp only [cond_true, cond_false] <;> try exact .bad
      · exact .right h
      · exact .left h
     | none =>
      have h := bR_sound (P := P) (ρ := ρ) (σ := σ) (I := I) (w := w) (op := op) (t := t) (ox := ox) (oy := oy) (vx := .slice none 0 0) (vy := .slice none 0 0) (b := true) gd rfl rfl fun d => by simp [Op.equalIn, run_underlying ht]
      cases op <;> simp only [cond_true, cond_false] <;> try exact .bad
      · exact .left h
      · exact .right h
    | list us q1 q2 q0 q3 q4 =>
      rename_i b off n cap
      have h := bR_sound (P := P) (ρ := ρ) (σ := σ) (I := I) (w := w) (op := op) (t := t) (ox := ox) (oy := oy) (vx := .slice (some ⟨b, off, none⟩) n cap) (vy := .slice none 0 0) (b := false) gd rfl rfl fun d => by simp [Op.equalIn, run_underlying ht]
      cases op <;> simp only [cond_true, cond_false] <;> try exact .bad
      · exact .right h
      · exact .left h
  · rename_i e e' x xs ht
    cases hy.d_inv
    cases hx.d_inv with
    | list us q1 q2 q0 q3 q4 => exact bR_sound gd rfl rfl fun d => by simp [Op.equalIn, run_underlying ht]
  · rename_i el b g off n ht
    split
    · rename_i g' e' xs' hst
      have hs := stGet_some hst (by simp)
      refine .need fun ⟨hg, hn⟩ => ?_
      subst hg
      cases hy.d_inv
      cases hx with
      | ownOld k1 k2 => rw [hs] at k1; cases k1; exact absurd (k2 _ _ _ rfl) (by omega)
      | ownNil k1 k2 => exact absurd hn (by omega)
      | own k1 k2 k3 => exact bR_sound gd rfl rfl fun d => by simp [Op.equalIn, run_underlying ht]
    · exact .bad
  · rename_i e ht
    cases hx.d_inv; cases hy.d_inv
    exact bR_sound gp rfl rfl fun d => by simp [Op.equalIn, run_underlying ht]
  · rename_i e b o ht
    cases hy.d_inv
    cases hx
    exact bR_sound gp rfl rfl fun d => by simp [Op.equalIn, run_underlying ht]
  · rename_i el b o b' o' ht
    refine .need fun ⟨h1, h2, h3⟩ => ?_
    subst h1 h2
    cases hx with | ptr k1 k2 =>
    cases hy with | ptr k3 k4 =>
    rw [k2] at k4; cases k4
    exact bR_sound gp rfl rfl fun d => by simp [Op.equalIn, run_underlying ht, run_sizeOf_pos h3, Nat.ne_of_gt h3, run_sameAddr_same]
  · rename_i ms ht
    refine .need fun h => ?_
    cases hx.d_inv; cases hy.d_inv
    have hcc := hc h
    have gi : ∀ (op : BinOp), (eqGuard op t ox oy .nilIface .nilIface).run P w = .ok () w := fun op => by
      cases ox <;> cases oy <;> first | (exfalso; simp [isC] at hcc; done) | (cases op <;> rfl)
    exact bR_sound gi rfl rfl fun d => by simp [Op.equalIn, run_underlying ht]
  · rename_i ms u z ht
    cases hy.d_inv
    cases hx.d_inv
    exact bR_sound (fun op => by cases op <;> rfl) rfl rfl fun d => by simp [Op.equalIn, run_underlying ht]
  · rename_i ms u z ht
    cases hy.d_inv
    cases hx
    exact bR_sound (fun op => by cases op <;> rfl) rfl rfl fun d => by simp [Op.equalIn, run_underlying ht]
  · rename_i p r v ht
    cases hx.d_inv; cases hy.d_inv
    exact bR_sound (fun op => by cases op <;> rfl) rfl rfl fun d => by simp [Op.equalIn, run_underlying ht]
  · rename_i p r v f ht
    cases hx.d_inv; cases hy.d_inv
    exact bR_sound (fun op => by cases op <;> rfl) rfl rfl fun d => by simp [Op.equalIn, run_underlying ht]
  · rename_i p r v f a b ht
    cases hy.d_inv
    cases hx
    exact bR_sound (fun op => by cases op <;> rfl) rfl rfl fun d => by simp [Op.equalIn, run_underlying ht]
  · rename_i k v ht
    cases hx.d_inv; cases hy.d_inv
    exact bR_sound gm rfl rfl fun d => by simp [Op.equalIn, run_underlying ht]
  · rename_i k v b ht
    cases hy.d_inv
    cases hx
    exact bR_sound gm rfl rfl fun d => by simp [Op.equalIn, run_underlying ht]
  · exact .bad

theorem rBin_sound (op : BinOp) (t : TypeId) (c : Bool) (x y : AV) (vx vy : Value) (ox oy : Operand) (hc : c = true → isC ox = true ∨ isC oy = true) (hx : V ρ σ I w x vx) (hy : V ρ σ I w y vy) :
    Pev P ρ σ I w (do eqGuard op t ox oy vx vy; binOp op t vx vy) (rBin P op t c x y σ) := by
  unfold rBin
  split
  · rw [hx.d_inv.int_inv, hy.d_inv.int_inv]
    exact bIntS_sound _ _ _ _ _ _ _ _
  · rw [hx.d_inv.str_inv, hy.d_inv.str_inv]; exact bStr_sound _ _ _ _ _ _
  · rw [hx.d_inv.bool_inv, hy.d_inv.bool_inv]
    exact .need fun h => bBool_sound _ _ _ _ _ _ h
  · obtain ⟨xs, rfl⟩ := hx.agg_inv
    obtain ⟨ys, rfl⟩ := hy.agg_inv
    exact bAgg_sound op t _ _ xs ys ox oy hx hy
  · exact bEq_sound op t c _ _ vx vy ox oy hc hx hy

/- unary -/
def rUn (op : UnOp) (x : AV) (σ : ST) : Res :=
  match op, x with
  | .not, .d (.bool b) => .ok (.d (.bool (!b))) σ
  | .neg, .d (.int k n) => .ok (.d (.int k (k.wrap (0 - n)))) σ
  | _, _ => .bad
@[go_sem] theorem rUn_not (b : Bool) (σ : ST) : rUn .not (.d (.bool b)) σ = .ok (.d (.bool (!b))) σ := nrfl rfl
@[go_sem] theorem rUn_neg (k : IntKind) (n : Int) (σ : ST) : rUn .neg (.d (.int k n)) σ = .ok (.d (.int k (k.wrap (0 - n)))) σ := nrfl rfl
theorem rUn_sound (op : UnOp) (x : AV) (v : Value) (h : V ρ σ I w x v) : Pev P ρ σ I w (Op.unary op v) (rUn op x σ) := by
  unfold rUn
  split
  · rw [h.d_inv.bool_inv]; exact .ok (v := .bool _) rfl (.d (.bool _))
  · rw [h.d_inv.int_inv]; exact .ok (v := .int _ _) rfl (.d (.int _ _))
  · exact .bad

/- conversions that make no memory -/
def rConv (P : Program) (src dst : TypeId) (x : AV) (σ : ST) : Res :=
  match P.underlying src, P.underlying dst, x with
  | some _, some (.int k), .d (.int _ n) => .ok (.d (.int k (k.wrap n))) σ
  | some (.int _), some .string, .d (.int _ n) => .ok (.d (.str (Utf8.encode n).data.toList)) σ
  | some .string, some .string, .d (.str s) => .ok (.d (.str s)) σ
  | _, _, _ => .bad
theorem rConv_eq (src dst : TypeId) (x : AV) (σ : ST) : rConv P src dst x σ = match P.underlying src, P.underlying dst, x with
  | some _, some (.int k), .d (.int _ n) => .ok (.d (.int k (k.wrap n))) σ
  | some (.int _), some .string, .d (.int _ n) => .ok (.d (.str (Utf8.encode n).data.toList)) σ
  | some .string, some .string, .d (.str s) => .ok (.d (.str s)) σ
  | _, _, _ => .bad := nrfl rfl
theorem rConv_sound (src dst : TypeId) (x : AV) (v : Value) (h : V ρ σ I w x v) : Pev P ρ σ I w (convert src dst v) (rConv P src dst x σ) := by
  unfold rConv
  split
  · rename_i h1 h2
    rw [h.d_inv.int_inv]
    exact .ok (v := .int _ _) (by simp only [convert, Sem.run_bind, run_underlying h1, run_underlying h2, Result.andThen_ok]; rfl) (.d (.int _ _))
  · rename_i h1 h2
    rw [h.d_inv.int_inv]
    exact .ok (v := .string ⟨⟨(Utf8.encode _).data.toList⟩⟩) (by simp only [convert, Sem.run_bind, run_underlying h1, run_underlying h2, Result.andThen_ok]; rfl) (.d (.str _))
  · rename_i h1 h2
    rw [h.d_inv.str_inv]
    exact .ok (v := .string _) (by simp only [convert, Sem.run_bind, run_underlying h1, run_underlying h2, Result.andThen_ok]; rfl) (.d (.str _))
  · exact .bad

/- interfaces, functions -/
def rIface (P : Program) (t : TypeId) (x : AV) (σ : ST) : Res :=
  match P.underlying t with
  | none | some (.interface _) => .bad
  | _ => match x with
    | .d x => .ok (.d (.iface t x)) σ
    | x => .ok (.iface t x) σ
theorem rIface_sound (t : TypeId) (x : AV) (v : Value) (h : V ρ σ I w x v) : Pev P ρ σ I w (Instr.makeInterface t v) (rIface P t x σ) := by
  unfold rIface
  split
  · exact .bad
  · exact .bad
  · rename_i hn hi
    have hrun : (Instr.makeInterface t v).run P w = .ok (.iface t v) w := by
      cases hu : P.underlying t with
      | none => exact absurd hu hn
      | some dd =>
        simp only [Instr.makeInterface, Sem.run_bind, run_underlying hu, Result.andThen_ok]
        cases dd <;> first | rfl | exact absurd hu (hi _)
    split
    · exact .ok hrun (.d (.iface _ h.d_inv))
    · exact .ok hrun (.iface _ h)

def rFunc (f : Fn) (first cap : List AV) (σ : ST) : Res :=
  match first, cap with
  | [], [] => .ok (.d (.func f)) σ
  | first, cap => .ok (.func f first cap) σ
@[go_sem] theorem rFunc_none (f : Fn) (σ : ST) : rFunc f [] [] σ = .ok (.d (.func f)) σ := nrfl rfl
@[go_sem] theorem rFunc_cap (f : Fn) (a : AV) (l : List AV) (σ : ST) : rFunc f [] (a :: l) σ = .ok (.func f [] (a :: l)) σ := nrfl rfl
@[go_sem] theorem rFunc_first (f : Fn) (a : AV) (l : List AV) (c : List AV) (σ : ST) : rFunc f (a :: l) c σ = .ok (.func f (a :: l) c) σ := nrfl rfl
theorem rFunc_sound (f : Fn) (first cap : List AV) (vf vc : Array Value) (hf : VL ρ σ I w first vf) (hc : VL ρ σ I w cap vc) :
    Pev P ρ σ I w (Instr.makeFunc f vf vc) (rFunc f first cap σ) := by
  unfold rFunc
  split
  · have e1 : vf = #[] := by have := hf.1; simp at this; exact Array.eq_empty_of_size_eq_zero this.symm
    have e2 : vc = #[] := by have := hc.1; simp at this; exact Array.eq_empty_of_size_eq_zero this.symm
    subst e1 e2
    exact .ok (v := .func f #[] #[]) rfl (.d (.func f))
  · exact .ok (v := .func f vf vc) rfl (.func hf.1 hf.2 hc.1 hc.2)

/- len -/
def rLen (P : Program) (t : TypeId) (x : AV) (σ : ST) : Res :=
  match P.underlying t, x with
  | some (.slice _), .d (.list _ xs) => .ok (.d (.int .i64 (xs.length : Nat))) σ
  | some (.slice _), .d .nilslice => .ok (.d (.int .i64 0)) σ
  | some (.slice _), .own b g off n =>
    match stGet σ b with
    | .arr g' _ _ => .need (g = g') (.ok (.d (.int .i64 (n : Nat))) σ)
    | _ => .bad
  | some .string, .d (.str s) => .ok (.d (.int .i64 (s.length : Nat))) σ
  | some (.array n _), _ => .ok (.d (.int .i64 (n : Nat))) σ
  | _, _ => .bad
theorem rLen_list {t e : TypeId} (h : P.underlying t = some (.slice e)) (w : Nat) (xs : List DV) (σ : ST) : rLen P t (.d (.list w xs)) σ = .ok (.d (.int .i64 (xs.length : Nat))) σ := by simp only [rLen, h]
theorem rLen_nil {t e : TypeId} (h : P.underlying t = some (.slice e)) (σ : ST) : rLen P t (.d .nilslice) σ = .ok (.d (.int .i64 0)) σ := by simp only [rLen, h]
theorem rLen_own {t e : TypeId} (h : P.underlying t = some (.slice e)) (b g off n : Nat) (σ : ST) : rLen P t (.own b g off n) σ = match stGet σ b with
    | .arr g' _ _ => .need (g = g') (.ok (.d (.int .i64 (n : Nat))) σ)
    | _ => .bad := by simp only [rLen, h]
theorem rLen_str {t : TypeId} (h : P.underlying t = some .string) (s : List UInt8) (σ : ST) : rLen P t (.d (.str s)) σ = .ok (.d (.int .i64 (s.length : Nat))) σ := by simp only [rLen, h]

theorem rLen_sound (t ty : TypeId) (ts : Array TypeId) (x : AV) (v : Value) (ht : ts[0]? = some t) (h : V ρ σ I w x v) : Pev P ρ σ I w (Builtin.len_ ts ty #[v]) (rLen P t x σ) := by
  unfold rLen
  split
  · rename_i h1
    cases h.d_inv <;> exact .ok (v := .int _ _) (by simp [Builtin.len_, ht, run_underlying h1, goInt, *]) (.d (.int _ _))
  · rename_i h1
    cases h.d_inv; exact .ok (v := .int _ _) (by simp [Builtin.len_, ht, run_underlying h1, goInt]) (.d (.int _ _))
  · rename_i b g off n h1
    split
    · rename_i g' e' xs' hst
      have hs := stGet_some hst (by simp)
      refine .need fun hg => ?_
      subst hg
      cases h with
      | ownOld k1 k2 => rw [hs] at k1; cases k1; exact absurd (k2 _ _ _ rfl) (by omega)
      | ownNil k1 k2 => exact .ok (v := .int _ _) (by simp [Builtin.len_, ht, run_underlying h1, goInt]) (.d (.int _ _))
      | own k1 k2 k3 => exact .ok (v := .int _ _) (by simp [Builtin.len_, ht, run_underlying h1, goInt]) (.d (.int _ _))
    · exact .bad
  · rename_i h1
    rw [h.d_inv.str_inv]
    exact .ok (v := .int _ _) (by simp [Builtin.len_, ht, run_underlying h1, goInt]; rfl) (.d (.int _ _))
  · rename_i h1
    exact .ok (v := .int _ _) (by simp [Builtin.len_, ht, run_underlying h1, goInt]) (.d (.int _ _))
  · exact .bad

/- min, max -/
def rMin : List AV → ST → Res
  | [.d (.int k x)], σ => .ok (.d (.int k x)) σ
  | [.d (.int k x), .d (.int k' y)], σ => .ok (.d (.int k (if y < x then y else x))) σ
  | [.d (.int k x), .d (.int _ y), .d (.int _ z)], σ => .ok (.d (.int k (if z < (if y < x then y else x) then z else (if y < x then y else x)))) σ
  | _, _ => .bad
def rMax : List AV → ST → Res
  | [.d (.int k x)], σ => .ok (.d (.int k x)) σ
  | [.d (.int k x), .d (.int k' y)], σ => .ok (.d (.int k (if x < y then y else x))) σ
  | _, _ => .bad
attribute [go_sem] rMin rMax

/- extract -/
def rExtract (x : AV) (i : Nat) (σ : ST) : Res :=
  match x with
  | .tuple vs => .need (i < vs.length) (.ok (vs.getD i .any) σ)
  | _ => .bad
@[go_sem] theorem rExtract_tuple (vs : List AV) (i : Nat) (σ : ST) : rExtract (.tuple vs) i σ = .need (i < vs.length) (.ok (vs.getD i .any) σ) := nrfl rfl
theorem rExtract_sound (x : AV) (v : Value) (i : Nat) (h : V ρ σ I w x v) : Pev P ρ σ I w (Instr.extract v i) (rExtract x i σ) := by
  unfold rExtract
  split
  · rename_i vs
    refine .need fun hi => ?_
    cases h with | tuple hl h =>
    rename_i us
    refine .ok (v := us.getD i undef) ?_ (h i _ (by simp [List.getD_eq_getElem?_getD, hi]))
    have hi' : i < us.size := by omega
    simp [Instr.extract, hi', Array.getD_eq_getD_getElem?]
  · exact .bad

/- nilCheck -/
def rNil (x : AV) (σ : ST) : Res :=
  match x with
  | .ptr b o => .ok (.ptr b o) σ
  | .iptr cs => .ok (.iptr cs) σ
  | .d (.func (.func f)) => .ok (.d (.func (.func f))) σ
  | .func (.func f) a b => .ok (.func (.func f) a b) σ
  | .d (.iface t x) => .ok (.d (.iface t x)) σ
  | .iface t x => .ok (.iface t x) σ
  | _ => .bad
attribute [go_sem] rNil
end
end Nv
